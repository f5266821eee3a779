/- Contract of slices.Insert of one element at [][]api.Out: the elements are whatever their cells are tied to. -/
import Derived.Test.YtmdeokneablgaaaDoorPRow
import Derived.Test.YtmdeokneablgaaaDoorPClone
namespace Go.Proofs.YtmdeokneablgaaaDoor
open Go.ChangeShapes Go.WideShapes Go.ChangeAt Go.RowKit

set_option maxRecDepth 100000 in
set_option maxHeartbeats 1600000 in
theorem insertOut {α : Type} {R : List Value → α → Prop} (h1 : ∀ cs x, R cs x → ∀ u ∈ cs, u.oneCell' = true) (l : List α) (i : Nat) (y : α) (v : Value) (w : World) (base gx : Nat) (xs : Array Value) (h : OwnSl R 5 w base 54 v l)
    (hbase : base ≤ w.heap.size) (hB : Blk w gx 54 xs) (hc : xs.size = 5) (hR : R xs.toList y) (hgx : v.ownBlock ≠ some gx) (hi : i ≤ l.length) (hbig : l.length < 1073741824) :
    Calls Tryd.prog 46 #[v, .int .i64 i, .slice (some ⟨gx, 0, none⟩) 1 1] w (Inserted R 5 54 base v (l.take i ++ y :: l.drop i) w) := by
  obtain ⟨i0, z0, hi0, hz0, hzs, hz1, hz2⟩ := info_of infoOutRow
  have hone : Sl R 5 w w.heap.size (.slice (some ⟨gx, 0, none⟩) 1 1) [y] := (OwnSl.of_blk (l := [y]) hB (Chunks.one (by simpa using hc) hR) (by simp)).sl
  generalize hL : l.take i ++ y :: l.drop i = L
  have HL := Lib.hid hL
  clear hL
  have H := Lib.hid h
  have HONE := Lib.hid hone
  have HB := Lib.hid hB
  clear hone
  by_cases hend : i = l.length
  · subst hend
    have HE := Lib.hid (show L = l ++ [y] by rw [← HL.out]; simp)
    have hnn : (((l.length : Nat) : Int) == (l.length : Int)) = true := by simp
    obtain ⟨A, c, rfl⟩ := h.form
    rcases h.forms with ⟨hv, rfl⟩ | ⟨g, c1, hv, hg1, hg2⟩
    · injection hv with hv1 hv2 hv3
      subst hv1 hv3
      clear h hB hgx
      simp only [List.length_nil] at *
      go_enter Tryd.func46, Tryd.ntmps46
      go_wp2_with (at_builtin; refine wpList_append_sl _ h1 rfl (.tmp 23) (.tmp 24) 52 rfl base 54 i0 _ 56 Tryd.underlying52 hi0 hz0 hz1 hz2 hzs (by omega) _ [] rfl H.out w.heap.size _ [y] rfl HONE.out (by simp) (by omega) hbase ?_; intro v1 w1 hown hgr hat)
      have H1 := Lib.hid hown
      have H2 := Lib.hid hgr
      have H3 := Lib.hid hat
      clear hown hgr hat hi0 hz0 hzs hz1 hz2
      go_wp2_with fail
      go_ret
      exact ⟨_, rfl, by rw [HE.out]; exact H1.out, H2.out, H3.out.imp id fun h => ⟨_, h, Nat.le_refl _⟩⟩
    · injection hv with hv1 hv2 hv3
      subst hv1 hv3
      obtain ⟨cur, -, -, -, hnc, hcm, -, -, -⟩ := h.open_
      unfold maxLen at hcm
      clear h hB hgx
      go_enter Tryd.func46, Tryd.ntmps46
      go_wp2_with (at_builtin; refine wpList_append_sl _ h1 rfl (.tmp 23) (.tmp 24) 52 rfl base 54 i0 _ 56 Tryd.underlying52 hi0 hz0 hz1 hz2 hzs (by omega) _ l rfl H.out w.heap.size _ [y] rfl HONE.out (by simp; omega) (by omega) hbase ?_; intro v1 w1 hown hgr hat)
      all_goals
        have H1 := Lib.hid hown
        have H2 := Lib.hid hgr
        have H3 := Lib.hid hat
        clear hown hgr hat hi0 hz0 hzs hz1 hz2
        go_wp2_with fail
        go_ret
        exact ⟨_, rfl, by rw [HE.out]; exact H1.out, H2.out, H3.out.imp id fun h => ⟨_, h, Nat.le_refl _⟩⟩
  · rcases h.forms with ⟨rfl, rfl⟩ | ⟨g, c, rfl, hg1, hg2⟩
    · simp only [List.length_nil] at hi hend; omega
    obtain ⟨cur, -, -, hBk, hnc, hcm, hcs, -, hch⟩ := h.open_
    obtain ⟨hA, hBm⟩ := hch.split i hi
    have hXl := hch.length
    have hAl := hA.length
    have hBl := hBm.length
    rw [show (l.take i).length = i by simp; omega] at hAl
    rw [show (l.drop i).length = l.length - i by simp] at hBl
    have hcell : ∀ j u, (cur.toList.take (l.length * 5))[j]? = some u → w.cell? ⟨g, j, none⟩ = some u := fun j u hj => by
      rw [hBk.cell j]
      rw [List.getElem?_take] at hj
      split at hj
      · simpa using hj
      · cases hj
    generalize hX : cur.toList.take (l.length * 5) = X at hA hBm hXl hAl hBl hcell
    have hAc : ∀ j u, (X.take (i * 5))[j]? = some u → w.cell? ⟨g, j, none⟩ = some u := fun j u hj => by
      rw [List.getElem?_take] at hj
      split at hj
      · exact hcell j u hj
      · cases hj
    have hBc : ∀ j u, (X.drop (i * 5))[j]? = some u → w.cell? ⟨g, i * 5 + j, none⟩ = some u := fun j u hj => by
      rw [List.getElem?_drop] at hj
      exact hcell _ u hj
    have hgn : g ≠ gx := fun e => hgx (by rw [e]; rfl)
    have hone1 : ∀ v ∈ xs.toList, v.oneCell' = true := h1 _ _ hR
    have hone2 : ∀ v ∈ X.drop (i * 5), v.oneCell' = true := hBm.one_cell h1
    have HCH : Hid (∀ Z : List Value, Chunks R 5 ((X.take (i * 5) ++ xs.toList ++ X.drop (i * 5) ++ Z).take ((l.length + 1) * 5)) L) := fun Z => by
      have e : (X.take (i * 5) ++ xs.toList ++ X.drop (i * 5)).length = (l.length + 1) * 5 := by simp only [List.length_append, hAl, hBl, Array.length_toList, hc]; omega
      rw [← e, List.take_left', ← HL.out, List.append_assoc]
      · exact hA.append ((Chunks.one (by simpa using hc) hR : Chunks R 5 xs.toList [y]).append hBm)
      · rfl
    have hszE : (Tryd.prog.info? 54).map (·.size) = some 5 := by rw [hi0]; simp [hz1]
    generalize hAA : X.take (i * 5) = A at hA hAl hAc HCH
    generalize hBB : X.drop (i * 5) = Bm at hBm hBl hBc hone2 HCH
    have hilt : i < l.length := by omega
    have hz2' : ¬ ((i : Int) = (l.length : Int)) := by omega
    have HLN : Hid (L.length = l.length + 1) := by
      show L.length = l.length + 1
      rw [← HL.out]; simp; omega
    unfold maxLen at hcm
    by_cases hroom : l.length + 1 ≤ c
    · have hcurA : cur.toList.take (i * 5) = A := by
        rw [← hAA, ← hX, List.take_take, Nat.min_eq_left (by omega)]
      obtain ⟨C1, hC1⟩ : ∃ C1 : Array Value, C1 = (cur.toList.take ((i + 1) * 5) ++ Bm ++ cur.toList.drop ((i + 1) * 5 + Bm.length)).toArray := ⟨_, rfl⟩
      have hC1s : C1.size = c * 5 := by
        rw [hC1]
        simp only [List.size_toArray, List.length_append, List.length_take, List.length_drop, Array.length_toList, hcs, hBl]
        omega
      obtain ⟨C2, hC2⟩ : ∃ C2 : Array Value, C2 = (C1.toList.take (i * 5) ++ xs.toList ++ C1.toList.drop (i * 5 + xs.toList.length)).toArray := ⟨_, rfl⟩
      have hC2s : C2.size = c * 5 := by
        rw [hC2]
        simp only [List.size_toArray, List.length_append, List.length_take, List.length_drop, Array.length_toList, hC1s, hc]
        omega
      have hfin : Chunks R 5 (C2.toList.take (L.length * 5)) L := by
        have e1 : (cur.toList.take ((i + 1) * 5)).length = i * 5 + 5 := by simp only [List.length_take, Array.length_toList, hcs]; omega
        have e2 : C1.toList.take (i * 5) = A := by
          rw [hC1, ← hcurA]
          show List.take (i * 5) (_ ++ _ ++ _) = _
          rw [List.append_assoc, List.take_append_of_le_length (by omega), List.take_take, Nat.min_eq_left (by omega)]
        have e3 : C1.toList.drop (i * 5 + xs.toList.length) = Bm ++ cur.toList.drop ((i + 1) * 5 + Bm.length) := by
          rw [hC1, Array.length_toList, hc]
          show List.drop (i * 5 + 5) (_ ++ _ ++ _) = _
          rw [List.append_assoc, List.drop_left' e1]
        rw [hC2, HLN.out]
        show Chunks R 5 (List.take _ (_ ++ _ ++ _)) L
        rw [e2, e3, ← List.append_assoc]
        exact HCH.out _
      have hov : ∀ lb cb, (callFunc 67 #[.slice (some ⟨gx, 0, none⟩) 1 1, .slice (some ⟨g, (i + 1) * 5, none⟩) lb cb]).run Tryd.prog w = .ok (.value (.bool false)) w := fun lb cb => by
        rw [run_callFunc_extern Tryd.func67 (by kernel_rfl) (by kernel_rfl) (by kernel_rfl) (e := Extern.SlicesOverlaps.overlaps #[52, 52] #[4]) (by kernel_rfl),
          Lib.run_overlaps_apart w 52 4 54 Tryd.underlying52 5 (fun w => by simp [sizeOf, typeInfo, hi0, hz1]) ⟨gx, 0, none⟩ ⟨g, (i + 1) * 5, none⟩ 1 1 lb cb (Ne.symm hgn) 54 54 5 (c * 5)
            (by have := HB.out; unfold Blk at this; simp [World.shape?, this, hc]) (by have := hBk; unfold Blk at this; simp [World.shape?, this, hcs]) (by omega) (HB.out.frozen 0) (HB.out.frozen 5)]
        rfl
      have hcp1 : ∀ W : World, Blk W g 54 cur → ∀ ty' dc sc, (Builtin.copy_ #[52, 52] ty' #[.slice (some ⟨g, (i + 1) * 5, none⟩) (l.length + 1 - (i + 1)) dc, .slice (some ⟨g, i * 5, none⟩) (l.length + 1 - i) sc]).run Tryd.prog W = .ok (goInt (l.length - i : Nat)) (W.setRow g C1) := fun W hN ty' dc sc => by
        rw [hC1]
        exact run_copy_rowK 5 W _ _ ty' 54 g ((i + 1) * 5) (l.length + 1 - (i + 1)) dc ⟨g, i * 5, none⟩ (l.length + 1 - i) sc cur 54 Bm (l.length - i) Tryd.underlying52 hszE hN (by simp only [Nat.min_def]; split <;> omega) hBl
          (fun j u hj => by rw [add_at, hN.cell, ← hBk.cell]; exact hBc j u hj) (by rw [hBl, hcs]; omega) hone2
      have hcp2 : ∀ W : World, Blk W g 54 C1 → Blk W gx 54 xs → ∀ ty' dc, (Builtin.copy_ #[52, 52] ty' #[.slice (some ⟨g, i * 5, none⟩) (l.length + 1 - i) dc, .slice (some ⟨gx, 0, none⟩) 1 1]).run Tryd.prog W = .ok (goInt 1) (W.setRow g C2) := fun W hN hx ty' dc => by
        rw [hC2]
        exact run_copy_rowK 5 W _ _ ty' 54 g (i * 5) (l.length + 1 - i) dc ⟨gx, 0, none⟩ 1 1 C1 54 xs.toList 1 Tryd.underlying52 hszE hN (by simp only [Nat.min_def]; split <;> omega) (by simp [hc])
          (fun j u hj => by rw [add_at, Nat.zero_add, hx.cell j]; simpa using hj) (by simp only [Array.length_toList, hc, hC1s]; omega) hone1
      have hcp1 := Lib.hid hcp1
      have hcp2 := Lib.hid hcp2
      have hfin := Lib.hid hfin
      have B1 := hBk.drew.setRow' (cs' := C1)
      have X1 := (HB.out.drew).farRow' (cs' := C1) (Ne.symm hgn)
      clear hC1 hC2 hcurA hX hAA hBB
      have hw1 : IntKind.i64.wrap ((i : Int) + 1) = (i : Int) + 1 := IntWalk.i64_in _ (by omega)
      have hb1 : (0 : Int) ≤ (i : Int) + 1 := by omega
      have htn : ((i : Int) + 1).toNat = i + 1 := by omega
      have hGim : ¬ (c = i + 1) := by omega
      have hcin : ¬ (c = i) := by omega
      have hb3 : (i : Int) ≤ (l.length : Int) + 1 := by omega
      have hb4 : (i : Int) + 1 ≤ (l.length : Int) + 1 := by omega
      have hb5 : (l.length : Int) + 1 ≤ (c : Int) := by omega
      go_enter Tryd.func46, Tryd.ntmps46
      go_wp2_with (simp only [hov])
      go_region_law (refine step_copy_runK rfl _ _ 52 52 rfl (.slice (some ⟨g, (i + 1) * 5, none⟩) (l.length + 1 - (i + 1)) (c - (i + 1))) (.slice (some ⟨g, i * 5, none⟩) (l.length + 1 - i) (c - i)) (by simp [Act.eval, Act.put]) (by simp [Act.eval, Act.put]) (hcp1.out _ hBk.drew _ _ _) ?_)
      go_wp2_with (refine wpList_copy_runK _ rfl (.tmp 80) (.tmp 81) 52 52 rfl _ _ rfl rfl (hcp2.out _ B1 X1 _ _) ?_)
      go_ret
      exact ⟨.slice (some ⟨g, 0, none⟩) (l.length + 1) c, rfl, OwnSl.shut hg1 (B1.setRow' (cs' := C2)) HLN.out.symm (by rw [HLN.out]; exact hroom) (by unfold maxLen; omega) hC2s (by rw [HLN.out]; omega) hfin.out,
        (grown_trans (grown_trans (grown_drew w _) (grown_setRow _ g C1)) (grown_setRow _ g C2)), .inl rfl⟩
    · obtain rfl : c = l.length := by omega
      have hhold : (Builtin.firstCells i0.size i (.slice (some ⟨g, 0, none⟩) i l.length)).run Tryd.prog w.drew = .ok A.toArray w.drew := by
        rw [hz1]
        exact run_firstCells_some w.drew 5 i ⟨g, 0, none⟩ i l.length A (by omega) (fun j u hj => by rw [add_at, Nat.zero_add]; exact hAc j u hj)
      have hkk : (l.length : Int) + 1 - (i : Int) = ((l.length + 1 - i : Nat) : Int) := by omega
      have hik : i + (l.length + 1 - i) = l.length + 1 := by omega
      have hrz : ∀ ty', (Builtin.append_ #[52, 3] ty' #[.slice (some ⟨g, 0, none⟩) i l.length, .int .i64 ((l.length + 1 - i : Nat) : Int)]).run Tryd.prog w =
          .ok (.slice (some ⟨w.heap.size, 0, none⟩) (l.length + 1) (grownCap w (l.length + 1) l.length 54)) (w.drew.alloc (.cells (A.toArray ++ Builtin.zeroCells z0.cells (l.length + 1 - i) ++ Builtin.zeroCells z0.cells (grownCap w (l.length + 1) l.length 54 - (l.length + 1))) 54)) := fun ty' => by
        have h := Lib.run_append_grow_zeros w 52 3 ty' 54 i0 z0 .i64 .i64 Tryd.underlying52 Tryd.underlying3 hi0 hz0 (some ⟨g, 0, none⟩) i l.length A hhold (l.length + 1 - i) (by omega) (by omega) (by omega) (by omega) (by rw [hz2]; omega) (by rw [hz2, hik]; exact growslice_fits (by omega) (by omega))
        rw [hik] at h
        exact h
      obtain ⟨G, hG⟩ : ∃ G, G = grownCap w (l.length + 1) l.length 54 := ⟨_, rfl⟩
      have hGn : l.length + 1 ≤ G := by rw [hG]; exact grownCap_ge w _ _ _
      have hG63 : G ≤ maxLen := by rw [hG]; exact grownCap_le_maxLen w _ _ _ (by unfold maxLen; omega)
      have hG64 : G ≤ 9223372036854775807 := by unfold maxLen at hG63; omega
      simp only [← hG] at hrz
      obtain ⟨ROW, hROW⟩ : ∃ ROW : Array Value, ROW = A.toArray ++ Builtin.zeroCells z0.cells (l.length + 1 - i) ++ Builtin.zeroCells z0.cells (G - (l.length + 1)) := ⟨_, rfl⟩
      simp only [← hROW] at hrz
      have hRs : ROW.size = G * 5 := by
        rw [hROW]
        simp only [Array.size_append, List.size_toArray, Builtin.zeroCells, Array.size_map, Array.size_range, hzs, hAl]
        omega
      have hRA : ROW.toList.take (i * 5) = A := by
        rw [hROW, ← hAl]
        simp
      obtain ⟨R1, hR1⟩ : ∃ R1 : Array Value, R1 = (ROW.toList.take (i * 5) ++ xs.toList ++ ROW.toList.drop (i * 5 + xs.toList.length)).toArray := ⟨_, rfl⟩
      have hR1s : R1.size = G * 5 := by
        rw [hR1]
        simp only [List.size_toArray, List.length_append, List.length_take, List.length_drop, Array.length_toList, hRs, hc]
        omega
      have hR1A : R1.toList.take ((i + 1) * 5) = A ++ xs.toList := by
        rw [hR1, hRA]
        have e : (A ++ xs.toList).length = (i + 1) * 5 := by simp only [List.length_append, hAl, Array.length_toList, hc]; omega
        exact List.take_left' e
      have hcpA : ∀ W : World, Blk W w.heap.size 54 ROW → Blk W gx 54 xs → ∀ ty' dc, (Builtin.copy_ #[52, 52] ty' #[.slice (some ⟨w.heap.size, i * 5, none⟩) (l.length + 1 - i) dc, .slice (some ⟨gx, 0, none⟩) 1 1]).run Tryd.prog W = .ok (goInt 1) (W.setRow w.heap.size R1) := fun W hN hx ty' dc => by
        rw [hR1]
        exact run_copy_rowK 5 W _ _ ty' 54 w.heap.size (i * 5) (l.length + 1 - i) dc ⟨gx, 0, none⟩ 1 1 ROW 54 xs.toList 1 Tryd.underlying52 hszE hN (by simp only [Nat.min_def]; split <;> omega) (by simp [hc])
          (fun j u hj => by rw [add_at, Nat.zero_add, hx.cell j]; simpa using hj) (by simp only [Array.length_toList, hc, hRs]; omega) hone1
      obtain ⟨R2, hR2⟩ : ∃ R2 : Array Value, R2 = (R1.toList.take ((i + 1) * 5) ++ Bm ++ R1.toList.drop ((i + 1) * 5 + Bm.length)).toArray := ⟨_, rfl⟩
      have hR2s : R2.size = G * 5 := by
        rw [hR2]
        simp only [List.size_toArray, List.length_append, List.length_take, List.length_drop, Array.length_toList, hR1s, hBl]
        omega
      have hfin : Chunks R 5 (R2.toList.take (L.length * 5)) L := by
        rw [hR2, hR1A, HLN.out]
        exact HCH.out _
      have hcpB : ∀ W : World, Blk W w.heap.size 54 R1 → (∀ j u, Bm[j]? = some u → W.cell? ⟨g, i * 5 + j, none⟩ = some u) → ∀ ty' dc sc, (Builtin.copy_ #[52, 52] ty' #[.slice (some ⟨w.heap.size, (i + 1) * 5, none⟩) (l.length + 1 - (i + 1)) dc, .slice (some ⟨g, i * 5, none⟩) (l.length - i) sc]).run Tryd.prog W = .ok (goInt (l.length - i : Nat)) (W.setRow w.heap.size R2) := fun W hN hx ty' dc sc => by
        rw [hR2]
        exact run_copy_rowK 5 W _ _ ty' 54 w.heap.size ((i + 1) * 5) (l.length + 1 - (i + 1)) dc ⟨g, i * 5, none⟩ (l.length - i) sc R1 54 Bm (l.length - i) Tryd.underlying52 hszE hN (by simp only [Nat.min_def]; split <;> omega) hBl
          (fun j u hj => by rw [add_at]; exact hx j u hj) (by rw [hBl, hR1s]; omega) hone2
      have hcpA := Lib.hid hcpA
      have hcpB := Lib.hid hcpB
      have hfin := Lib.hid hfin
      have hrz := Lib.hid hrz
      clear hhold hROW hG hR1 hR2 hR1A hRA
      go_enter Tryd.func46, Tryd.ntmps46
      have BN := (Blk.new w 54 ROW).drew
      have BX := ((HB.out).alloc (o := .cells ROW 54)).drew
      go_wp2_with (first
        | (at_builtin; refine Lib.wpList_append_run _ rfl _ _ _ _ rfl _ _ rfl rfl _ _ (hrz.out _) ?_)
        | (refine wpList_copy_runK _ rfl (.tmp 43) (.tmp 44) 52 52 rfl _ _ rfl rfl (hcpA.out _ BN BX _ _) ?_))
      have B1 := BN.setRow' (cs' := R1)
      have Bg : ∀ j u, Bm[j]? = some u → ((w.alloc (.cells ROW 54)).drew.setRow w.heap.size R1).cell? ⟨g, i * 5 + j, none⟩ = some u := fun j u hj => by
        have := ((hBk.alloc (o := .cells ROW 54)).drew).farRow' (cs' := R1) (show g ≠ w.heap.size by omega)
        rw [this.cell, ← hBk.cell]
        exact hBc j u hj
      have hw1 : IntKind.i64.wrap ((i : Int) + 1) = (i : Int) + 1 := IntWalk.i64_in _ (by omega)
      have hb1 : (0 : Int) ≤ (i : Int) + 1 := by omega
      have htn : ((i : Int) + 1).toNat = i + 1 := by omega
      have hGim : ¬ (G = i + 1) := by omega
      have hcin : ¬ (l.length = i) := by omega
      have hb3 : (i : Int) ≤ (l.length : Int) := by omega
      have hb4 : (i : Int) + 1 ≤ (l.length : Int) + 1 := by omega
      go_region_law (refine step_copy_runK rfl _ _ 52 52 rfl (.slice (some ⟨w.heap.size, (i + 1) * 5, none⟩) (l.length + 1 - (i + 1)) (G - (i + 1))) (.slice (some ⟨g, i * 5, none⟩) (l.length - i) (l.length - i)) (by simp [Act.eval, Act.put]) (by simp [Act.eval, Act.put]) (hcpB.out _ B1.drew (fun j u hj => Bg j u hj) _ _ _) ?_)
      go_wp2_with fail
      go_ret
      exact ⟨.slice (some ⟨w.heap.size, 0, none⟩) (l.length + 1) G, rfl, OwnSl.shut hbase (B1.drew.setRow' (cs' := R2)) HLN.out.symm (by rw [HLN.out]; exact hGn) hG63 hR2s (by rw [HLN.out]; omega) hfin.out,
        grown_newRow (grown_drewN (grown_newRow (grown_drewN (World.grownBy_alloc w _ _)) (Nat.le_refl _) _)) (Nat.le_refl _) _, .inr ⟨w.heap.size, rfl, Nat.le_refl _⟩⟩
end Go.Proofs.YtmdeokneablgaaaDoor
