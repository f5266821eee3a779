/- Another one doesn't subscribe any more: the reference's. -/
import Derived.Test.YtmdeokneablgaaaDoorPRegion
import Derived.Test.YtmdeokneablgaaaDoorPClone
import Derived.Test.YtmdeokneablgaaaDoorPRow
import Derived.Test.YtmdeokneablgaaaDoorPCut
import Derived.Test.YtmdeokneablgaaaDoorPSlice
/- cmp.Compare at int. -/
namespace Go.Proofs.YtmdeokneablgaaaDoor
open Go.ChangeShapes Go.WideShapes Go.ChangeAt Go.RowKit

def cmpI (a b : Int) : Int := if a < b then -1 else if b < a then 1 else 0
theorem cmpCompare (a b : Int) (w : World) : Calls Tryd.prog 66 #[.int .i64 a, .int .i64 b] w fun e w' => e = .returned (.int .i64 (cmpI a b)) ∧ w = w' := by
  go_enter Tryd.func66, Tryd.ntmps66
  go_wp2
  all_goals (go_ret; exact ⟨by unfold cmpI; simp [*] <;> omega, rfl⟩)
theorem cmpI_lt {a b : Int} : cmpI a b < 0 ↔ a < b := by unfold cmpI; split <;> (try split) <;> omega
theorem cmpI_eq {a b : Int} : cmpI a b = 0 ↔ a = b := by unfold cmpI; split <;> (try split) <;> omega
end Go.Proofs.YtmdeokneablgaaaDoor
/- What a search for a place in a rising row comes to. No program is known here. -/
namespace Go.Proofs.YtmdeokneablgaaaDoor
open Go.ChangeShapes Go.WideShapes Go.ChangeAt Go.RowKit

def RisesBy {α : Type} (key : α → Int) (l : List α) : Prop := ∀ (i j : Nat) (x y : α), i < j → l[i]? = some x → l[j]? = some y → key x < key y
def foundAt {α : Type} (key : α → Int) (l : List α) (i : Nat) (n : Int) : Bool := match l[i]? with
  | some x => decide (key x = n)
  | none => false
def PlacePost {α : Type} (key : α → Int) (l : List α) (n : Int) (w : World) (e : Ending) (w' : World) : Prop :=
  ∃ i : Nat, i ≤ l.length ∧ (∀ (k : Nat) (x : α), k < i → l[k]? = some x → key x < n) ∧ (∀ (k : Nat) (x : α), i ≤ k → l[k]? = some x → n ≤ key x) ∧ e = .returned (.tuple #[.int .i64 i, .bool (foundAt key l i n)]) ∧ Below w.heap.size w w'
end Go.Proofs.YtmdeokneablgaaaDoor
/- Where an element stands, or would stand, in a row of Out that rises by to_: slices.BinarySearchFunc and the closures that the program hands it. -/
namespace Go.Proofs.YtmdeokneablgaaaDoor
open Go.ChangeShapes Go.WideShapes Go.ChangeAt Go.RowKit

theorem sessionPlace1 (x : Out) (n : Int) (A : Option Addr) (k cp : Nat) (w : World) : Calls Tryd.prog 65 #[.agg #[.int .i64 x.to_, .int .i64 x.session, .slice A k cp, .int .i64 x.at_, .int .i64 x.seq], .int .i64 n] w fun e w' => e = .returned (.int .i64 (cmpI x.to_ n)) ∧ Below w.heap.size w w' := by
  go_enter Tryd.func65, Tryd.ntmps65
  go_wp2_with fail
  refine BW.same (cmpCompare _ _ _) ?_
  go_wp2_with fail
  go_ret
  exact ⟨rfl, balloc (Below.refl _ _)⟩
set_option maxRecDepth 100000 in
set_option maxHeartbeats 1600000 in
theorem sessionPlace0 (l : List Out) (n : Int) (v : Value) (w : World) (h : Outs w w.heap.size v l) (hs : RisesBy Out.to_ l) :
    Calls Tryd.prog 64 #[v, .int .i64 n, .func (.func 65) #[] #[]] w fun e w' => PlacePost Out.to_ l n w e w' := by
  have hle := h.len_le
  have HH := Lib.hid h
  have HS := Lib.hid hs
  obtain ⟨A, c, rfl, -⟩ := id h
  clear h hs
  go_enter Tryd.func64, Tryd.ntmps64
  go_wp2_with fail
  go_loopw [9, 10] (fun a b wr => ∃ (lo hi : Nat) (z : BW w), lo ≤ hi ∧ hi ≤ l.length ∧ a = .int .i64 lo ∧ b = .int .i64 hi ∧ (∀ k x, k < lo → l[k]? = some x → x.to_ < n) ∧ (∀ k x, hi ≤ k → l[k]? = some x → n ≤ x.to_) ∧ wr = z.val) (fun a b _ => (intOf b).toNat - (intOf a).toNat)
  case atStart => exact ⟨0, l.length, BW.self w, Nat.zero_le _, Nat.le_refl _, rfl, rfl, fun k x hk => by omega, fun k x hk hx => by have := (List.getElem?_eq_some_iff.1 hx).1; omega, rfl⟩
  case round =>
    obtain ⟨lo, hi, z, h1, h2, rfl, rfl, h3, h4, rfl⟩ := hrel
    have H3 := Lib.hid h3
    have H4 := Lib.hid h4
    clear h3 h4
    by_cases hlt : lo < hi
    · obtain ⟨m, hm, hm1, hm2⟩ : ∃ m : Nat, ((lo : Int) + (hi : Int)) / 2 = (m : Int) ∧ lo ≤ m ∧ m < hi := ⟨(lo + hi) / 2, by omega, by omega, by omega⟩
      obtain ⟨y, hy⟩ : ∃ y, l[m]? = some y := ⟨l[m]'(by omega), List.getElem?_eq_getElem (by omega)⟩
      obtain ⟨b, off, _, vi, hv', hbb, e0, e1, e2, e3, e4, hs, -⟩ := outs_at (HH.out.next z.below) hy
      obtain ⟨A4, c4, rfl, -⟩ := id hs
      injection hv' with hv1 hv2 hv3
      subst hv1
      have HY := Lib.hid hy
      have HC := Lib.hid (fun z : BW w => sessionPlace1 y n A4 y.interest.length c4 z.val)
      generalize hq : cmpI y.to_ n = q at HC
      have HQ := Lib.hid hq
      have hml : (m : Int) < (l.length : Int) := by omega
      clear hv2 hv3 hy hq hs
      by_cases hlt2 : q < 0
      · go_wp2_with fail
        refine BW.call (z := z) (HC.out z) ?_
        intro z1
        go_wp2_with fail
        refine ⟨⟨m + 1, hi, z1, by omega, h2, by go_num, rfl, fun k x hk hx => ?_, H4.out, rfl⟩, by simp [intOf]; omega⟩
        have h5 : y.to_ < n := by have := HQ.out; rw [← this] at hlt2; exact cmpI_lt.1 hlt2
        by_cases e : k = m
        · subst e
          rw [HY.out] at hx
          injection hx with hx
          subst hx
          exact h5
        · have := HS.out k m x y (by omega) hx HY.out
          omega
      · have hge : 0 ≤ q := by omega
        go_wp2_with fail
        refine BW.call (z := z) (HC.out z) ?_
        intro z1
        go_wp2_with fail
        refine ⟨⟨lo, m, z1, hm1, by omega, rfl, rfl, H3.out, fun k x hk hx => ?_, rfl⟩, by simp [intOf]; omega⟩
        have h5 : n ≤ y.to_ := by
          have h6 : ¬ cmpI y.to_ n < 0 := by rw [HQ.out]; omega
          have := mt cmpI_lt.2 h6
          omega
        by_cases e : k = m
        · subst e
          rw [HY.out] at hx
          injection hx with hx
          subst hx
          exact h5
        · have := HS.out m k y x (by omega) HY.out hx
          omega
    · obtain rfl : lo = hi := by omega
      by_cases hend : lo < l.length
      · obtain ⟨y, hy⟩ : ∃ y, l[lo]? = some y := ⟨l[lo]'(by omega), List.getElem?_eq_getElem (by omega)⟩
        obtain ⟨b, off, _, vi, hv', hbb, e0, e1, e2, e3, e4, hs, -⟩ := outs_at (HH.out.next z.below) hy
        obtain ⟨A4, c4, rfl, -⟩ := id hs
        injection hv' with hv1 hv2 hv3
        subst hv1
        have HF := Lib.hid (show foundAt Out.to_ l lo n = decide (y.to_ = n) by rw [foundAt, hy])
        have HC := Lib.hid (fun z : BW w => sessionPlace1 y n A4 y.interest.length c4 z.val)
        generalize hq : cmpI y.to_ n = q at HC
        have HQ := Lib.hid hq
        clear hv2 hv3 hy hq hs
        go_wp2_with fail
        refine BW.call (z := z) (HC.out z) ?_
        intro z1
        go_wp2_with fail
        go_ret2
        refine ⟨lo, by omega, H3.out, H4.out, ?_, z1.below⟩
        rw [HF.out]
        have e : (q == 0) = decide (y.to_ = n) := by
          rw [Bool.eq_iff_iff, decide_eq_true_eq, beq_iff_eq, ← HQ.out]
          exact cmpI_eq
        rw [← e]
        rfl
      · have HF := Lib.hid (show foundAt Out.to_ l lo n = false by rw [foundAt, List.getElem?_eq_none (by omega)])
        go_wp2_with fail
        go_ret2
        exact ⟨lo, by omega, H3.out, H4.out, by rw [HF.out]; rfl, z.below⟩
theorem sessionPlace (l : List Out) (n : Int) (v : Value) (w : World) (h : Outs w w.heap.size v l) (hs : RisesBy Out.to_ l) :
    Calls Tryd.prog 45 #[v, .int .i64 n] w fun e w' => PlacePost Out.to_ l n w e w' := by
  have HC := Lib.hid (sessionPlace0 l n v w h hs)
  obtain ⟨A, c, rfl, -⟩ := id h
  clear h
  go_enter Tryd.func45, Tryd.ntmps45
  go_wp2_with fail
  refine HC.out.mono ?_
  rintro e w1 ⟨i, h1, h2, h3, rfl, hb⟩
  go_wp2_with fail
  go_ret2
  exact ⟨i, h1, h2, h3, rfl, hb⟩
end Go.Proofs.YtmdeokneablgaaaDoor
/- Contract of slices.Delete of one element at []api.Out: the elements are whatever their cells are tied to. -/
namespace Go.Proofs.YtmdeokneablgaaaDoor
open Go.ChangeShapes Go.WideShapes Go.ChangeAt Go.RowKit

theorem zeroOutOne : (Tryd.prog.info? 54).map (fun i => i.zero.map (fun z => z.cells.all (·.oneCell'))) = some (some true) := by kernel_rfl
set_option maxRecDepth 100000 in
set_option maxHeartbeats 1600000 in
theorem deleteOut {α : Type} {R : List Value → α → Prop} (h1 : ∀ cs x, R cs x → ∀ u ∈ cs, u.oneCell' = true) (l : List α) (i n c g : Nat) (w : World) (base : Nat) (h : OwnSl R 5 w base 54 (.slice (some ⟨g, 0, none⟩) n c) l) (hi : i < l.length) :
    Calls Tryd.prog 47 #[.slice (some ⟨g, 0, none⟩) n c, .int .i64 i, .int .i64 ((i : Int) + 1)] w fun e w' => e = .returned (.slice (some ⟨g, 0, none⟩) (n - 1) c) ∧ OwnSl R 5 w' base 54 (.slice (some ⟨g, 0, none⟩) (n - 1) c) (l.take i ++ l.drop (i + 1)) ∧ w.grownBy w' (some g) := by
  obtain ⟨i0, z0, hi0, hz0, hzs, hz1, hz2⟩ := info_of infoOutRow
  have hzone : ∀ v ∈ z0.cells, v.oneCell' = true := by
    have := zeroOutOne
    rw [hi0] at this
    simp only [Option.map_some, hz0, Option.some.injEq] at this
    intro v hv
    obtain ⟨j, hj, rfl⟩ := Array.mem_iff_getElem.1 hv
    exact (Array.all_eq_true.1 this) j hj
  obtain ⟨cur, rfl, hg1, hBk, hnc, hcm, hcs, hbig, hch⟩ := h.open_
  obtain ⟨hA, -⟩ := hch.split i (by omega)
  obtain ⟨-, hBm⟩ := hch.split (i + 1) hi
  have hAl := hA.length
  have hBl := hBm.length
  rw [show (l.take i).length = i by simp; omega] at hAl
  rw [show (l.drop (i + 1)).length = l.length - (i + 1) by simp] at hBl
  generalize hL : l.take i ++ l.drop (i + 1) = L
  have hLn : L.length = l.length - 1 := by rw [← hL]; simp; omega
  have HL := Lib.hid hL
  have HLn := Lib.hid hLn
  have hBc : ∀ j u, ((cur.toList.take (l.length * 5)).drop ((i + 1) * 5))[j]? = some u → w.cell? ⟨g, (i + 1) * 5 + j, none⟩ = some u := fun j u hj => by
    rw [hBk.cell]
    rw [List.getElem?_drop, List.getElem?_take] at hj
    split at hj
    · simpa using hj
    · cases hj
  have hone2 : ∀ v ∈ (cur.toList.take (l.length * 5)).drop ((i + 1) * 5), v.oneCell' = true := hBm.one_cell h1
  have hcurA : cur.toList.take (i * 5) = (cur.toList.take (l.length * 5)).take (i * 5) := by rw [List.take_take, Nat.min_eq_left (by omega)]
  rw [← hcurA] at hA hAl
  generalize hBB : (cur.toList.take (l.length * 5)).drop ((i + 1) * 5) = Bm at hBm hBl hBc hone2
  have hchain := hA.append hBm
  rw [hL] at hchain
  obtain ⟨C1, hC1⟩ : ∃ C1 : Array Value, C1 = (cur.toList.take (i * 5) ++ Bm ++ cur.toList.drop (i * 5 + Bm.length)).toArray := ⟨_, rfl⟩
  have hC1s : C1.size = c * 5 := by
    rw [hC1]
    simp only [List.size_toArray, List.length_append, List.length_take, List.length_drop, Array.length_toList, hcs, hBl]
    omega
  obtain ⟨C2, hC2⟩ : ∃ C2 : Array Value, C2 = (C1.toList.take ((l.length - 1) * 5) ++ (Builtin.zeroCells z0.cells 1).toList ++ C1.toList.drop ((l.length - 1) * 5 + 1 * 5)).toArray := ⟨_, rfl⟩
  have hC2s : C2.size = c * 5 := by
    rw [hC2]
    have : (Builtin.zeroCells z0.cells 1).toList.length = 5 := by simp [Builtin.zeroCells, hzs]
    simp only [List.size_toArray, List.length_append, List.length_take, List.length_drop, Array.length_toList, hC1s] at this ⊢
    omega
  have hfin : Chunks R 5 (C2.toList.take (L.length * 5)) L := by
    have e0 : (cur.toList.take (i * 5) ++ Bm).length = (l.length - 1) * 5 := by rw [List.length_append, hAl, hBl]; omega
    have e1 : C1.toList.take ((l.length - 1) * 5) = cur.toList.take (i * 5) ++ Bm := by
      rw [hC1]
      exact List.take_left' e0
    rw [hC2, hLn]
    show Chunks R 5 (List.take _ (_ ++ _ ++ _)) L
    rw [e1, List.append_assoc, List.take_left' e0]
    exact hchain
  have hap : ∀ W : World, Blk W g 54 cur → ∀ ty' cp sc (ad : Addr), (i + 1 < l.length → ad = ⟨g, (i + 1) * 5, none⟩) → cp = c → (Builtin.append_ #[52, 52] ty' #[.slice (some ⟨g, 0, none⟩) i cp, .slice (some ad) (l.length - (i + 1)) sc]).run Tryd.prog W = .ok (.slice (some ⟨g, 0, none⟩) (l.length - 1) c) (W.setRow g C1) := fun W hN ty' cp sc ad had hcp => by
    subst hcp
    have hr := run_append_room (P := Tryd.prog) W 52 ty' 54 i0 Tryd.underlying52 hi0 g i cp cur hN ad (l.length - (i + 1)) sc Bm (by rw [hz1]; exact hBl)
      (fun j u hj => by
        have hlt : i + 1 < l.length := by
          have := (List.getElem?_eq_some_iff.1 hj).1
          rw [hBl] at this
          omega
        rw [had hlt, add_at, hN.cell, ← hBk.cell]
        exact hBc j u hj) hone2 (by omega) (by rw [hz1, hBl, hcs]; omega)
    rw [hz1] at hr
    rw [hC1, hr, show i + (l.length - (i + 1)) = l.length - 1 by omega]
  have hcl : ∀ W : World, Blk W g 54 C1 → ∀ ty' cp, (Builtin.clear_ #[52] ty' #[.slice (some ⟨g, (l.length - 1) * 5, none⟩) 1 cp]).run Tryd.prog W = .ok (.tuple #[]) (W.setRow g C2) := fun W hN ty' cp => by
    rw [hC2]
    exact run_clear_rowK 5 W _ _ ty' i0 z0 g ((l.length - 1) * 5) 1 cp C1 54 Tryd.underlying52 hi0 hz0 hzs (by omega) hN (by rw [hC1s]; omega) hzone
  have HAP := Lib.hid hap
  have HCL := Lib.hid hcl
  have HFIN := Lib.hid hfin
  clear hap hcl hfin
  have B1 := hBk.drew.setRow' (cs' := C1)
  unfold maxLen at hcm
  clear hC1 hC2 hcurA hBB hLn hL h
  have hw1 : IntKind.i64.wrap ((i : Int) + 1) = (i : Int) + 1 := IntWalk.i64_in _ (by omega)
  have hb1 : (0 : Int) ≤ (i : Int) + 1 := by omega
  have htn : ((i : Int) + 1).toNat = i + 1 := by omega
  have hb3 : (i : Int) ≤ (l.length : Int) := by omega
  have hb4 : (i : Int) + 1 ≤ (l.length : Int) := by omega
  have hb5 : (i : Int) ≤ (i : Int) + 1 := by omega
  have hb6 : (l.length : Int) ≤ (c : Int) := by omega
  have hb7 : (i : Int) ≤ (c : Int) := by omega
  have hne : ((i : Int) == (i : Int) + 1) = false := by simp; omega
  have hd1 : i + 1 - i = 1 := by omega
  have hn1 : ((l.length - 1 : Nat) : Int) ≤ (l.length : Int) := by omega
  have hn2 : ¬ (c = l.length - 1) := by omega
  have hn3 : l.length - (l.length - 1) = 1 := by omega
  by_cases hcc : c = i + 1
  · subst hcc
    have HLL := Lib.hid (show l.length = i + 1 by omega)
    go_enter Tryd.func47, Tryd.ntmps47
    go_wp2_with fail
    have HAP1 : Hid (∀ ty', (Builtin.append_ #[52, 52] ty' #[.slice (some ⟨g, 0, none⟩) i (i + 1), .slice (some ⟨g, 0, none⟩) 0 0]).run Tryd.prog w.drew = .ok (.slice (some ⟨g, 0, none⟩) (l.length - 1) (i + 1)) (w.drew.setRow g C1)) := fun ty' => by
      have := HAP.out w.drew hBk.drew ty' (i + 1) 0 ⟨g, 0, none⟩ (fun h => by have := HLL.out; omega) rfl
      rwa [show l.length - (i + 1) = 0 by have := HLL.out; omega] at this
    go_region_law (refine step_append_runK rfl _ _ 52 52 rfl (.slice (some ⟨g, 0, none⟩) i (i + 1)) (.slice (some ⟨g, 0, none⟩) 0 0) (by simp [Act.eval, Act.put]) (by simp [Act.eval, Act.put]) (HAP1.out _) ?_)
    go_wp2_with (refine wpList_clear_runK _ rfl (.tmp 31) 52 rfl _ rfl (HCL.out _ B1 _ _) ?_)
    go_ret
    exact ⟨rfl, OwnSl.shut hg1 (B1.setRow' (cs' := C2)) HLn.out.symm (by rw [HLn.out]; omega) (by unfold maxLen; omega) hC2s (by rw [HLn.out]; omega) HFIN.out, grown_trans (grown_trans (grown_drew w _) (grown_setRow _ g C1)) (grown_setRow _ g C2)⟩
  · go_enter Tryd.func47, Tryd.ntmps47
    go_wp2_with fail
    go_region_law (refine step_append_runK rfl _ _ 52 52 rfl (.slice (some ⟨g, 0, none⟩) i c) (.slice (some ⟨g, (i + 1) * 5, none⟩) (l.length - (i + 1)) (c - (i + 1))) (by simp [Act.eval, Act.put]) (by simp [Act.eval, Act.put]) (HAP.out _ hBk.drew _ c _ _ (fun _ => rfl) rfl) ?_)
    go_wp2_with (refine wpList_clear_runK _ rfl (.tmp 31) 52 rfl _ rfl (HCL.out _ B1 _ _) ?_)
    go_ret
    exact ⟨rfl, OwnSl.shut hg1 (B1.setRow' (cs' := C2)) HLn.out.symm (by rw [HLn.out]; omega) (by unfold maxLen; omega) hC2s (by rw [HLn.out]; omega) HFIN.out, grown_trans (grown_trans (grown_drew w _) (grown_setRow _ g C1)) (grown_setRow _ g C2)⟩
end Go.Proofs.YtmdeokneablgaaaDoor
/- Another one doesn't subscribe any more: the program's. -/
namespace Go.Proofs.YtmdeokneablgaaaDoor
open Go.ChangeShapes Go.WideShapes Go.ChangeAt Go.RowKit

def notTo (n : Int) (x : Out) : Bool := !decide (x.to_ = n)
def closeS (l : List Out) (n : Int) : List Out × Int := if outsFormed 9223372036854775807 l = true then (if (l.filter (notTo n)).length = l.length then ([], 16) else (l.filter (notTo n), 0)) else ([], 1)
theorem outsFrom_above {n : Int} : ∀ {l : List Out} {e : Int}, outsFrom n e l = true → ∀ {x : Out}, x ∈ l → e < x.to_
  | [], _, _, _, hx => by cases hx
  | y :: l, e, h, x, hx => by
    simp only [outsFrom, Bool.and_eq_true, decide_eq_true_eq] at h
    rcases List.mem_cons.1 hx with rfl | hx
    · exact h.1.1.1.1.1
    · have := outsFrom_above h.2 hx
      omega
theorem outsFrom_rises {n : Int} : ∀ {l : List Out} {e : Int}, outsFrom n e l = true → RisesBy Out.to_ l
  | [], _, _ => fun i j x y _ hx _ => by simp at hx
  | z :: l, e, h => by
    simp only [outsFrom, Bool.and_eq_true, decide_eq_true_eq] at h
    intro i j x y hij hx hy
    cases j with
    | zero => omega
    | succ j =>
      rw [List.getElem?_cons_succ] at hy
      cases i with
      | zero =>
        simp at hx
        subst hx
        exact outsFrom_above h.2 (List.mem_of_getElem? hy)
      | succ i => exact outsFrom_rises h.2 i j x y (by omega) (by simpa using hx) hy
/-- what is taken out of a rising row is what has the number -/
theorem filter_cut {n : Int} : ∀ {l : List Out} {i : Nat} {x : Out}, RisesBy Out.to_ l → l[i]? = some x → x.to_ = n → l.filter (notTo n) = l.take i ++ l.drop (i + 1)
  | [], _, _, _, hx, _ => by simp at hx
  | y :: l, 0, x, hr, hx, hn => by
    simp at hx
    subst hx
    have h0 : l.filter (notTo n) = l := List.filter_eq_self.2 fun z hz => by
      obtain ⟨j, hj⟩ := List.mem_iff_getElem?.1 hz
      have := hr 0 (j + 1) y z (by omega) rfl (by simpa using hj)
      simp [notTo]
      omega
    simp [notTo, hn]
    simpa [notTo] using h0
  | y :: l, i + 1, x, hr, hx, hn => by
    have h1 := hr 0 (i + 1) y x (by omega) rfl hx
    have ih := filter_cut (l := l) (i := i) (fun a b u v hab hu hv => hr (a + 1) (b + 1) u v (by omega) (by simpa using hu) (by simpa using hv)) (by simpa using hx) hn
    rw [List.filter_cons_of_pos (by simp [notTo]; omega), ih]
    simp

set_option maxRecDepth 100000 in
set_option maxHeartbeats 1600000 in
theorem sessionClose (n : Int) (l : List Out) (v : Value) (V w : World) (hV : Ext V w) (h : Outs V V.heap.size v l) :
    Calls Tryd.prog 19 #[v, .int .i64 n] w fun e w' => RetOuts (closeS l n) V w e w' := by
  have hle := h.len_le
  have HH0 := Lib.hid h
  have HH := Lib.hid (Outs.ext h hV)
  obtain ⟨A, c, rfl, -⟩ := id h
  generalize hr : outsFormed 9223372036854775807 l = r
  have HR := Lib.hid hr
  generalize hs : closeS l n = res
  have HS := Lib.hid hs
  clear h hr hs
  go_enter Tryd.func19, Tryd.ntmps19
  go_wp2_with fail
  refine BW.callR (z := BW.self w) (sessionFormedOuts l _ _ _ HH.out) (congrArg Value.bool HR.out) ?_
  intro z
  cases r
  · go_wp2_with fail
    go_ret2
    exact RetOuts.nil_ (by rw [← HS.out, closeS, if_neg (by rw [HR.out]; simp)]) z.below
  have HRi := Lib.hid (outsFrom_rises (show outsFrom _ (-1) l = true from HR.out))
  go_wp2_with fail
  refine (sessionPlace l n _ _ (HH.out.next z.below) HRi.out).mono ?_
  rintro e w1 ⟨i, h1, h2, h3, rfl, hb1⟩
  cases hf : foundAt Out.to_ l i n with
  | false =>
    have HX : Hid (res = ([], 16)) := by
      show res = _
      rw [← HS.out, closeS, if_pos HR.out, if_pos]
      rw [List.filter_eq_self.2]
      intro x hx
      obtain ⟨j, hj⟩ := List.mem_iff_getElem?.1 hx
      by_cases e1 : j < i
      · have := h2 j x e1 hj
        simp [notTo]; omega
      · by_cases e2 : j = i
        · subst e2
          rw [foundAt, hj] at hf
          simpa [notTo] using hf
        · have h4 := h3 i
          cases hi : l[i]? with
          | none =>
            have := (List.getElem?_eq_some_iff.1 hj).1
            have := List.getElem?_eq_none_iff.1 hi
            omega
          | some y =>
            have h5 := h4 y (Nat.le_refl _) hi
            have h6 := HRi.out i j y x (by omega) hi hj
            simp [notTo]; omega
    clear h2 h3 hf
    go_wp2_with fail
    go_ret2
    exact RetOuts.nil_ HX.out (bnext z.below hb1)
  | true =>
    obtain ⟨x, hx, hxn⟩ : ∃ x, l[i]? = some x ∧ x.to_ = n := by
      unfold foundAt at hf
      split at hf
      · exact ⟨_, by assumption, by simpa using hf⟩
      · cases hf
    have hil := (List.getElem?_eq_some_iff.1 hx).1
    have HX : Hid (res = (l.take i ++ l.drop (i + 1), 0)) := by
      show res = _
      rw [← HS.out, closeS, if_pos HR.out, filter_cut HRi.out hx hxn, if_neg (by simp; omega)]
    clear h2 h3 hf hx
    have hVz := hV.trans (z.ext.trans (Ext.of_below hb1))
    have hzw := z.size
    have hz1 := hb1.size
    have kz := bnext z.below hb1
    have HML := Lib.hid (fun W' : World => mix_later (w' := W') hV (z := w1) (by omega))
    go_wp2_with fail
    refine (sessionOuts l _ V _ hVz HH0.out).mono ?_
    rintro e w2 ⟨⟨v2, rfl, hown⟩, hb2⟩
    rcases hown.forms with ⟨rfl, rfl⟩ | ⟨g, c1, rfl, hg1, hg2⟩
    · simp at hil
    have HC := Lib.hid (deleteOut (fun cs x h => oneOutR _ cs x h) l i l.length c1 g w2 w1.heap.size hown hil)
    clear hown
    go_wp2_with fail
    refine HC.out.mono ?_
    rintro e w3 ⟨rfl, hown3, hgr⟩
    have hn3 : OwnOuts V w1 w3 w1.heap.size 54 (.slice (some ⟨g, 0, none⟩) (l.length - 1) c1) (l.take i ++ l.drop (i + 1)) :=
      hown3.mono fun cs x hx => extOut _ _ cs x (minusO_mix_grown (v := .slice (some ⟨g, 0, none⟩) l.length c1) hgr (.inl rfl)) hx
    have HN := Lib.hid (Outs.ext (OwnN.sl hn3 extOut (Nat.le_refl _)) (HML.out w3))
    have hb3 : Below w.heap.size w w3 := (bnext kz hb2).grown hgr (by have := (bnext kz hb2).size; omega) (fun k hk => by have := Option.some.inj hk; omega)
    clear hown3 hn3 HC
    go_wp2_with fail
    go_ret2
    exact ⟨.slice (some ⟨g, 0, none⟩) (l.length - 1) c1, by rw [HX.out]; rfl, by rw [HX.out]; exact HN.out, hb3⟩
end Go.Proofs.YtmdeokneablgaaaDoor
namespace Go.Proofs.YtmdeokneablgaaaDoor
open Go.ChangeShapes Go.WideShapes Go.ChangeAt Go.RowKit

set_option maxRecDepth 100000 in
set_option maxHeartbeats 1600000 in
theorem refClose (n : Int) (l : List Out) (v : Value) (V w : World) (hV : Ext V w) (h : Outs V V.heap.size v l) :
    Calls Tryd.prog 20 #[v, .int .i64 n] w fun e w' => RetOuts (closeS l n) V w e w' := by
  have hle := h.len_le
  have HH0 := Lib.hid h
  have HH := Lib.hid (Outs.ext h hV)
  obtain ⟨A, c, rfl, ⟨hlc, -⟩, -⟩ := id h
  generalize hr : outsFormed 9223372036854775807 l = r
  have HR := Lib.hid hr
  generalize hs : closeS l n = res
  have HS := Lib.hid hs
  clear h hr hs
  go_enter Tryd.func20, Tryd.ntmps20
  go_wp2_with fail
  refine BW.callR (z := BW.self w) (refFormedOuts l _ _ _ HH.out) (congrArg Value.bool HR.out) ?_
  intro z
  cases r
  · go_wp2_with fail
    go_ret2
    exact RetOuts.nil_ (by rw [← HS.out, closeS, if_neg (by rw [HR.out]; simp)]) z.below
  have hzs := z.size
  go_wp2_with fail
  go_loopw [6, 7] (fun o i wr => ∃ (m : Nat) (z' : BW w), m ≤ l.length ∧ i = .int .i64 m ∧ OwnOuts V w wr w.heap.size 54 o ((l.take m).filter (notTo n)) ∧ wr = z'.val) (fun _ i _ => l.length - (intOf i).toNat)
  case atStart => exact ⟨0, z, Nat.zero_le _, rfl, OwnN.nil_ _ _ _ _ _, rfl⟩
  case round =>
    obtain ⟨m, z', hm, rfl, hn, rfl⟩ := hrel
    by_cases hlt : m < l.length
    · obtain ⟨y, hy⟩ : ∃ y, l[m]? = some y := ⟨l[m], List.getElem?_eq_getElem hlt⟩
      obtain ⟨b, off, _, vi, hv', hbb, e0, -⟩ := outs_at (HH.out.next z'.below) hy
      injection hv' with hv1 hv2 hv3
      subst hv1
      have HT := Lib.hid (take_snoc hy)
      have HY := Lib.hid hy
      have HN := Lib.hid hn
      clear hv2 hv3 hy hn
      by_cases hf : y.to_ = n
      · have hf1 : (y.to_ != n) = false := by simpa using hf
        have h0 := Lib.hid (show (l.take (m + 1)).filter (notTo n) = (l.take m).filter (notTo n) by rw [HT.out, List.filter_append]; simp [notTo, hf])
        clear hf
        go_wp2_with fail
        exact ⟨⟨m + 1, z', by omega, by go_num, by rw [h0.out]; exact HN.out, rfl⟩, by simp [intOf]; omega⟩
      · have hf1 : (y.to_ != n) = true := by simpa using hf
        have h0 := Lib.hid (show (l.take (m + 1)).filter (notTo n) = (l.take m).filter (notTo n) ++ [y] by rw [HT.out, List.filter_append]; simp [notTo, hf])
        clear hf
        have hcm : ¬ (c = m) := by omega
        have hm1 : (m : Int) + 1 ≤ (c : Int) := by omega
        have hm2 : (m : Int) ≤ (m : Int) + 1 := by omega
        have hm3 : m + 1 - m = 1 := by omega
        have hsub : Outs V V.heap.size (.slice (some ⟨b, off + m * 5, none⟩) 1 (c - m)) [y] := by
          have := Sl.piece HH0.out (i := m) (j := m + 1) (by omega) (by omega)
          rw [show (l.drop m).take (m + 1 - m) = [y] by rw [hm3, drop_cons HY.out]; rfl] at this
          exact this
        have HSUB := Lib.hid hsub
        clear hsub
        go_wp2_with fail
        refine (refOuts [y] _ V _ (hV.trans z'.ext) HSUB.out).mono ?_
        rintro e w2 ⟨⟨v2, rfl, hown2⟩, hb2⟩
        have hlt0 := HN.out.lt
        have hsl := (OwnSl.sl hown2).ext (fun cs x hx => extOut _ _ cs x ((minusO_ext _ _).trans (mix_apart hV z'.size hlt0)) hx) (Ext.refl w2)
        have hn2 := HN.out.next extOut hb2
        have HSL := Lib.hid hsl
        have HN2 := Lib.hid hn2
        have HL0 := Lib.hid hlt0
        obtain ⟨A6, c6, rfl⟩ := hown2.form
        have hzz := z'.size
        have hb2s := hb2.size
        have hlf : ((l.take m).filter (notTo n)).length ≤ m := Nat.le_trans (List.length_filter_le _ _) (List.length_take_le _ _)
        have HLF := Lib.hid hlf
        clear hsl hn2 hlt0 hown2 hlf
        go_wp2_with (at_builtin; refine append_slN infoOutRow Tryd.underlying52 (by omega) (by omega) extOut oneOutR rfl (.tmp 24) (.tmp 30) rfl w.heap.size _ _ rfl HN2.out _ [y] rfl w2 HSL.out (Ext.refl w2) (by have := HLF.out; simp only [List.length_singleton]; omega) (by omega) ?_; intro v' w' h1 h2)
        rw [← h0.out] at h1
        have H1 := Lib.hid h1
        have hb3 : Below w.heap.size w w' := (bnext z'.below hb2).grown h2 (by have := (bnext z'.below hb2).size; omega) (fun k hk => (HL0.out k hk).1)
        clear h1 h2
        go_wp2_with fail
        exact ⟨⟨m + 1, ⟨w', hb3⟩, by omega, by go_num, H1.out, rfl⟩, by simp [intOf]; omega⟩
    · obtain rfl : m = l.length := by omega
      rw [List.take_length] at hn
      obtain ⟨A6, c6, rfl⟩ := OwnSl.form hn
      have HN : Hid (Outs (mixW V w z'.val) (mixW V w z'.val).heap.size (.slice A6 (l.filter (notTo n)).length c6) (l.filter (notTo n))) := OwnN.sl hn extOut (Nat.le_refl _)
      clear hn
      by_cases hf : (l.filter (notTo n)).length = l.length
      · have HX : Hid (res = ([], 16)) := by
          show res = _
          rw [← HS.out, closeS, if_pos HR.out, if_pos hf]
        have hf1 : (((l.filter (notTo n)).length : Int) == (l.length : Int)) = true := by rw [hf]; simp
        clear hf
        go_wp2_with fail
        go_ret2
        exact RetOuts.nil_ HX.out z'.below
      · have HX : Hid (res = (l.filter (notTo n), 0)) := by
          show res = _
          rw [← HS.out, closeS, if_pos HR.out, if_neg hf]
        have hf1 : (((l.filter (notTo n)).length : Int) == (l.length : Int)) = false := by simp; omega
        have HLQ : Hid ((l.filter (notTo n)).length = (l.filter (notTo n)).length) := rfl
        generalize hq : l.filter (notTo n) = q at *
        clear hf
        go_wp2_with fail
        go_ret2
        exact ⟨.slice A6 q.length c6, by rw [HX.out]; rfl, by rw [HX.out]; exact HN.out, z'.below⟩
end Go.Proofs.YtmdeokneablgaaaDoor
