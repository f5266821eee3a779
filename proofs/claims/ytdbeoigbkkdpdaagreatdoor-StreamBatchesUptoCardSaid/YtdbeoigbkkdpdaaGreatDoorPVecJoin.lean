/- Contract of the program's join of vectors. -/
import Derived.Test.YtdbeoigbkkdpdaaGreatDoorPCovers
import Derived.Test.YtdbeoigbkkdpdaaGreatDoorPVecRef
import Derived.Test.YtdbeoigbkkdpdaaGreatDoorPMarks
set_option linter.all false
set_option linter.unnecessarySimpa false
set_option linter.unusedSimpArgs false
set_option linter.unusedVariables false
/- Contracts of the program's counts as a vector, and of its join. -/
namespace Go.Proofs.YtdbeoigbkkdpdaaGreatDoor
open Go.ChangeShapes Go.WideShapes Go.ChangeAt Go.RowKit Go.Shelf
attribute [local go_sem] Oper.semAt_some

/-- a row of one's own is cells -/
theorem OwnSl.cells {α : Type} {R : List Value → α → Prop} {k : Nat} {w : World} {base : Nat} {e : TypeId} {v : Value} {l : List α} (h : OwnSl R k w base e v l) {g : Nat} (hg : v.ownBlock = some g) : ∃ cs t f, w.heap[g]? = some (.cells cs t f) := by
  obtain ⟨xs, hown, _⟩ := h
  rcases hown.2 with ⟨rfl, _⟩ | ⟨g', cap, cur, rfl, _, hb, _⟩
  · cases hg
  · obtain rfl : g' = g := Option.some.inj hg
    exact ⟨_, _, _, hb⟩
theorem OwnSl.abides {α : Type} {R : List Value → α → Prop} {k : Nat} {A B : World} {base : Nat} {e : TypeId} {v : Value} {l : List α} {row : Option Nat} (h : OwnSl R k A base e v l) (hg : A.grownBy B row) (hr : ∀ r, row = some r → ∃ o : Obj, A.heap[r]? = some o ∧ o.isCells = false) : OwnSl R k B base e v l := by
  refine h.kept hg ?_
  cases hv : v.ownBlock with
  | none => exact .inl rfl
  | some g =>
    refine .inr fun e' => ?_
    obtain ⟨cs, t, f, hc⟩ := h.cells hv
    obtain ⟨o, ho, hoc⟩ := hr g e'.symm
    rw [hc] at ho
    injection ho with ho
    subst ho
    cases hoc
theorem OwnSl.keepsOthers {α : Type} {R : List Value → α → Prop} {k : Nat} {A B : World} {base : Nat} {e : TypeId} {v : Value} {l : List α} (h : OwnSl R k A base e v l) (hg : A.grownBy B v.ownBlock) : KeepsOthers A B :=
  KeepsOthers.of_grownBy hg fun j o hj ho => by
    obtain ⟨cs, t, f, hc⟩ := h.cells hj
    rw [hc] at ho
    injection ho with ho
    subst ho
    rfl
theorem KeepEach.grown {Bn C : Nat} {A B : World} {row : Option Nat} (hg : A.grownBy B row) (h1 : Bn < A.heap.size) (h2 : C < A.heap.size) (h3 : 0 < A.heap.size) (hne : ∀ r, row = some r → r ≠ Bn ∧ r ≠ C ∧ r ≠ 0) : KeepEach Bn C A B := by
  rintro g (rfl | rfl | rfl)
  · exact hg.block _ h1 fun e => (hne _ e.symm).1 rfl
  · exact hg.block _ h2 fun e => (hne _ e.symm).2.1 rfl
  · exact hg.block _ h3 fun e => (hne _ e.symm).2.2 rfl

theorem vecUpto_nodes (f : Nat → Int) (M : Nat) : ∀ k, (∀ n, n < k → M.testBit n = decide (0 < f n)) → vecUpto f k = (nodesOf M k).map fun n => ⟨f n, n⟩
  | 0, _ => rfl
  | k + 1, h => by
    rw [vecUpto, nodesOf_succ, h k (by omega), vecUpto_nodes f M k fun n hn => h n (by omega)]
    by_cases h0 : 0 < f k
    · rw [if_pos h0, if_pos (by simpa using h0), List.map_append]; rfl
    · rw [if_neg h0, if_neg (by simpa using h0)]
def stampsOf (f : Nat → Int) (pre : List (Fin 64)) : List Stamp := pre.map fun x => ⟨f x.1, (x.1 : Nat)⟩
theorem stampsOf_snoc (f : Nat → Int) (pre : List (Fin 64)) (x : Fin 64) : stampsOf f (pre ++ [x]) = stampsOf f pre ++ [⟨f x.1, (x.1 : Nat)⟩] := by simp [stampsOf]

set_option maxRecDepth 100000 in
set_option maxHeartbeats 2000000 in
theorem vectorList (C : Nat) (f : Nat → Int) (M : Nat) (w : World) (hC : Blk w C 174 (cnts f M)) (hM : M < 18446744073709551616) (hbit : ∀ n, n < 64 → M.testBit n = decide (0 < f n)) (hI : ∀ n, n < 64 → I64 (f n)) (hT : TzTab w) :
    Calls Tryz.prog 152 #[.pointer (some ⟨C, 0, none⟩)] w fun e w' => (∃ v', e = .returned v' ∧ OwnSl StampR 2 w' w.heap.size 61 v' (vecOf f)) ∧ Below w.heap.size w w' := by
  have HT := Lib.hid hT
  have HI := Lib.hid hI
  have HCC := Lib.hid hC
  have hClt := hC.lt
  have hTlt := hT.lt
  have HV := Lib.hid (vecUpto_nodes f M 64 hbit)
  clear hT hI hbit hC
  refine (callsIn_wide (n := 5)).1 ?_
  refine callsIn_of_wp_marks Tryz.func152 rfl trivial ?_ rfl
  simp only [Tryz.ntmps152, List.size_toArray, List.length_cons, List.length_nil, Nat.reduceAdd, Nat.reduceSub, Array.replicate_succ, Array.replicate_zero, List.push_toArray, List.append_toArray, List.nil_append, List.cons_append]
  gi_wp2
  refine ⟨trivial, ?_⟩
  refine (callsIn_wide.2 (countsEach C _)).mono ?_
  rintro e w1 ⟨rfl, rfl⟩
  have kb := balloc (o := .cells #[.pointer (some ⟨C, 0, none⟩)] 192) (balloc (o := .cells #[.slice none 0 0] 24) (Below.refl _ w))
  have hE : EachAt (w.heap.size + 1) C f M ((w.alloc (.cells #[.slice none 0 0] 24)).alloc (.cells #[.pointer (some ⟨C, 0, none⟩)] 192)) := ⟨Blk.new_at (by simp), HCC.out.alloc.alloc, HT.out.next kb⟩
  have hV : Blk ((w.alloc (.cells #[.slice none 0 0] 24)).alloc (.cells #[.pointer (some ⟨C, 0, none⟩)] 192)) w.heap.size 24 #[.slice none 0 0] := (Blk.new w 24 _).alloc
  have hs0 : ((w.alloc (.cells #[.slice none 0 0] 24)).alloc (.cells #[.pointer (some ⟨C, 0, none⟩)] 192)).heap.size = w.heap.size + 2 := by simp
  rw [show (w.alloc (.cells #[.slice none 0 0] 24)).heap.size = w.heap.size + 1 by simp]
  generalize (w.alloc (.cells #[.slice none 0 0] 24)).alloc _ = W0 at *
  have HE := Lib.hid hE
  have HV0 := Lib.hid hV
  have HKB := Lib.hid kb
  clear hE hV kb
  gi_wp2
  refine wpIn_rangeFunc_ownF rfl (by omega) (gf := 169) (lb := #[.pointer (some ⟨w.heap.size + 1, 0, none⟩)]) rfl trivial (enters_of Tryz.func169 (by kernel_rfl) rfl)
    (each_stops _ (by omega) (w.heap.size + 1) C f M hM W0 HE.out) (fun h k => KeepEach.t h k) (fun W l o o' hl _ _ _ => KeepEach.put (w := W0) (by omega) (by omega) (by omega) hl) (Below.refl _ _) (fun _ => rfl)
    (fun pre W => (∃ v, Blk W w.heap.size 24 #[v] ∧ OwnSl StampR 2 W (w.heap.size + 2) 61 v (stampsOf f pre) ∧ w.heap.size + 2 ≤ W.heap.size) ∧ Below w.heap.size w W)
    (fun _ _ _ => False)
    (OwnFrom.and (Own.from (fun s A B row hs hg hr => by obtain ⟨v, h1, h2, h3⟩ := hs; exact ⟨v, h1.own hg hr, h2.abides hg hr, Nat.le_trans h3 hg.size⟩) _) (ownFrom_below (Nat.le_refl _) (by omega)))
    (fun _ _ _ _ _ hs _ _ => hs)
    ⟨⟨_, HV0.out, OwnSl.nil_ _ _ _, by omega⟩, HKB.out⟩
    (fun x => { tmps := #[.pointer (some ⟨C, 0, none⟩), undef, .slice none 0 0, .pointer (some ⟨w.heap.size, 0, none⟩), .int .i64 (x.1 : Nat), .int .i64 (f x.1), .pointer (some ⟨C, 0, none⟩), eachFn (w.heap.size + 1), .int .i64 (x.1 : Nat), .int .i64 (f x.1), undef, undef, undef, undef, undef, undef, undef], defers := [] }) ?assign ?body ?done ?stop
  case assign =>
    intro r x W K hK
    dsimp only [eachEnc]
    gi_wp2
    exact hK
  case body =>
    rintro r pre ⟨x, hx⟩ W ⟨⟨v, hB, hown, hs2⟩, hb⟩ hlen
    dsimp only
    have b0 := hB.cell 0
    have z0 := hB.frozen 0
    simp only [List.getElem?_toArray, List.getElem?_cons_zero] at b0
    have hs := hb.size
    have hlt := hown.lt
    have hBlt := hB.lt
    have hsz : (stampsOf f pre).length < 1073741824 := by simp only [stampsOf, List.length_map]; omega
    have hi := HI.out x hx
    have HB := Lib.hid hB
    have HO := Lib.hid hown
    have Hb := Lib.hid hb
    have HSN := Lib.hid (stampsOf_snoc f pre ⟨x, hx⟩)
    obtain ⟨A5, c5, rfl⟩ := hown.form
    clear hB hown hb
    generalize f x = q at *
    gi_wp2_with (gi_at_builtin; refine appendIn_flat infoStamp2 Tryz.underlying24 (by omega) (by omega) stampOne rfl (.tmp 10) (.tmp 14) rfl (w.heap.size + 2) _ _ rfl HO.out #[.int .i64 q, .int .i64 x] ⟨q, x⟩ rfl ⟨rfl, hi, I64.of (by simp only; omega) (by simp only; omega)⟩ rfl hsz (by omega) ?_; intro v1 w1 ha; obtain ⟨A6, c6, rfl⟩ := ha.own.form; have hB1 := ha.blk (fun e => by have := (hlt _ e).1; omega) HB.out.alloc; have b1 := hB1.cell 0; have z1 := hB1.frozen 0; simp only [List.getElem?_toArray, List.getElem?_cons_zero] at b1)
    have hs1 := ha.size
    have h2 := HO.out.next (balloc (o := .cells #[.int .i64 q, .int .i64 x] 61) (Below.refl _ W))
    have hko : KeepsOthers (W.alloc (.cells #[.int .i64 q, .int .i64 x] 61)) w1 := h2.keepsOthers ha.grown
    have hke : KeepEach (w.heap.size + 1) C (W.alloc (.cells #[.int .i64 q, .int .i64 x] 61)) w1 := KeepEach.grown ha.grown (by simp only [World.size_alloc]; omega) (by simp only [World.size_alloc]; omega) (by simp only [World.size_alloc]; omega) fun r hr => by
      have := (hlt r hr).1
      exact ⟨by omega, by omega, by omega⟩
    have hb2 := ha.low w (by omega) (balloc Hb.out)
    simp only [World.size_alloc] at hs1
    refine ⟨((KeepsOthers.alloc _ _).trans hko).trans (KeepsOthers.setCell _ _ _), KeepEach.t (KeepEach.t (KeepEach.of_below (balloc (Below.refl _ W)) (by omega) (by omega) (by omega)) hke) (KeepEach.far (by simp only; omega) (by simp only; omega) (by simp only; omega)), ⟨_, hB1.set_ 0 _, ?_, ?_⟩, ?_⟩
    · try rw [HSN.out]
      have := OwnSl.set_other ha.own (p := ⟨w.heap.size, 0, none⟩) (fun e => by have h9 := (ha.own.lt _ e).1; simp only at h9; omega) (.slice A6 ((stampsOf f pre).length + 1) c6)
      simpa using this
    · simp; omega
    · exact bset hb2 (by simp)
  case done =>
    rintro D ys W hD hys ⟨⟨v, hB, hown, hs2⟩, hb⟩ hK
    have b0 := hB.cell 0
    have z0 := hB.frozen 0
    simp only [List.getElem?_toArray, List.getElem?_cons_zero] at b0
    have hres : stampsOf f ys = vecOf f := by
      rw [vecOf, HV.out, ← hys, List.map_map]
      rfl
    rw [hres] at hown
    obtain ⟨A6, c6, rfl⟩ := hown.form
    have HO := Lib.hid hown
    have Hb := Lib.hid hb
    have HK := Lib.hid hK
    clear hB hb hys hK hres hown
    gi_wp2
    have hown2 := HO.out.kept (grownBy_putObj' W D (.deferred none)) (.inr fun e => by
      obtain ⟨cs, t, f, hc⟩ := HO.out.cells e
      rw [HK.out] at hc
      cases hc)
    refine ⟨by simp, .inl ⟨_, _, rfl, run_takeDeferred HK.out, ?_⟩⟩
    refine ⟨.slice A6 (vecOf f).length c6, by simp [results, Tryz.f152, go_sem], ⟨_, rfl, hown2.base (by omega)⟩, Hb.out.trans (belowK_b (w := w) (Nat.le_refl _) W D _ _ (by have := HKB.out.size; omega) HK.out rfl rfl)⟩
  case stop =>
    rintro E d pre W hD _ h hK
    exact h.elim
end Go.Proofs.YtdbeoigbkkdpdaaGreatDoor
namespace Go.Proofs.YtdbeoigbkkdpdaaGreatDoor
open Go.ChangeShapes Go.WideShapes Go.ChangeAt Go.RowKit Go.Shelf
attribute [local go_sem] Oper.semAt_some

def mixMax (f d : Nat → Int) (pre : List (Fin 64)) (n : Nat) : Int := if pre.any (fun x => decide (x.1 = n)) = true then max (f n) (d n) else f n
theorem mixMax_nil (f d : Nat → Int) : mixMax f d [] = f := by funext n; simp [mixMax]
theorem mixMax_snoc (f d : Nat → Int) (pre : List (Fin 64)) (x : Fin 64) : (fun k => if k = x.1 then max (mixMax f d pre x.1) (d x.1) else mixMax f d pre k) = mixMax f d (pre ++ [x]) := by
  funext k
  by_cases hk : k = x.1
  · subst hk
    rw [if_pos rfl, mixMax, mixMax, List.any_append]
    simp only [List.any_cons, List.any_nil, Bool.or_false, decide_true, Bool.or_true, if_true]
    split <;> omega
  · rw [if_neg hk, mixMax, mixMax, List.any_append]
    simp [show ¬ x.1 = k from fun e => hk e.symm]
theorem any_nodes {l : List Stamp} {ys : List (Fin 64)} (hys : ys.map (·.1) = nodesOf (maskOf l) 64) {n : Nat} (hn : n < 64) : ys.any (fun x => decide (x.1 = n)) = !decide (countOf l n = 0) := by
  rw [← maskOf_bit hn, Bool.eq_iff_iff]
  have : n ∈ ys.map (·.1) ↔ (maskOf l).testBit n = true := by rw [hys, mem_nodesOf]; exact ⟨fun h => h.2, fun h => ⟨hn, h⟩⟩
  rw [← this, List.any_eq_true, List.mem_map]
  exact ⟨fun ⟨x, h1, h2⟩ => ⟨x, h1, by simpa using h2⟩, fun ⟨x, h1, h2⟩ => ⟨x, h1, by simpa using h2⟩⟩

set_option maxRecDepth 100000 in
set_option maxHeartbeats 3200000 in
theorem vectorJoin (ls : List (List Stamp)) (v : Value) (w : World) (h : StampRows w w.heap.size v ls) (hT : TzTab w) :
    Calls Tryz.prog 92 #[v] w fun e w' => (∃ v', e = .returned v' ∧ OwnSl StampR 2 w' w.heap.size 61 v' (joinS ls)) ∧ Below w.heap.size w w' := by
  have hle := h.len_le
  have HH := Lib.hid h
  have hI : ∀ l ∈ ls, CountsI l := fun l hl => by
    obtain ⟨i, hi⟩ := List.mem_iff_getElem?.1 hl
    obtain ⟨_, _, _, vi, _, _, _, hs⟩ := rows_at h hi
    exact countsI_of hs
  have HI := Lib.hid hI
  have HT := Lib.hid hT
  have hTlt := hT.lt
  obtain ⟨A, c, rfl, -⟩ := id h
  clear h hI hT
  refine (callsIn_wide (n := 5)).1 ?_
  refine callsIn_of_wp_marks Tryz.func92 rfl trivial ?_ rfl
  simp only [Tryz.ntmps92, List.size_toArray, List.length_cons, List.length_nil, Nat.reduceAdd, Nat.reduceSub, Array.replicate_succ, Array.replicate_zero, List.push_toArray, List.append_toArray, List.nil_append, List.cons_append]
  gi_wp2
  rw [show Tryz.zeroCells174 = cnts (fun _ => 0) 0 by kernel_rfl]
  have hC0 : Blk (w.alloc (.cells (cnts (fun _ => 0) 0) 174)) w.heap.size 174 (cnts (fun _ => 0) 0) := Blk.new _ _ _
  have kb0 := balloc (o := .cells (cnts (fun _ => 0) 0) 174) (Below.refl _ w)
  have hs0 : (w.alloc (.cells (cnts (fun _ => 0) 0) 174)).heap.size = w.heap.size + 1 := by simp
  generalize w.alloc _ = W0 at *
  refine wpIn_loop (fun a W => ∃ (m : Nat) (Ds : List Nat) (M : Nat) (u5 u11 u12 u13 u14 u15 u34 : Value), m ≤ ls.length ∧ M < 18446744073709551616 ∧ (∀ n, n < 64 → M.testBit n = decide (0 < joinC (ls.take m) n)) ∧ Marks (w.heap.size + 1) Ds W ∧
      Blk W w.heap.size 174 (cnts (joinC (ls.take m)) M) ∧ Below w.heap.size w W ∧ w.heap.size + 1 ≤ W.heap.size ∧
      a = { tmps := #[.slice A ls.length c, undef, .slice none 0 0, .pointer (some ⟨w.heap.size, 0, none⟩), undef, u5, undef, undef, .slice A ls.length c, .int .i64 ls.length, .int .i64 m, u11, u12, u13, u14, u15, undef, undef, undef, undef, undef, undef, undef, undef, undef, undef, undef, undef, undef, undef, undef, undef, undef, undef, u34, undef], defers := marksOf Ds })
    (fun a _ => ls.length - (intOf (a.tmps.getD 10 undef)).toNat) ⟨0, [], 0, undef, undef, undef, undef, undef, undef, undef, Nat.zero_le _, by omega, fun n _ => by simp [joinC], Marks.nil _ _, hC0, kb0, by omega, rfl⟩ ?_
  clear hC0 kb0 hs0
  rintro a W ⟨m, Ds, M, u5, u11, u12, u13, u14, u15, u34, hm, hM, hbit, hmk, hC, hb, hsz, rfl⟩
  have Hbit := Lib.hid hbit
  have Hmk := Lib.hid hmk
  have HC := Lib.hid hC
  have Hb := Lib.hid hb
  clear hbit hmk hC
  by_cases hlt : m < ls.length
  · obtain ⟨x, hx⟩ : ∃ x, ls[m]? = some x := ⟨ls[m], List.getElem?_eq_getElem hlt⟩
    obtain ⟨b, off, _, vi, hv', hbb, e0, hs⟩ := rows_at (HH.out.next hb) hx
    injection hv' with hv1 hv2 hv3
    subst hv1
    have HTk := Lib.hid (take_snoc hx)
    have HSS := Lib.hid hs
    obtain ⟨A1, c1, rfl, -⟩ := id hs
    have i1 : (m : Int) < (ls.length : Int) := by omega
    have i2 : (0 : Int) ≤ (m : Int) := by omega
    have HXI := Lib.hid (HI.out x (List.mem_of_getElem? hx))
    clear hv2 hv3 hs hx hb
    gi_wp2
    refine ⟨trivial, ?_⟩
    refine (callsIn_wide.2 (vectorAll x _ _ HSS.out (HT.out.next Hb.out))).mono ?_
    rintro e w2 ⟨Bn, D, rfl, hE, hBn, hD, hb2⟩
    have HE := Lib.hid hE
    have HM2 := Lib.hid (Hmk.out.next hb2)
    have HC2 := Lib.hid (HC.out.next hb2)
    have HB2 := Lib.hid (bnext Hb.out hb2)
    have hs2 := hb2.size
    have l1 := hE.box.lt
    have l2 := hE.cnt.lt
    have l3 := hE.tab.lt
    have hMx := maskOf_lt x
    clear hE hb2 e0
    gi_wp2
    generalize hf : joinC (ls.take m) = f at *
    have HF := Lib.hid hf
    clear hf
    have hMlt := HM2.out.lt
    refine wpIn_rangeFunc_ownF rfl (by omega) (gf := 169) (lb := #[.pointer (some ⟨Bn, 0, none⟩)]) rfl trivial (enters_of Tryz.func169 (by kernel_rfl) rfl)
      (each_stops _ (by omega) Bn D (fun n => countOf x n) (maskOf x) hMx w2 HE.out) (fun h k => KeepEach.t h k) (fun W l o o' hl _ _ _ => KeepEach.put l1 l2 l3 hl) (Below.refl _ _) (fun _ => rfl)
      (fun pre W' => ((∃ M', M' < 18446744073709551616 ∧ (∀ n, n < 64 → M'.testBit n = (M.testBit n || pre.any fun x => decide (x.1 = n))) ∧ Blk W' w.heap.size 174 (cnts (mixMax f (fun n => countOf x n) pre) M')) ∧ w2.heap.size ≤ W'.heap.size) ∧ (Marks (w.heap.size + 1) Ds W' ∧ Below w.heap.size w W'))
      (fun _ _ _ => False)
      (OwnFrom.and (Own.from (fun s A B row hs hg hr => by obtain ⟨⟨M', h1, h2, h3⟩, h4⟩ := hs; exact ⟨⟨M', h1, h2, h3.own hg hr⟩, Nat.le_trans h4 hg.size⟩) _) (OwnFrom.and (marks_own Ds hMlt) (ownFrom_below (Nat.le_refl _) (by omega))))
      (fun _ _ _ _ _ hs _ _ => hs)
      ⟨⟨⟨M, hM, fun n _ => by simp, by rw [mixMax_nil]; exact HC2.out⟩, Nat.le_refl _⟩, HM2.out, HB2.out⟩
      (fun y => { tmps := #[.slice (some ⟨b, off, none⟩) ls.length c, undef, .slice none 0 0, .pointer (some ⟨w.heap.size, 0, none⟩), undef, .slice A1 x.length c1, .int .i64 (y.1 : Nat), .int .i64 (countOf x (y.1 : Nat)), .slice (some ⟨b, off, none⟩) ls.length c, .int .i64 ls.length, .int .i64 m, .bool true, .pointer (some ⟨b, off + m, none⟩), .slice A1 x.length c1, .slice A1 x.length c1, eachFn Bn, .int .i64 (y.1 : Nat), .int .i64 (countOf x (y.1 : Nat)), undef, undef, undef, undef, undef, undef, undef, undef, undef, undef, undef, undef, undef, undef, undef, undef, u34, undef], defers := [] }) ?assign ?body ?done ?stop
    case assign =>
      intro r y W' K hK
      dsimp only [eachEnc]
      gi_wp2
      exact hK
    case body =>
      rintro r pre ⟨y, hy⟩ W' ⟨⟨⟨M', hM', hbit', hC'⟩, hsz'⟩, hmk', hb'⟩ _
      dsimp only
      have c0 := (hC'.cell y).trans (cnts_at hy)
      have c1' := (hC'.cell 64).trans cnts_has
      have z0 := hC'.frozen y
      have z1 := hC'.frozen 64
      have hwl := hC'.lt
      have hxi : (y : Int) < 64 := by omega
      have Hbit' := Lib.hid hbit'
      have HC' := Lib.hid hC'
      have Hmk' := Lib.hid hmk'
      have Hb' := Lib.hid hb'
      have HMX := Lib.hid (mixMax_snoc f (fun n => countOf x n) pre ⟨y, hy⟩)
      have hSB := Lib.hid (set_bit (n := y) hM' hy)
      clear hbit' hC' hmk' hb'
      generalize hp : mixMax f (fun n => countOf x n) pre y = p at c0
      have HP := Lib.hid hp
      generalize hq : countOf x y = q
      have HQ := Lib.hid hq
      clear hp hq
      gi_wp2
      all_goals
        have hk2 := (KeepsOthers.setCell W' ⟨w.heap.size, y, none⟩ (.int .i64 (max p q))).trans (KeepsOthers.setCell _ ⟨w.heap.size, 64, none⟩ (.int .u64 ((M' ||| 2 ^ y : Nat) : Int)))
        rename_i hcmp
        refine (show ∀ v, v = max p q → ownPostK _ _ _ _ _ _ _ ((W'.setCell ⟨w.heap.size, y, none⟩ (.int .i64 v)).setCell _ _) from ?_) _ (by omega)
        rintro v rfl
        rw [hSB.out]
        refine ⟨hk2, KeepEach.t (KeepEach.far (by simp only; omega) (by simp only; omega) (by simp only; omega)) (KeepEach.far (by simp only; omega) (by simp only; omega) (by simp only; omega)), ⟨⟨M' ||| 2 ^ y, or_bit_lt hM' hy, fun n hn => ?_, ?_⟩, by simpa using hsz'⟩, Hmk'.out.keeps hk2, bset (bset Hb'.out (Nat.le_refl _)) (Nat.le_refl _)⟩
        · rw [or_bit, Hbit'.out n hn, List.any_append, Bool.or_assoc]
          simp
        · have h1 := (HC'.out.set_ y (.int .i64 (max p q))).set_ 64 (.int .u64 ((M' ||| 2 ^ y : Nat) : Int))
          rw [cnts_set hy, cnts_set_has] at h1
          rw [← HMX.out, HP.out, HQ.out]
          exact h1
    case done =>
      rintro E ys W' hE hys ⟨⟨⟨M', hM', hbit', hC'⟩, hsz'⟩, hmk', hb'⟩ hK
      have hfun : ∀ n, n < 64 → mixMax f (fun n => countOf x n) ys n = joinC (ls.take (m + 1)) n := fun n hn => by
        rw [HTk.out, joinC_snoc, HF.out, mixMax, any_nodes hys hn]
        have h0 : 0 ≤ f n := by rw [← HF.out]; exact joinC_nonneg _ _
        by_cases hz : countOf x n = 0
        · rw [hz]; simp; omega
        · rw [if_pos (by simpa using hz)]
      have hC2 : Blk W' w.heap.size 174 (cnts (joinC (ls.take (m + 1))) M') := by
        rw [show cnts (joinC (ls.take (m + 1))) M' = cnts (mixMax f (fun n => countOf x n) ys) M' from rowOf_congr fun i _ => by
          split
          · rename_i hi; rw [hfun i hi]
          · rfl]
        exact hC'
      have hbits : ∀ n, n < 64 → M'.testBit n = decide (0 < joinC (ls.take (m + 1)) n) := fun n hn => by
        rw [hbit' n hn, Hbit.out n hn, any_nodes hys hn, HTk.out, joinC_snoc, HF.out]
        have h1 := countOf_nonneg x n
        rw [Bool.eq_iff_iff]
        simp only [Bool.or_eq_true, decide_eq_true_eq, Bool.not_eq_true', decide_eq_false_iff_not]
        omega
      have HC3 := Lib.hid hC2
      have HB3 := Lib.hid hbits
      have HM3 := Lib.hid (hmk'.more (D := E) (fun F hF => by have := hMlt F hF; omega) (by omega) hK)
      have Hb3 := Lib.hid hb'
      clear hC' hfun hC2 hbits hys hmk' hb' hK hbit'
      gi_wp2
      refine ⟨⟨m + 1, E :: Ds, M', _, _, _, _, _, _, _, by omega, hM', HB3.out, HM3.out, HC3.out, Hb3.out, by omega, rfl⟩, by simp [intOf]; omega⟩
    case stop =>
      rintro E d pre W hD _ h hK
      exact h.elim
  · obtain rfl : m = ls.length := by omega
    have hC2 : Blk W w.heap.size 174 (cnts (joinC ls) M) := by have := HC.out; rwa [List.take_length] at this
    have HL := Lib.hid (vectorList w.heap.size (joinC ls) M W hC2 hM (fun n hn => by rw [Hbit.out n hn, List.take_length]) (joinC_i64 HI.out) (HT.out.next Hb.out))
    clear hC2 hb
    gi_wp2
    refine ⟨trivial, ?_⟩
    refine (callsIn_wide.2 HL.out).mono ?_
    rintro e w3 ⟨⟨v', rfl, hown⟩, hb3⟩
    have hmk3 := Hmk.out.next hb3
    obtain ⟨A6, c6, rfl⟩ := hown.form
    have hfin := Marks.own (B' := w.heap.size + 1) (s := ()) (I := fun (_ : Unit) W => OwnSl StampR 2 W w.heap.size 61 (.slice A6 (vecOf (joinC ls)).length c6) (vecOf (joinC ls)) ∧ Below w.heap.size w W)
      (OwnFrom.and (Own.from (fun _ _ _ _ hs hg hr => hs.abides hg hr) _) (ownFrom_below (Nat.le_refl _) (by omega))) (Nat.le_refl _) Ds w3 hmk3 ⟨hown.base (by omega), bnext Hb.out hb3⟩
    have HF := Lib.hid hfin
    have HMK := Lib.hid hmk3
    clear hown hfin hmk3 HL
    gi_wp2
    exact leaves_marks Ds w3 HMK.out ⟨.slice A6 (vecOf (joinC ls)).length c6, by simp [results, Tryz.f92, go_sem], ⟨_, rfl, HF.out.1⟩, HF.out.2⟩

end Go.Proofs.YtdbeoigbkkdpdaaGreatDoor
