/- Contracts of the elder kind, told over abstract states: vectors, spans, notes. -/
import Derived.Test.YtdbeoigbkkdpdaaGreatDoorPAbsIter
import Derived.Test.YtdbeoigbkkdpdaaGreatDoorPEnc
import Derived.Test.YtdbeoigbkkdpdaaGreatDoorPIter
import Derived.Test.YtdbeoigbkkdpdaaGreatDoorPNote
import Derived.Test.YtdbeoigbkkdpdaaGreatDoorPSpanSet
import Derived.Test.YtdbeoigbkkdpdaaGreatDoorPConcatSpan
import Derived.Test.YtdbeoigbkkdpdaaGreatDoorPTidyLaw
import Derived.Test.YtdbeoigbkkdpdaaGreatDoorPCounts
import Derived.Test.YtdbeoigbkkdpdaaGreatDoorPExt
import Derived.Test.YtdbeoigbkkdpdaaGreatDoorPNoteSmall
import Derived.Test.YtdbeoigbkkdpdaaGreatDoorPNoteWalk
import Derived.Test.YtdbeoigbkkdpdaaGreatDoorPVecJoin
import Derived.Test.YtdbeoigbkkdpdaaGreatDoorPVecRef
set_option linter.all false
set_option linter.unnecessarySimpa false
set_option linter.unusedSimpArgs false
set_option linter.unusedVariables false
/- A vector's nodes and counts, one by one: contracts over abstract states. -/
namespace Go.Proofs.YtdbeoigbkkdpdaaGreatDoor
open Go.ChangeShapes Go.WideShapes Go.ChangeAt Go.RowKit
attribute [local irreducible] AW AWY vops vopsY vop vopL vdraw callW qop binQ lenQ storeQ appendQ callQ ACalls AIter

def cntI (f : Nat → Int) (M : Nat) : List IV := (cnts f M).toList.map IV.val
theorem cntI_at {f : Nat → Int} {M n : Nat} (h : n < 64) : (cntI f M)[n]? = some (.val (.int .i64 (f n))) := by rw [cntI, List.getElem?_map, Array.getElem?_toList, cnts_at h]; rfl
theorem cntI_has {f : Nat → Int} {M : Nat} : (cntI f M)[64]? = some (.val (.int .u64 M)) := by rw [cntI, List.getElem?_map, Array.getElem?_toList, cnts_has]; rfl
theorem TzTab.later {w w' : World} (h : TzTab w) (hb : Below w.heap.size w w') : TzTab w' := h.next hb
def enE (f : Nat → Int) (x : Fin 64) : List AV := [.val (.int .i64 (x.1 : Nat)), .val (.int .i64 (f x.1))]
theorem each_call (cs : List IV) : ACalls Tryz.prog TzTab 154 [.ip cs] (.fn 169 [.ip [.pt cs]]) [] := by
  have h : ACalls Tryz.prog TzTab 154 [.ip cs] (.fn 169 [.bp 0 0]) [.box 0 [.ip cs]] := by
    refine ACalls.of (n := 4) (rs := [.tmp 2]) Tryz.func154 rfl (by kernel_rfl) Tryz.ntmps154 (by kernel_rfl) (by simp) (fun _ _ => TzTab.later) ?_
    intro hok V w0
    simp -implicitDefEqProofs (disch := first | with_unfolding_all exact Eq.trans rfl rfl | omega) only [go_sem, seval]
    try simp -implicitDefEqProofs (disch := first | with_unfolding_all exact Eq.trans rfl rfl | omega) only [go_sem, seval]
    repeat' ((first | refine st_ rfl ?_ | refine hold_ ?_ | refine cond_ (fun h => ?_) (fun h => ?_) | (refine hKD _ _ ⟨rfl, ?_⟩; clear hKD KD)) <;> try simp -implicitDefEqProofs (disch := first | with_unfolding_all exact Eq.trans rfl rfl | omega) only [go_sem, seval])
    exact ⟨.inl trivial, fun _ => 200, rfl, by simp [go_sem], by simp⟩
  exact h.frz ⟨trivial, trivial⟩
attribute [local irreducible] cnts rowOf
theorem cnt_rep {X : World} {f : Nat → Int} {M : Nat} (hf : ∀ n, n < 64 → I64 (f n)) (hM : M < 18446744073709551616) : RepVs X (cnts f M).toList (cntI f M) :=
  RepVs.of (by unfold cntI; rw [List.length_map]) fun j v i h1 h2 => by
    rw [cntI, List.getElem?_map, h1] at h2
    obtain rfl := Option.some.inj h2
    rw [Array.getElem?_toList] at h1
    have hj := (Array.getElem?_eq_some_iff.1 h1).1
    rw [cnts_size] at hj
    by_cases h64 : j < 64
    · rw [cnts_at h64] at h1
      obtain rfl := Option.some.inj h1
      exact .val (hf j h64)
    · obtain rfl : j = 64 := by omega
      rw [cnts_has] at h1
      obtain rfl := Option.some.inj h1
      refine .val ?_
      show (Lit.int .u64 (M : Int)).wf = true
      simp [Lit.wf, IntKind.max, IntKind.min, IntKind.signed, IntKind.bits]
      omega
theorem read_call (l : List Stamp) : ACalls Tryz.prog TzTab 153 [.iv (stI l)] (.aggI (cntI (fun n => countOf l n) (maskOf l))) [] := by
  refine bridge Tryz.func153 rfl (by kernel_rfl) fun V w E vs hV hG hr => ?_
  obtain ⟨v, rfl, hv⟩ := args1 hr
  have hs := iv_stamps hV hv
  exact (vectorRead l v w hs).mono fun e w1 h => ⟨_, h.1, h.2, .aggI (cnt_rep (countsI_of hs) (maskOf_lt l))⟩
attribute [local irreducible] cntI stI
set_option maxRecDepth 100000 in
theorem all_call (l : List Stamp) : ACalls Tryz.prog TzTab 93 [.iv (stI l)] (.fn 169 [.ip [.pt (cntI (fun n => countOf l n) (maskOf l))]]) [] := by
  refine ACalls.of (n := 7) (rs := [.tmp 2]) Tryz.func93 rfl (by kernel_rfl) Tryz.ntmps93 (by kernel_rfl) (by simp) (fun _ _ => TzTab.later) ?_
  intro hok V w0
  have hlen : (cntI (fun n => countOf l n) (maskOf l)).length = 65 := by unfold cntI; rw [List.length_map, Array.length_toList, cnts_size]
  have hread := read_call l
  generalize cntI (fun n => countOf l n) (maskOf l) = C at hlen hread ⊢
  simp -implicitDefEqProofs (disch := first | with_unfolding_all exact Eq.trans rfl rfl | omega) only [go_sem, seval]
  try simp -implicitDefEqProofs (disch := first | with_unfolding_all exact Eq.trans rfl rfl | omega) only [go_sem, seval]
  repeat' ((first | refine st_ rfl ?_ | refine hold_ ?_ | refine cond_ (fun h => ?_) (fun h => ?_) | (refine hKD _ _ ⟨rfl, ?_⟩; clear hKD KD)) <;> try simp -implicitDefEqProofs (disch := first | with_unfolding_all exact Eq.trans rfl rfl | omega) only [go_sem, seval])
  refine call_ hread rfl ?_
  try simp -implicitDefEqProofs (disch := first | with_unfolding_all exact Eq.trans rfl rfl | omega) only [go_sem, seval]
  repeat' ((first | refine st_ rfl ?_ | refine hold_ ?_ | refine cond_ (fun h => ?_) (fun h => ?_) | (refine hKD _ _ ⟨rfl, ?_⟩; clear hKD KD)) <;> try simp -implicitDefEqProofs (disch := first | with_unfolding_all exact Eq.trans rfl rfl | omega) only [go_sem, seval])
  refine store_all (q := 1) (s := 65) (by kernel_rfl) hlen rfl rfl ?_
  try simp -implicitDefEqProofs (disch := first | with_unfolding_all exact Eq.trans rfl rfl | omega) only [go_sem, seval]
  repeat' ((first | refine hold_ ?_ | (refine hKK _ ?_; clear hKK KK)) <;> try simp -implicitDefEqProofs (disch := first | with_unfolding_all exact Eq.trans rfl rfl | omega) only [go_sem, seval])
  refine AW.freeze 400 _ rfl (okAs_map C) ?_
  simp only [go_sem, toIs_map, reduceIte]
  try simp -implicitDefEqProofs (disch := first | with_unfolding_all exact Eq.trans rfl rfl | omega) only [go_sem, seval]
  repeat' ((first | refine st_ rfl ?_ | refine hold_ ?_ | refine cond_ (fun h => ?_) (fun h => ?_) | (refine hKD _ _ ⟨rfl, ?_⟩; clear hKD KD)) <;> try simp -implicitDefEqProofs (disch := first | with_unfolding_all exact Eq.trans rfl rfl | omega) only [go_sem, seval])
  refine call_ (each_call C) rfl ?_
  try simp -implicitDefEqProofs (disch := first | with_unfolding_all exact Eq.trans rfl rfl | omega) only [go_sem, seval]
  repeat' ((first | refine st_ rfl ?_ | refine hold_ ?_ | refine cond_ (fun h => ?_) (fun h => ?_) | (refine hKD _ _ ⟨rfl, ?_⟩; clear hKD KD)) <;> try simp -implicitDefEqProofs (disch := first | with_unfolding_all exact Eq.trans rfl rfl | omega) only [go_sem, seval])
  first | exact ⟨.inl trivial, id, List.nodup_nil⟩ | exact ⟨.inl trivial, id, by simp [go_sem], List.nodup_nil⟩
theorem tz_call {R : Nat} (hR : R < 18446744073709551616) : ACalls Tryz.prog TzTab 170 [.val (.int .u64 R)] (.val (.int .i64 (Lib.ctz 64 R))) [] :=
  bridge_val Tryz.func170 rfl (by kernel_rfl) fun V w E vs hV hG hr => by
    obtain ⟨v, rfl, hv⟩ := args1 hr
    cases hv
    exact (trailing R hR w hG).mono fun _ w' h => ⟨h.1, h.2 ▸ Below.refl _ _⟩
structure EachS (M : Nat) where
  k : Nat
  R : Nat
  pre : List (Fin 64)
  hk : k ≤ 64
  hR : R < 18446744073709551616
  hbit : ∀ i, i < 64 → R.testBit i = (M.testBit i && decide (k ≤ i))
  hpre : pre.map (·.1) = nodesOf M k
theorem each_iter (f : Nat → Int) (M : Nat) (hM : M < 18446744073709551616) : AIter Tryz.prog TzTab 169 [.ip [.pt (cntI f M)]] (enE f) (fun ys => ys.map (·.1) = nodesOf M 64) (fun pre => pre.map (·.1) <+: nodesOf M 64) := by
  refine AIter.of (n := 27) Tryz.func169 rfl (by kernel_rfl) Tryz.ntmps169 (by kernel_rfl) (by simp) (fun _ _ => TzTab.later) ?_
  intro hok Y
  have h64 := cntI_has (f := f) (M := M)
  have hat := fun n (h : n < 64) => cntI_at (f := f) (M := M) h
  generalize cntI f M = C at h64 hat ⊢
  simp -implicitDefEqProofs (disch := first | with_unfolding_all exact Eq.trans rfl rfl | omega) only [go_sem, seval]
  try simp -implicitDefEqProofs (disch := first | with_unfolding_all exact Eq.trans rfl rfl | omega) only [go_sem, seval]
  repeat' ((first | refine stY_ rfl ?_ | refine hold_ ?_ | refine cond_ (fun h => ?_) (fun h => ?_)) <;> try simp -implicitDefEqProofs (disch := first | with_unfolding_all exact Eq.trans rfl rfl | omega) only [go_sem, seval])
  refine rdI_drop h64 ?_
  try simp -implicitDefEqProofs (disch := first | with_unfolding_all exact Eq.trans rfl rfl | omega) only [go_sem, seval]
  repeat' ((first | refine stY_ rfl ?_ | refine hold_ ?_ | refine cond_ (fun h => ?_) (fun h => ?_)) <;> try simp -implicitDefEqProofs (disch := first | with_unfolding_all exact Eq.trans rfl rfl | omega) only [go_sem, seval])
  refine AWY.loop (fun s : EachS M => (.going s.pre, ⟨[(0, .val (.func (.yield Y.l) #[] #[])), (1, .ip [.pt C]), (3, .val (.int .u64 s.R))], []⟩)) (fun s => s.R) ⟨0, M, [], by omega, hM, fun i _ => by simp, rfl⟩ id ⟨rfl, by simp [LeS, go_sem]⟩ fun ⟨k, R, pre, hk, hR, hbit, hpre⟩ => ?_
  try simp -implicitDefEqProofs (disch := first | with_unfolding_all exact Eq.trans rfl rfl | omega) only [go_sem, seval]
  repeat' ((first | refine stY_ rfl ?_ | refine hold_ ?_ | refine cond_ (fun h => ?_) (fun h => ?_)) <;> try simp -implicitDefEqProofs (disch := first | with_unfolding_all exact Eq.trans rfl rfl | omega) only [go_sem, seval])
  · have hz : R ≠ 0 := by rintro rfl; simp at h
    obtain ⟨hx, hxb, hxl⟩ := low_bit hz hR
    have hdl := drop_low hz hR
    refine call_ (tz_call hR) rfl ?_
    generalize Lib.ctz 64 R = x at *
    try simp -implicitDefEqProofs (disch := first | with_unfolding_all exact Eq.trans rfl rfl | omega) only [go_sem, seval]
    repeat' ((first | refine stY_ rfl ?_ | refine hold_ ?_ | refine cond_ (fun h => ?_) (fun h => ?_)) <;> try simp -implicitDefEqProofs (disch := first | with_unfolding_all exact Eq.trans rfl rfl | omega) only [go_sem, seval])
    refine ⟨by omega, by omega, ?_⟩
    rw [Nat.mul_one]
    try simp -implicitDefEqProofs (disch := first | with_unfolding_all exact Eq.trans rfl rfl | omega) only [go_sem, seval]
    repeat' ((first | refine stY_ rfl ?_ | refine hold_ ?_ | refine cond_ (fun h => ?_) (fun h => ?_)) <;> try simp -implicitDefEqProofs (disch := first | with_unfolding_all exact Eq.trans rfl rfl | omega) only [go_sem, seval])
    refine rdI_drop (hat x hx) ?_
    try simp -implicitDefEqProofs (disch := first | with_unfolding_all exact Eq.trans rfl rfl | omega) only [go_sem, seval]
    repeat' ((first | refine stY_ rfl ?_ | refine hold_ ?_ | refine cond_ (fun h => ?_) (fun h => ?_)) <;> try simp -implicitDefEqProofs (disch := first | with_unfolding_all exact Eq.trans rfl rfl | omega) only [go_sem, seval])
    have hp1 : (pre ++ [(⟨x, hx⟩ : Fin 64)]).map (·.1) = nodesOf M (x + 1) := by
      rw [List.map_append, hpre]
      show nodesOf M k ++ [x] = _
      have hb := hbit x hx
      rw [hxb] at hb
      simp only [Bool.true_eq, Bool.and_eq_true, decide_eq_true_eq] at hb
      rw [nodesOf_succ, hb.1, if_pos rfl, nodesOf_same hb.2 fun i h1 h2 => by
        have := hbit i (by omega)
        rw [hxl i h2, decide_eq_true h1, Bool.and_true] at this
        exact this.symm]
    refine vopsY_y (x := (⟨x, hx⟩ : Fin 64)) ?_ ?_ ?_ ?_
    · rfl
    · exact Sbs.rfl_ _
    · rw [hp1]; exact nodesOf_prefix (by omega)
    simp only [go_sem]
    refine ⟨?_, ?_⟩
    · try simp -implicitDefEqProofs (disch := first | with_unfolding_all exact Eq.trans rfl rfl | omega) only [go_sem, seval]
      repeat' ((first | refine stY_ rfl ?_ | refine hold_ ?_ | refine cond_ (fun h => ?_) (fun h => ?_)) <;> try simp -implicitDefEqProofs (disch := first | with_unfolding_all exact Eq.trans rfl rfl | omega) only [go_sem, seval])
      have e1 : bits .and .u64 (R : Int) ((R : Int) - 1) = ((R &&& (R - 1) : Nat) : Int) := by
        rw [show (R : Int) - 1 = ((R - 1 : Nat) : Int) by omega]
        exact u64_and_nat _ _ hR (by omega)
      refine ⟨(R : Int) - 1, by rw [IntKind.wrap_u64]; omega, ?_⟩
      try simp -implicitDefEqProofs (disch := first | with_unfolding_all exact Eq.trans rfl rfl | omega) only [go_sem, seval]
      repeat' ((first | refine stY_ rfl ?_ | refine hold_ ?_ | refine cond_ (fun h => ?_) (fun h => ?_)) <;> try simp -implicitDefEqProofs (disch := first | with_unfolding_all exact Eq.trans rfl rfl | omega) only [go_sem, seval])
      refine ⟨.int .u64 ((R &&& (R - 1) : Nat) : Int), fun w => by go_simp, ?_⟩
      try simp -implicitDefEqProofs (disch := first | with_unfolding_all exact Eq.trans rfl rfl | omega) only [go_sem, seval]
      repeat' ((first | refine stY_ rfl ?_ | refine hold_ ?_ | refine cond_ (fun h => ?_) (fun h => ?_)) <;> try simp -implicitDefEqProofs (disch := first | with_unfolding_all exact Eq.trans rfl rfl | omega) only [go_sem, seval])
      have hlt : R &&& (R - 1) < R := Nat.lt_of_le_of_lt Nat.and_le_right (by omega)
      refine ⟨⟨x + 1, R &&& (R - 1), pre ++ [⟨x, hx⟩], by omega, by omega, fun i hi => ?_, hp1⟩, id, rfl, by simp [LeS, go_sem], hlt⟩
      rw [hdl]
      rcases Nat.lt_or_ge i x with c | c
      · rw [hxl i c, decide_eq_false (p := x + 1 ≤ i) (by omega)]
        simp
      · have hkx : k ≤ x := by
          have := hbit x hx
          rw [hxb] at this
          simp only [Bool.true_eq, Bool.and_eq_true, decide_eq_true_eq] at this
          exact this.2
        rw [hbit i hi, decide_eq_true (p := k ≤ i) (by omega), Bool.and_true]
        congr 1
        by_cases hix : i = x
        · subst hix; simp
        · rw [decide_eq_false (p := i = x) hix, decide_eq_true (p := x + 1 ≤ i) (by omega)]
          rfl
    · try simp -implicitDefEqProofs (disch := first | with_unfolding_all exact Eq.trans rfl rfl | omega) only [go_sem, seval]
      repeat' ((first | refine stY_ rfl ?_ | refine hold_ ?_ | refine cond_ (fun h => ?_) (fun h => ?_)) <;> try simp -implicitDefEqProofs (disch := first | with_unfolding_all exact Eq.trans rfl rfl | omega) only [go_sem, seval])
      exact .inl trivial
  · have hz : R = 0 := by simp at h; omega
    subst hz
    refine ⟨.inr trivial, ?_⟩
    rw [hpre]
    exact (nodesOf_same hk fun i h1 h2 => by
      have := hbit i h2
      rw [Nat.zero_testBit, decide_eq_true h1, Bool.and_true] at this
      exact this.symm).symm
end Go.Proofs.YtdbeoigbkkdpdaaGreatDoor
/- Contract of the reference's test whether a note is formed. -/
namespace Go.Proofs.YtdbeoigbkkdpdaaGreatDoor
open Go.ChangeShapes Go.WideShapes Go.ChangeAt Go.RowKit

set_option maxHeartbeats 1600000 in
theorem refNoteFormed (x : Note) (v0 v1 v2 v3 : Value) (w : World) (h : NoteV w w.heap.size v0 v1 v2 v3 x) :
    Calls Tryz.prog 52 #[.agg #[v0, v1, v2, v3]] w fun e w' => e = .returned (.bool (noteFormed x)) ∧ Below w.heap.size w w' := by
  have hle := h.writes.len_le
  obtain ⟨A0, c0, rfl, _⟩ := id h.start
  obtain ⟨A1, c1, rfl, _⟩ := id h.end_
  obtain ⟨A2, c2, rfl, _⟩ := id h.blur
  obtain ⟨A3, c3, rfl, _⟩ := id h.writes
  unfold noteFormed
  generalize hr0 : vecFormed x.start = r0
  generalize hr1 : vecFormed x.end_ = r1
  generalize hr2 : coversB x.end_ x.start = r2
  generalize hr3 : spanFormed x.blur = r3
  have H0 := Lib.hid hr0
  have H1 := Lib.hid hr1
  have H2 := Lib.hid hr2
  have H3 := Lib.hid hr3
  clear hr0 hr1 hr2 hr3
  go_enter Tryz.func52, Tryz.ntmps52
  go_wp2_with fail
  generalize hv0 : Value.slice A0 x.start.length c0 = v0 at *
  generalize hv1 : Value.slice A1 x.end_.length c1 = v1 at *
  generalize hv2 : Value.slice A2 x.blur.length c2 = v2 at *
  generalize hv3 : Value.slice A3 x.writes.length c3 = v3 at *
  have Hv3 := Lib.hid hv3
  clear hv0 hv1 hv2 hv3
  have k := balloc (o := .cells #[v0, v1, v2, v3] 79) (Below.refl _ w)
  have B := Blk.new w 79 #[v0, v1, v2, v3]
  generalize hW0 : w.alloc (.cells #[v0, v1, v2, v3] 79) = W0 at *
  clear hW0
  have hn := h.next k
  refine (refVectorFormed x.start _ _ hn.start).mono ?_
  rw [H0.out]
  rintro e w1 ⟨rfl, hb1⟩
  replace k := bnext k hb1
  replace B := B.next hb1
  replace hn := hn.next hb1
  clear hb1
  have b0 := B.cell 0
  have b1 := B.cell 1
  have b2 := B.cell 2
  have b3 := B.cell 3
  simp only [List.getElem?_toArray, List.getElem?_cons_zero, List.getElem?_cons_succ] at b0 b1 b2 b3
  cases r0
  · go_wp2_with fail
    go_ret
    exact ⟨rfl, k⟩
  go_wp2_with fail
  refine (refVectorFormed x.end_ _ _ hn.end_).mono ?_
  rw [H1.out]
  rintro e w2 ⟨rfl, hb1⟩
  replace k := bnext k hb1
  replace B := B.next hb1
  replace hn := hn.next hb1
  replace b0 := kept_cell hb1 b0
  replace b1 := kept_cell hb1 b1
  replace b2 := kept_cell hb1 b2
  replace b3 := kept_cell hb1 b3
  clear hb1
  cases r1
  · go_wp2_with fail
    go_ret
    exact ⟨rfl, k⟩
  go_wp2_with fail
  refine (refCovers x.end_ x.start _ _ _ hn.end_ hn.start).mono ?_
  rw [H2.out]
  rintro e w3 ⟨rfl, hb1⟩
  replace k := bnext k hb1
  replace B := B.next hb1
  replace hn := hn.next hb1
  replace b0 := kept_cell hb1 b0
  replace b1 := kept_cell hb1 b1
  replace b2 := kept_cell hb1 b2
  replace b3 := kept_cell hb1 b3
  clear hb1
  cases r2
  · go_wp2_with fail
    go_ret
    exact ⟨rfl, k⟩
  go_wp2_with fail
  refine (refSpanFormed x.blur _ _ hn.blur).mono ?_
  rw [H3.out]
  rintro e w4 ⟨rfl, hb1⟩
  replace k := bnext k hb1
  replace B := B.next hb1
  replace hn := hn.next hb1
  replace b0 := kept_cell hb1 b0
  replace b1 := kept_cell hb1 b1
  replace b2 := kept_cell hb1 b2
  replace b3 := kept_cell hb1 b3
  clear hb1
  cases r3
  · go_wp2_with fail
    go_ret
    exact ⟨rfl, k⟩
  rw [← Hv3.out] at b3
  go_wp2_with fail
  have HB := Lib.hid B
  have HN := Lib.hid hn
  clear b0 b1 b2 b3 B hn H0 H1 H2 H3 h
  go_loopw [3] (fun i wr => ∃ (m : Nat) (e : Int), m ≤ x.writes.length ∧ i = .int .i64 m ∧ (m = 0 → e = -1) ∧ (∀ i y, m = i + 1 → x.writes[i]? = some y → e = y.object) ∧ writesFrom x (-1) x.writes = writesFrom x e (x.writes.drop m) ∧ Below w4.heap.size w4 wr) (fun i _ => x.writes.length - (intOf i).toNat)
  case atStart => exact ⟨0, -1, Nat.zero_le _, rfl, fun _ => rfl, fun i _ hi => by omega, rfl, Below.refl _ _⟩
  case round =>
    obtain ⟨m, e, hm, rfl, he0, he1, hv, hb⟩ := hrel
    have hn := HN.out.next hb
    have B := HB.out.next hb
    replace k := bnext k hb
    have b3 := B.cell 3
    simp only [List.getElem?_toArray, List.getElem?_cons_zero, List.getElem?_cons_succ] at b3
    rw [← Hv3.out] at b3
    by_cases hlt : m < x.writes.length
    · obtain ⟨y, hy⟩ : ∃ y, x.writes[m]? = some y := ⟨x.writes[m], List.getElem?_eq_getElem hlt⟩
      obtain ⟨b, off, c', hv', hbb, e0, e1, e2, e3, _⟩ := writes_at hn.writes hy
      rw [← Hv3.out] at hv'
      injection hv' with hv1 hv2 hv3
      rw [drop_cons hy, writesFrom] at hv
      have Hy := Lib.hid hy
      obtain ⟨⟨yc, yn⟩, yo, yg⟩ := y
      simp only at e0 e1 e2 e3 hv
      have HV := Lib.hid hv
      subst hv1
      have i2 : (m : Int) < (x.writes.length : Int) := by omega
      have He0 := Lib.hid he0
      have He1 := Lib.hid he1
      clear hv hv2 hv3 hy he0 he1
      go_wp2_with fail
      have kB := balloc (o := .cells #[.int .i64 yc, .int .i64 yn, .int .i64 yo, .bool yg] 77) (Below.refl _ wr)
      have B5 := Blk.new wr 77 #[.int .i64 yc, .int .i64 yn, .int .i64 yo, .bool yg]
      have hn2 := hn.next kB
      have B2 := B.next kB
      have k2 := bnext k kB
      have hb2 := bnext hb kB
      generalize hW : wr.alloc (.cells #[.int .i64 yc, .int .i64 yn, .int .i64 yo, .bool yg] 77) = W at *
      have KB := Lib.hid kB
      have d0 := B5.cell 0
      have d1 := B5.cell 1
      have d2 := B5.cell 2
      have b1 := B2.cell 1
      have b2 := B2.cell 2
      have b4 := B2.cell 3
      simp only [List.getElem?_toArray, List.getElem?_cons_zero, List.getElem?_cons_succ] at b1 b2 b4 d0 d1 d2
      rw [← Hv3.out] at b4
      have q0 : ∀ z : BW W, z.val.cell? ⟨wr.heap.size, 0, none⟩ = some (.int .i64 yc) := fun z => z.cell d0
      have q1 : ∀ z : BW W, z.val.cell? ⟨wr.heap.size, 1, none⟩ = some (.int .i64 yn) := fun z => z.cell d1
      have q2 : ∀ z : BW W, z.val.cell? ⟨wr.heap.size, 2, none⟩ = some (.int .i64 yo) := fun z => z.cell d2
      have q3 : ∀ z : BW W, z.val.cell? ⟨w.heap.size, 1, none⟩ = some v1 := fun z => z.cell b1
      have q4 : ∀ z : BW W, z.val.cell? ⟨w.heap.size, 2, none⟩ = some v2 := fun z => z.cell b2
      have q5 : ∀ z : BW W, z.val.cell? ⟨w.heap.size, 3, none⟩ = some (.slice (some ⟨b, off, none⟩) x.writes.length c3) := fun z => z.cell b4
      generalize hr : vecHas x.end_ ⟨yc, yn⟩ = r at HV
      generalize hq : spanHas x.blur yo = q at HV
      have HC1 := Lib.hid (fun z : BW W => hr ▸ refHas x.end_ ⟨yc, yn⟩ v1 z.val (hn2.next z.below).end_)
      have HC2 := Lib.hid (fun z : BW W => hq ▸ refSpanHas x.blur yo v2 z.val (hn2.next z.below).blur)
      clear d0 d1 d2 b1 b2 b3 b4 e0 e1 e2 e3 hr hq hW hn2 B2 B5 kB
      have hcs : r = false ∨ (r = true ∧ yo < 0 ∧ decide (yo < 0) = true) ∨ (r = true ∧ 0 ≤ yo ∧ 255 < yo ∧ decide (yo < 0) = false ∧ decide (255 < yo) = true) ∨ (r = true ∧ q = true ∧ 0 ≤ yo ∧ yo ≤ 255 ∧ decide (yo < 0) = false ∧ decide (255 < yo) = false) ∨ (r = true ∧ q = false ∧ 0 ≤ yo ∧ yo ≤ 255 ∧ decide (yo < 0) = false ∧ decide (255 < yo) = false) := by
        simp only [decide_eq_true_eq, decide_eq_false_iff_not]
        cases r <;> cases q <;> simp <;> omega
      cases m with
      | zero =>
        rcases hcs with rfl | ⟨rfl, h1, g1⟩ | ⟨rfl, h1, h2, g1, g2⟩ | ⟨rfl, rfl, h1, h2, g1, g2⟩ | ⟨rfl, rfl, h1, h2, g1, g2⟩
        all_goals
          refine region_below (by kernel_rfl) (by kernel_rfl) ?_
          repeat (go_big_quiet_step (first | (go_at_call 119; exact below_of (HC1.out _)) | (go_at_call 120; exact below_of (HC2.out _))))
          refine wpQuiet_nil ?_
          intro w5 hb5
          have k5 := bnext k2 hb5
          have hb6 := bnext hb2 hb5
          go_wp2_with fail
        all_goals first
          | (go_ret
             refine ⟨ret_bool ?_, k5⟩
             first
               | (rw [HV.out]; simp; done)
               | (rw [HV.out, decide_eq_false (p := e < yo ∧ 0 ≤ yo ∧ yo ≤ 255) (by omega)]; rfl))
          | (refine ⟨⟨1, yo, by omega, rfl, fun h => by omega, fun i y hi hyi => ?_, ?_, hb6⟩, by simp [intOf]; omega⟩
             · obtain rfl : i = 0 := by omega
               rw [Hy.out] at hyi
               injection hyi with hyi
               subst hyi
               rfl
             · rw [HV.out, decide_eq_true (p := e < yo ∧ 0 ≤ yo ∧ yo ≤ 255) (by have := He0.out rfl; omega)]
               rfl)
      | succ i =>
        obtain ⟨y', hy'⟩ : ∃ y', x.writes[i]? = some y' := ⟨x.writes[i], List.getElem?_eq_getElem (by omega)⟩
        obtain rfl := He1.out i y' rfl hy'
        obtain ⟨b', off', c'', hv', hbb', _, _, e2, _, _⟩ := writes_at hn.writes hy'
        rw [← Hv3.out] at hv'
        injection hv' with hv1 hv2 hv3
        injection hv1 with hv1
        injection hv1 with hv4 hv5
        subst hv4 hv5
        have q6 : ∀ z : BW W, z.val.cell? ⟨b, off + i * 4 + 2, none⟩ = some (.int .i64 y'.object) := fun z => z.cell (kept_cell KB.out e2)
        have i1 : (0 : Int) < (i : Int) + 1 := by omega
        have i3 : (i : Int) < (x.writes.length : Int) := by omega
        have s1 : IntKind.i64.wrap ((i : Int) + 1) = (i : Int) + 1 := IntWalk.i64_in _ (by omega)
        have s2 : IntKind.i64.wrap (i : Int) = (i : Int) := IntWalk.i64_in _ (by omega)
        clear hv2 hv3 hy' e2 hbb'
        rcases hcs with rfl | ⟨rfl, h1, g1⟩ | ⟨rfl, h1, h2, g1, g2⟩ | ⟨rfl, rfl, h1, h2, g1, g2⟩ | ⟨rfl, rfl, h1, h2, g1, g2⟩
        all_goals
          refine region_below (by kernel_rfl) (by kernel_rfl) ?_
          repeat (go_big_quiet_step (first | (go_at_call 119; exact below_of (HC1.out _)) | (go_at_call 120; exact below_of (HC2.out _))))
          refine wpQuiet_nil ?_
          intro w5 hb5
          have k5 := bnext k2 hb5
          have hb6 := bnext hb2 hb5
          clear s1 s2
          go_wp2_with fail
        all_goals first
          | (go_ret
             refine ⟨ret_bool ?_, k5⟩
             first
               | (rw [HV.out]; simp; done)
               | (rw [HV.out, decide_eq_false (p := y'.object < yo ∧ 0 ≤ yo ∧ yo ≤ 255) (by omega)]; rfl))
          | (refine ⟨⟨i + 1 + 1, yo, by omega, by go_num, fun h => by omega, fun i' y hi hyi => ?_, ?_, hb6⟩, by simp [intOf]; omega⟩
             · obtain rfl : i' = i + 1 := by omega
               rw [Hy.out] at hyi
               injection hyi with hyi
               subst hyi
               rfl
             · rw [HV.out, decide_eq_true (p := y'.object < yo ∧ 0 ≤ yo ∧ yo ≤ 255) (by omega)]
               rfl)
    · obtain rfl : m = x.writes.length := by omega
      rw [List.drop_length] at hv
      have HV := Lib.hid hv
      clear hv he0 he1
      go_wp2_with fail
      go_ret
      exact ⟨ret_bool (by rw [HV.out]; rfl), k⟩
end Go.Proofs.YtdbeoigbkkdpdaaGreatDoor
/- Contracts of the reference's sets: joined, met. -/
namespace Go.Proofs.YtdbeoigbkkdpdaaGreatDoor
open Go.ChangeShapes Go.WideShapes Go.ChangeAt Go.RowKit

def anyB (ls : List (List Span)) (o : Nat) : Bool := ls.any fun l => memB l o
theorem anyB_snoc (ls : List (List Span)) (l : List Span) (o : Nat) : anyB (ls ++ [l]) o = (anyB ls o || memB l o) := by simp [anyB]
theorem anyB_flat (ls : List (List Span)) (o : Nat) : anyB ls o = memB ls.flatten o := by
  unfold anyB memB
  induction ls with
  | nil => rfl
  | cons l ls ih => simp only [List.any_cons, List.flatten_cons, List.any_append, ih]
def orUpto (f d : Nat → Bool) (k n : Nat) : Bool := if n < k then (f n || d n) else f n
theorem orUpto_zero (f d : Nat → Bool) : orUpto f d 0 = f := by funext n; simp [orUpto]
theorem setRow_or (f d : Nat → Bool) (k : Nat) (v : Bool) (hv : v = (f k || d k)) : (setRow (orUpto f d k)).setIfInBounds k (.bool v) = setRow (orUpto f d (k + 1)) := by
  rw [setRow_set]
  refine setRow_congr fun i _ => ?_
  by_cases hi : i = k
  · subst hi; rw [if_pos rfl, hv]; simp [orUpto]
  · rw [if_neg hi]
    have e : (i < k + 1) = (i < k) := by simp; omega
    simp [orUpto, e]
def andUpto (f d : Nat → Bool) (k n : Nat) : Bool := if n < k then (f n && d n) else f n
theorem andUpto_zero (f d : Nat → Bool) : andUpto f d 0 = f := by funext n; simp [andUpto]
theorem setRow_and (f d : Nat → Bool) (k : Nat) (v : Bool) (hv : v = (f k && d k)) : (setRow (andUpto f d k)).setIfInBounds k (.bool v) = setRow (andUpto f d (k + 1)) := by
  rw [setRow_set]
  refine setRow_congr fun i _ => ?_
  by_cases hi : i = k
  · subst hi; rw [if_pos rfl, hv]; simp [andUpto]
  · rw [if_neg hi]
    have e : (i < k + 1) = (i < k) := by simp; omega
    simp [andUpto, e]

set_option maxRecDepth 100000 in
set_option maxHeartbeats 1600000 in
theorem refSpanJoin (ls : List (List Span)) (v : Value) (w : World) (h : RowsSpan w w.heap.size v ls) :
    Calls Tryz.prog 161 #[v] w fun e w' => (∃ v', e = .returned v' ∧ OwnSl SpanR 2 w' w.heap.size 55 v' (tidyS ls.flatten)) ∧ Below w.heap.size w w' := by
  have hle := h.len_le
  have HH := Lib.hid h
  obtain ⟨A, c, rfl, -⟩ := id h
  have hz := zeroSet
  clear h
  go_enter Tryz.func161, Tryz.ntmps161
  go_wp2_with fail
  clear hz
  go_loopw [4] (fun k wr => ∃ m : Nat, m ≤ ls.length ∧ k = .int .i64 m ∧ Below w.heap.size w wr ∧ Blk wr w.heap.size 116 (setRow (anyB (ls.take m)))) (fun k _ => ls.length - (intOf k).toNat)
  case atStart => exact ⟨0, Nat.zero_le _, rfl, balloc (Below.refl _ _), Blk.new _ _ _⟩
  case round =>
    obtain ⟨m, hm, rfl, hb, hB⟩ := hrel
    by_cases hlt : m < ls.length
    · obtain ⟨x, hx⟩ : ∃ x, ls[m]? = some x := ⟨ls[m], List.getElem?_eq_getElem hlt⟩
      obtain ⟨b, off, _, vi, hv', hbb, e0, hs⟩ := rowSpan_at (HH.out.next hb) hx
      injection hv' with hv1 hv2 hv3
      subst hv1
      have HT := Lib.hid (take_snoc hx)
      have HBB := Lib.hid hB
      have HSS := Lib.hid hs
      obtain ⟨A1, c1, rfl, -⟩ := id hs
      have hws := hb.size
      have hz := zeroSet
      clear hv2 hv3 hs hB hx
      go_wp2_with fail
      refine (refSet x _ _ HSS.out).mono ?_
      rintro e w1 ⟨rfl, hb1⟩
      have hB1 := HBB.out.next hb1
      have hb1s := hb1.size
      have hBlt := HBB.out.lt
      have Hb1 := Lib.hid (bnext hb hb1)
      clear hb hb1 HBB e0
      generalize hf : anyB (ls.take m) = f at *
      have HF := Lib.hid hf
      clear hf
      go_wp2_with (refine wpList_store_row rfl 116 (.tmp 5) (.tmp 17) rfl w1.heap.size _ rfl rfl 116 _ (Blk.new w1 116 _).raw (infoSet _) ((setRow_size _).trans (setRow_size _).symm) (setRow_one _) ?_)
      have hD : Blk ((w1.alloc (.cells (setRow fun _ => false) 116)).setRow w1.heap.size (setRow fun o => memB x o)) w1.heap.size 116 (setRow fun o => memB x o) := (Blk.new w1 116 (setRow fun _ => false)).setRow
      have hB2 : Blk ((w1.alloc (.cells (setRow fun _ => false) 116)).setRow w1.heap.size (setRow fun o => memB x o)) w.heap.size 116 (setRow f) := hB1.alloc.farRow (by omega)
      have hb2 : Below w.heap.size w ((w1.alloc (.cells (setRow fun _ => false) 116)).setRow w1.heap.size (setRow fun o => memB x o)) := bsetRow (balloc Hb1.out) (by omega)
      generalize (w1.alloc _).setRow _ _ = W at *
      generalize hg : w1.heap.size = g at *
      have HN := Lib.hid (show ∀ n, anyB (ls.take (m + 1)) n = (f n || memB x n) from fun n => by rw [HT.out, anyB_snoc]; rw [HF.out])
      generalize hd : (fun n : Nat => memB x n) = d at *
      have HD := Lib.hid hd
      have hne : w.heap.size ≠ g := by omega
      clear hd hg hb1s hws hz
      go_loopw [6] (fun j w2 => ∃ n : Nat, n ≤ 256 ∧ j = .int .i64 n ∧ Below w.heap.size w w2 ∧ Blk w2 w.heap.size 116 (setRow (orUpto f d n)) ∧ Blk w2 g 116 (setRow d)) (fun j _ => 256 - (intOf j).toNat)
      case atStart => exact ⟨0, by omega, rfl, hb2, by rw [orUpto_zero]; exact hB2, hD⟩
      case round =>
        obtain ⟨n, hn, rfl, hb3, hB3, hD3⟩ := hrel
        by_cases hn64 : n < 256
        · have c0 := (hB3.cell n).trans (rowOf_at hn64)
          have d0 := (hD3.cell n).trans (rowOf_at hn64)
          have z0 := hB3.frozen n
          have hq : orUpto f d n n = f n := by simp [orUpto]
          rw [hq] at c0
          have HMX := Lib.hid (fun (v : Bool) (hv : v = (f n || d n)) => (setRow_or f d n v hv) ▸ hB3.set_ n (.bool v))
          have HD4 := Lib.hid (fun v : Value => hD3.far (p := ⟨w.heap.size, n, none⟩) (by simpa using hne.symm) v)
          have HB4 := Lib.hid (fun v : Value => bset (u := v) hb3 (p := ⟨w.heap.size, n, none⟩) (Nat.le_refl _))
          have i1 : (n : Int) < 256 := by omega
          clear hq hB3 hD3 hb3
          generalize hp : f n = p at *
          generalize hq2 : d n = q at *
          clear hp hq2
          cases p
          · go_wp2_with fail
            exact ⟨⟨n + 1, by omega, by go_num, HB4.out _, HMX.out q (by simp), HD4.out _⟩, by simp [intOf]; omega⟩
          · go_wp2_with fail
            exact ⟨⟨n + 1, by omega, by go_num, HB4.out _, HMX.out true (by simp), HD4.out _⟩, by simp [intOf]; omega⟩
        · obtain rfl : n = 256 := by omega
          have hB4 : Blk wr w.heap.size 116 (setRow (anyB (ls.take (m + 1)))) := by
            rw [show setRow (anyB (ls.take (m + 1))) = setRow (orUpto f d 256) from setRow_congr fun i hi => by rw [HN.out i, orUpto, if_pos hi, ← HD.out]]
            exact hB3
          have HB4 := Lib.hid hB4
          clear hB3 hB4 hD3
          go_wp2_with fail
          exact ⟨⟨m + 1, by omega, by go_num, hb3, HB4.out⟩, by simp [intOf]; omega⟩
    · obtain rfl : m = ls.length := by omega
      rw [List.take_length] at hB
      have HR := Lib.hid (show ofSet (anyB ls) = tidyS ls.flatten from ofSet_congr fun o _ => anyB_flat ls o)
      have HC := Lib.hid (fun z => refOf (anyB ls) z)
      have HB := Lib.hid hB
      clear hB
      go_wp2_with (with_reducible refine wpList_load_row rfl 116 (.tmp 3) rfl w.heap.size rfl 116 _ (0, 0) _ HB.out.raw Tryz.underlying116 rfl (infoSet _) ?_)
      refine (HC.out _).mono ?_
      rintro e w1 ⟨⟨v', rfl, hown⟩, hb1⟩
      have hbs := hb.size
      obtain ⟨A0, c0, rfl⟩ := hown.form
      have HO := Lib.hid hown
      clear hown
      go_wp2_with fail
      go_ret
      exact ⟨⟨_, rfl, by rw [← HR.out]; exact HO.out.base hbs⟩, bnext hb hb1⟩

theorem refSpanTwo (a b : List Span) (v u : Value) (w : World) (h : Spans w w.heap.size v a) (h' : Spans w w.heap.size u b) :
    Calls Tryz.prog 112 #[v, u] w fun e w' => (∃ v', e = .returned v' ∧ OwnSl SpanR 2 w' w.heap.size 55 v' (tidyS (a ++ b))) ∧ Below w.heap.size w w' := by
  obtain ⟨A, c, rfl, -⟩ := id h
  obtain ⟨A', c', rfl, -⟩ := id h'
  have ha := balloc (o := .cells #[.slice A a.length c, .slice A' b.length c'] 45) (Below.refl _ w)
  have hB := Blk.new w 45 #[.slice A a.length c, .slice A' b.length c']
  have hsl : RowsSpan (w.alloc (.cells #[.slice A a.length c, .slice A' b.length c'] 45)) (w.alloc (.cells #[.slice A a.length c, .slice A' b.length c'] 45)).heap.size (.slice (some ⟨w.heap.size, 0, none⟩) 2 2) [a, b] :=
    (OwnSl.of_blk (R := RowSpan _ _) (k := 1) (l := [a, b]) hB ⟨[_], _, rfl, rfl, ⟨_, rfl, h.next ha⟩, [_], [], rfl, rfl, ⟨_, rfl, h'.next ha⟩, rfl⟩ (by simp)).sl
  have HC := Lib.hid (refSpanJoin [a, b] _ _ hsl)
  have HF := Lib.hid (show tidyS [a, b].flatten = tidyS (a ++ b) by simp)
  clear h h' hB hsl
  go_enter Tryz.func112, Tryz.ntmps112
  go_wp2_with fail
  refine HC.out.mono ?_
  rintro e w1 ⟨⟨v', rfl, hown⟩, hb1⟩
  rw [HF.out] at hown
  have has := ha.size
  obtain ⟨A0, c0, rfl⟩ := hown.form
  have HO := Lib.hid hown
  clear hown HC
  go_wp2_with fail
  go_ret
  exact ⟨⟨_, rfl, HO.out.base has⟩, bnext ha hb1⟩

set_option maxRecDepth 100000 in
set_option maxHeartbeats 1600000 in
theorem refSpanMeet (a b : List Span) (v u : Value) (w : World) (h : Spans w w.heap.size v a) (h' : Spans w w.heap.size u b) :
    Calls Tryz.prog 78 #[v, u] w fun e w' => (∃ v', e = .returned v' ∧ OwnSl SpanR 2 w' w.heap.size 55 v' (ofSet fun o => memB a o && memB b o)) ∧ Below w.heap.size w w' := by
  have HH' := Lib.hid h'
  have HH := Lib.hid h
  obtain ⟨A, c, rfl, -⟩ := id h
  obtain ⟨A', c', rfl, -⟩ := id h'
  have hz := zeroSet
  clear h h'
  go_enter Tryz.func78, Tryz.ntmps78
  go_wp2_with fail
  refine (refSet a _ _ HH.out).mono ?_
  rintro e w1 ⟨rfl, hb1⟩
  have H2 := Lib.hid (HH'.out.next hb1)
  clear HH
  go_wp2_with fail
  refine (refSet b _ _ H2.out).mono ?_
  rintro e w2 ⟨rfl, hb2⟩
  have hb := bnext hb1 hb2
  have hbs := hb.size
  clear H2 HH' hb1 hb2
  go_wp2_with (first
    | (with_reducible refine wpList_store_row rfl 116 (.tmp 5) (.tmp 9) rfl w2.heap.size _ rfl rfl 116 _ (Blk.new w2 116 _).alloc.raw (infoSet _) ((setRow_size _).trans (setRow_size _).symm) (setRow_one _) ?_)
    | (with_reducible refine wpList_store_row rfl 116 (.tmp 6) (.tmp 11) rfl (w2.heap.size + 1) _ rfl rfl 116 _ ((Blk.new_at (by simp)).farRow (by simp)).raw (infoSet _) ((setRow_size _).trans (setRow_size _).symm) (setRow_one _) ?_))
  refine wp_two_rows hb ?_
  intro W hB5 hB6 hbw
  have hW := hB5.lt
  have HD := Lib.hid hB6
  have hWs := hbw.size
  clear hz hB6
  generalize hf : (fun o : Nat => memB a o) = f at *
  generalize hd : (fun o : Nat => memB b o) = d at *
  have HF := Lib.hid hf
  have HDD := Lib.hid hd
  clear hf hd
  generalize w2.heap.size = g at *
  go_loopw [7] (fun j wr => ∃ n : Nat, n ≤ 256 ∧ j = .int .i64 n ∧ Below w.heap.size w wr ∧ Blk wr g 116 (setRow (andUpto f d n)) ∧ Blk wr (g + 1) 116 (setRow d)) (fun j _ => 256 - (intOf j).toNat)
  case atStart => exact ⟨0, by omega, rfl, hbw, by rw [andUpto_zero]; exact hB5, HD.out⟩
  case round =>
    obtain ⟨n, hn, rfl, hb3, hB3, hD3⟩ := hrel
    by_cases hn64 : n < 256
    · have c0 := (hB3.cell n).trans (rowOf_at hn64)
      have d0 := (hD3.cell n).trans (rowOf_at hn64)
      have z0 := hB3.frozen n
      have hq : andUpto f d n n = f n := by simp [andUpto]
      rw [hq] at c0
      have HMX := Lib.hid (fun (v : Bool) (hv : v = (f n && d n)) => (setRow_and f d n v hv) ▸ hB3.set_ n (.bool v))
      have HD4 := Lib.hid (fun v : Value => hD3.far (p := ⟨g, n, none⟩) (by simp) v)
      have HB4 := Lib.hid (fun v : Value => bset (u := v) hb3 (p := ⟨g, n, none⟩) hbs)
      have i1 : (n : Int) < 256 := by omega
      clear hq hB3 hD3 hb3
      generalize hp : f n = p at *
      generalize hq2 : d n = q at *
      clear hp hq2
      cases p
      · go_wp2_with fail
        exact ⟨⟨n + 1, by omega, by go_num, HB4.out _, HMX.out false (by simp), HD4.out _⟩, by simp [intOf]; omega⟩
      · go_wp2_with fail
        exact ⟨⟨n + 1, by omega, by go_num, HB4.out _, HMX.out q (by simp), HD4.out _⟩, by simp [intOf]; omega⟩
    · obtain rfl : n = 256 := by omega
      have hB4 : Blk wr g 116 (setRow fun o => memB a o && memB b o) := by
        rw [show (setRow fun o => memB a o && memB b o) = setRow (andUpto f d 256) from setRow_congr fun i hi => by rw [andUpto, if_pos hi, ← HF.out, ← HDD.out]]
        exact hB3
      have HC := Lib.hid (fun z => refOf (fun o => memB a o && memB b o) z)
      have HB := Lib.hid hB4
      have hbs3 := hb3.size
      clear hB3 hB4 hD3
      go_wp2_with (with_reducible refine wpList_load_row rfl 116 (.tmp 5) rfl g rfl 116 _ (0, 0) _ HB.out.raw Tryz.underlying116 rfl (infoSet _) ?_)
      refine (HC.out _).mono ?_
      rintro e w3 ⟨⟨v', rfl, hown⟩, hb4⟩
      have HO := Lib.hid hown
      clear hown
      go_wp2_with fail
      go_ret
      exact ⟨⟨v', rfl, HO.out.base hbs3⟩, bnext hb3 hb4⟩
end Go.Proofs.YtdbeoigbkkdpdaaGreatDoor
/- Bodies, messages and subscriptions: how they are read. -/
namespace Go.Proofs.YtdbeoigbkkdpdaaGreatDoor
open Go.ChangeShapes Go.WideShapes Go.ChangeAt Go.RowKit

/-- a byte -/
def ByteR (cs : List Value) (b : Nat) : Prop := cs = [.int .u8 b] ∧ b < 256
abbrev Bytes := Sl ByteR 1
structure Body where
  object : Int
  stamp : Stamp
  value : List Nat
  deriving DecidableEq
structure Sub where
  from_ : Int
  interest : List Span
  session : Int
  seq : Int
  live : Bool
  heard : Bool
  idle : Bool
  deriving DecidableEq
def SubR (w : World) (B : Nat) (cs : List Value) (x : Sub) : Prop :=
  ∃ v, cs = [.int .i64 x.from_, v, .int .i64 x.session, .int .i64 x.seq, .bool x.live, .bool x.heard, .bool x.idle] ∧ I64 x.from_ ∧ I64 x.session ∧ I64 x.seq ∧ Spans w B v x.interest
abbrev Subs (w : World) (B : Nat) := Sl (SubR w B) 7 w B
theorem Subs.next {w w' : World} {v : Value} {l : List Sub} (h : Subs w w.heap.size v l) (hb : Below w.heap.size w w') : Subs w' w'.heap.size v l :=
  h.keep (fun _ _ ⟨v, e, h1, h2, h3, h4⟩ => ⟨v, e, h1, h2, h3, h4.next hb⟩) hb.size fun _ hp => hb.cell hp
structure Msg where
  kind : Int
  from_ : Int
  to_ : Int
  session : Int
  seq : Int
  interest : List Span
  vector : List Stamp
  notes : List Note
  body : Body
  deriving DecidableEq
/-- the four slices of a message -/
structure MsgV (w : World) (B : Nat) (vi vv vn vb : Value) (x : Msg) : Prop where
  interest : Spans w B vi x.interest
  vector : Stamps w B vv x.vector
  notes : Notes w B vn x.notes
  value : Bytes w B vb x.body.value
theorem MsgV.next {w w' : World} {v0 v1 v2 v3 : Value} {x : Msg} (h : MsgV w w.heap.size v0 v1 v2 v3 x) (hb : Below w.heap.size w w') : MsgV w' w'.heap.size v0 v1 v2 v3 x :=
  ⟨h.interest.next hb, h.vector.next hb, h.notes.next hb, h.value.next hb⟩
structure MsgI (x : Msg) : Prop where
  kind : I64 x.kind
  from_ : I64 x.from_
  to_ : I64 x.to_
  session : I64 x.session
  seq : I64 x.seq
  object : I64 x.body.object
end Go.Proofs.YtdbeoigbkkdpdaaGreatDoor
/- Contracts of slices.Clone, one for each element type. -/
namespace Go.Proofs.YtdbeoigbkkdpdaaGreatDoor
open Go.ChangeShapes Go.WideShapes Go.ChangeAt Go.RowKit

theorem oneSpanR : ∀ cs x, SpanR cs x → ∀ u ∈ cs, u.oneCell' = true := by
  rintro cs x ⟨rfl, _⟩ u hu; simp at hu; rcases hu with rfl | rfl <;> rfl
theorem oneStampR : ∀ cs x, StampR cs x → ∀ u ∈ cs, u.oneCell' = true := by
  rintro cs x ⟨rfl, _⟩ u hu; simp at hu; rcases hu with rfl | rfl <;> rfl
theorem oneWriteR : ∀ cs x, WriteR cs x → ∀ u ∈ cs, u.oneCell' = true := by
  rintro cs x ⟨rfl, _⟩ u hu; simp at hu; rcases hu with rfl | rfl | rfl | rfl <;> rfl
theorem Sl.one {α : Type} {R : List Value → α → Prop} {k : Nat} {w : World} {B : Nat} {v : Value} {l : List α} (h : Sl R k w B v l) : v.oneCell' = true := by
  obtain ⟨A, c, rfl, _⟩ := h; rfl
theorem ownEmptyRow {α : Type} {R : List Value → α → Prop} {k : Nat} (w : World) (e : TypeId) : OwnSl R k (w.alloc (.cells #[] e)) w.heap.size e (.slice (some ⟨w.heap.size, 0, none⟩) 0 0) [] :=
  ⟨[], ⟨by simp, .inr ⟨_, 0, #[], rfl, Nat.le_refl _, heap_alloc_new w _, Nat.le_refl _, Nat.zero_le _, by simp, by simp⟩⟩, rfl, Nat.zero_le _⟩

theorem infoSpanRow : (Tryz.prog.info? 55).map (fun i => (i.zero.map (·.cells.size), i.size, i.bytes)) = some (some 2, 2, 16) := by kernel_rfl
theorem cloneSpans (l : List Span) (v : Value) (w : World) (h : Spans w w.heap.size v l) :
    Calls Tryz.prog 28 #[v] w fun e w' => (∃ v', e = .returned v' ∧ OwnSl SpanR 2 w' w.heap.size 55 v' l) ∧ Below w.heap.size w w' := by
  have hle := h.len_le
  obtain ⟨i0, z0, hi, hz0, hzs, hz1, hz2⟩ := info_of infoSpanRow
  obtain ⟨A, c, rfl, -, -, hne⟩ := id h
  have he := fun (w : World) (a : Option Addr) (n c : Nat) => Lib.run_eql_slice_nil (P := Tryz.prog) w 45 55 a n c 0 0 Tryz.underlying45
  cases A with
  | none =>
    obtain rfl : l = [] := by
      rcases l with _ | ⟨y, l⟩
      · rfl
      · obtain ⟨b, off, h1, _⟩ := hne (by simp)
        cases h1
    clear hne h
    go_enter Tryz.func28, Tryz.ntmps28
    go_wp2_with fail
    go_ret
    exact ⟨⟨_, rfl, OwnSl.nil_ _ _ _⟩, Below.refl _ _⟩
  | some A =>
    have HH := Lib.hid h
    clear hne h
    go_enter Tryz.func28, Tryz.ntmps28
    go_wp2_with (at_builtin; refine wpList_append_sl _ (oneSpanR) rfl (.tmp 5) (.tmp 6) 45 rfl w.heap.size 55 i0 _ 16 Tryz.underlying45 hi hz0 hz1 hz2 hzs (by omega) _ [] rfl (ownEmptyRow (R := SpanR) (k := 2) w 55) w.heap.size _ l rfl (HH.out.keep (fun _ _ h => h) (Nat.le_refl _) (fun p hp => World.cell?_alloc_lt _ _ _ hp)) (by simp only [List.length_nil]; omega) (by omega) (by simp) ?_; intro v1 w1 hown hgr hat)
    simp only [List.nil_append] at hown
    have hb1 : Below w.heap.size w w1 := (balloc (Below.refl _ _)).grown hgr (by simp) (fun k hk => Nat.le_of_eq (Option.some.inj hk))
    have H1 := Lib.hid hown
    clear hown hgr hat hi hz0 hz1 hz2 hzs
    go_wp2_with fail
    go_ret
    exact ⟨⟨_, rfl, H1.out⟩, hb1⟩

theorem infoWriteRow : (Tryz.prog.info? 77).map (fun i => (i.zero.map (·.cells.size), i.size, i.bytes)) = some (some 4, 4, 32) := by kernel_rfl
theorem cloneWrites (l : List Write) (v : Value) (w : World) (h : Writes w w.heap.size v l) :
    Calls Tryz.prog 168 #[v] w fun e w' => (∃ v', e = .returned v' ∧ OwnSl WriteR 4 w' w.heap.size 77 v' l) ∧ Below w.heap.size w w' := by
  have hle := h.len_le
  obtain ⟨i0, z0, hi, hz0, hzs, hz1, hz2⟩ := info_of infoWriteRow
  obtain ⟨A, c, rfl, -, -, hne⟩ := id h
  have he := fun (w : World) (a : Option Addr) (n c : Nat) => Lib.run_eql_slice_nil (P := Tryz.prog) w 26 77 a n c 0 0 Tryz.underlying26
  cases A with
  | none =>
    obtain rfl : l = [] := by
      rcases l with _ | ⟨y, l⟩
      · rfl
      · obtain ⟨b, off, h1, _⟩ := hne (by simp)
        cases h1
    clear hne h
    go_enter Tryz.func168, Tryz.ntmps168
    go_wp2_with fail
    go_ret
    exact ⟨⟨_, rfl, OwnSl.nil_ _ _ _⟩, Below.refl _ _⟩
  | some A =>
    have HH := Lib.hid h
    clear hne h
    go_enter Tryz.func168, Tryz.ntmps168
    go_wp2_with (at_builtin; refine wpList_append_sl _ (oneWriteR) rfl (.tmp 5) (.tmp 6) 26 rfl w.heap.size 77 i0 _ 32 Tryz.underlying26 hi hz0 hz1 hz2 hzs (by omega) _ [] rfl (ownEmptyRow (R := WriteR) (k := 4) w 77) w.heap.size _ l rfl (HH.out.keep (fun _ _ h => h) (Nat.le_refl _) (fun p hp => World.cell?_alloc_lt _ _ _ hp)) (by simp only [List.length_nil]; omega) (by omega) (by simp) ?_; intro v1 w1 hown hgr hat)
    simp only [List.nil_append] at hown
    have hb1 : Below w.heap.size w w1 := (balloc (Below.refl _ _)).grown hgr (by simp) (fun k hk => Nat.le_of_eq (Option.some.inj hk))
    have H1 := Lib.hid hown
    clear hown hgr hat hi hz0 hz1 hz2 hzs
    go_wp2_with fail
    go_ret
    exact ⟨⟨_, rfl, H1.out⟩, hb1⟩

theorem infoStampRow : (Tryz.prog.info? 61).map (fun i => (i.zero.map (·.cells.size), i.size, i.bytes)) = some (some 2, 2, 16) := by kernel_rfl
theorem cloneStamps (l : List Stamp) (v : Value) (w : World) (h : Stamps w w.heap.size v l) :
    Calls Tryz.prog 96 #[v] w fun e w' => (∃ v', e = .returned v' ∧ OwnSl StampR 2 w' w.heap.size 61 v' l) ∧ Below w.heap.size w w' := by
  have hle := h.len_le
  obtain ⟨i0, z0, hi, hz0, hzs, hz1, hz2⟩ := info_of infoStampRow
  obtain ⟨A, c, rfl, -, -, hne⟩ := id h
  have he := fun (w : World) (a : Option Addr) (n c : Nat) => Lib.run_eql_slice_nil (P := Tryz.prog) w 24 61 a n c 0 0 Tryz.underlying24
  cases A with
  | none =>
    obtain rfl : l = [] := by
      rcases l with _ | ⟨y, l⟩
      · rfl
      · obtain ⟨b, off, h1, _⟩ := hne (by simp)
        cases h1
    clear hne h
    go_enter Tryz.func96, Tryz.ntmps96
    go_wp2_with fail
    go_ret
    exact ⟨⟨_, rfl, OwnSl.nil_ _ _ _⟩, Below.refl _ _⟩
  | some A =>
    have HH := Lib.hid h
    clear hne h
    go_enter Tryz.func96, Tryz.ntmps96
    go_wp2_with (at_builtin; refine wpList_append_sl _ (oneStampR) rfl (.tmp 5) (.tmp 6) 24 rfl w.heap.size 61 i0 _ 16 Tryz.underlying24 hi hz0 hz1 hz2 hzs (by omega) _ [] rfl (ownEmptyRow (R := StampR) (k := 2) w 61) w.heap.size _ l rfl (HH.out.keep (fun _ _ h => h) (Nat.le_refl _) (fun p hp => World.cell?_alloc_lt _ _ _ hp)) (by simp only [List.length_nil]; omega) (by omega) (by simp) ?_; intro v1 w1 hown hgr hat)
    simp only [List.nil_append] at hown
    have hb1 : Below w.heap.size w w1 := (balloc (Below.refl _ _)).grown hgr (by simp) (fun k hk => Nat.le_of_eq (Option.some.inj hk))
    have H1 := Lib.hid hown
    clear hown hgr hat hi hz0 hz1 hz2 hzs
    go_wp2_with fail
    go_ret
    exact ⟨⟨_, rfl, H1.out⟩, hb1⟩

end Go.Proofs.YtdbeoigbkkdpdaaGreatDoor
namespace Go.Proofs.YtdbeoigbkkdpdaaGreatDoor
open Go.ChangeShapes Go.WideShapes Go.ChangeAt Go.RowKit

def stsI (ls : List (List Stamp)) : IV := .sl 1 (ls.map fun l => [stI l])
def spsI (ls : List (List Span)) : IV := .sl 1 (ls.map fun l => [spI l])
theorem iv_stampRows {E : Env} {V w : World} {v : Value} {ls : List (List Stamp)} (hV : Ext V w) (h : RepA E V v (.iv (stsI ls))) : StampRows w w.heap.size v ls := by
  cases h with
  | iv h =>
    refine (RepV.to_typed (R := StampsR w w.heap.size) (l := ls) (enc := fun l => [stI l]) h fun cs x _ hx => ?_).ext (fun _ _ h => h) hV
    match cs, hx with
    | [v], ⟨hx, _⟩ => exact ⟨v, rfl, hx.stamps.ext (fun _ _ h => h) hV⟩
theorem iv_spanRows {E : Env} {V w : World} {v : Value} {ls : List (List Span)} (hV : Ext V w) (h : RepA E V v (.iv (spsI ls))) : RowsSpan w w.heap.size v ls := by
  cases h with
  | iv h =>
    refine (RepV.to_typed (R := RowSpan w w.heap.size) (l := ls) (enc := fun l => [spI l]) h fun cs x _ hx => ?_).ext (fun _ _ h => h) hV
    match cs, hx with
    | [v], ⟨hx, _⟩ => exact ⟨v, rfl, hx.spans.ext (fun _ _ h => h) hV⟩
theorem vformed_call (l : List Stamp) : ACalls Tryz.prog TzTab 57 [.iv (stI l)] (.val (.bool (vecFormed l))) [] :=
  bridge_val Tryz.func57 rfl (by kernel_rfl) fun V w E vs hV hG hr => by
    obtain ⟨v0, rfl, h0⟩ := args1 hr
    exact vectorFormed l _ w (iv_stamps hV h0)
theorem vcount_call (l : List Stamp) (n : Int) : ACalls Tryz.prog TzTab 94 [.iv (stI l), .val (.int .i64 n)] (.val (.int .i64 (countOf l n))) [] :=
  bridge_val Tryz.func94 rfl (by kernel_rfl) fun V w E vs hV hG hr => by
    obtain ⟨v0, v1, rfl, h0, h1⟩ := args2 hr
    cases h1
    exact vectorCount l n _ w (iv_stamps hV h0)
theorem rvformed_call (l : List Stamp) : ACalls Tryz.prog TzTab 51 [.iv (stI l)] (.val (.bool (vecFormed l))) [] :=
  bridge_val Tryz.func51 rfl (by kernel_rfl) fun V w E vs hV hG hr => by
    obtain ⟨v0, rfl, h0⟩ := args1 hr
    exact refVectorFormed l _ w (iv_stamps hV h0)
theorem rvsame_call (l : List Stamp) (m : List Stamp) : ACalls Tryz.prog TzTab 50 [.iv (stI l), .iv (stI m)] (.val (.bool (decide (l = m)))) [] :=
  bridge_val Tryz.func50 rfl (by kernel_rfl) fun V w E vs hV hG hr => by
    obtain ⟨v0, v1, rfl, h0, h1⟩ := args2 hr
    exact refVecSame l m _ _ w (iv_stamps hV h0) (iv_stamps hV h1)
theorem shas_call (l : List Span) (o : Int) : ACalls Tryz.prog TzTab 100 [.iv (spI l), .val (.int .i64 o)] (.val (.bool (spanHas l o))) [] :=
  bridge_val Tryz.func100 rfl (by kernel_rfl) fun V w E vs hV hG hr => by
    obtain ⟨v0, v1, rfl, h0, h1⟩ := args2 hr
    cases h1
    exact spanHasWalk l o _ w (iv_spans hV h0)
theorem rssame_call (l : List Span) (m : List Span) : ACalls Tryz.prog TzTab 37 [.iv (spI l), .iv (spI m)] (.val (.bool (decide (l = m)))) [] :=
  bridge_val Tryz.func37 rfl (by kernel_rfl) fun V w E vs hV hG hr => by
    obtain ⟨v0, v1, rfl, h0, h1⟩ := args2 hr
    exact refSpanSame l m _ _ w (iv_spans hV h0) (iv_spans hV h1)
theorem eqst_call (l : List Stamp) (m : List Stamp) : ACalls Tryz.prog TzTab 88 [.iv (stI l), .iv (stI m)] (.val (.bool (decide (l = m)))) [] :=
  bridge_val Tryz.func88 rfl (by kernel_rfl) fun V w E vs hV hG hr => by
    obtain ⟨v0, v1, rfl, h0, h1⟩ := args2 hr
    exact equalStamps l m _ _ w (iv_stamps hV h0) (iv_stamps hV h1)
theorem eqsp_call (l : List Span) (m : List Span) : ACalls Tryz.prog TzTab 89 [.iv (spI l), .iv (spI m)] (.val (.bool (decide (l = m)))) [] :=
  bridge_val Tryz.func89 rfl (by kernel_rfl) fun V w E vs hV hG hr => by
    obtain ⟨v0, v1, rfl, h0, h1⟩ := args2 hr
    exact equalSpans l m _ _ w (iv_spans hV h0) (iv_spans hV h1)
theorem nformed_call (x : Note) : ACalls Tryz.prog TzTab 91 [noteA x] (.val (.bool (noteFormed x))) [] :=
  bridge_val Tryz.func91 rfl (by kernel_rfl) fun V w E vs hV hG hr => by
    obtain ⟨v0, rfl, h0⟩ := args1 hr
    obtain ⟨n0, n1, n2, n3, rfl, H0⟩ := rep_note hV h0
    exact noteFormedWalk x _ _ _ _ w H0 hG
theorem nfits_call (x : Note) (l : List Stamp) : ACalls Tryz.prog TzTab 147 [noteA x, .iv (stI l)] (.val (.bool (coversB l x.start))) [] :=
  bridge_val Tryz.func147 rfl (by kernel_rfl) fun V w E vs hV hG hr => by
    obtain ⟨v0, v1, rfl, h0, h1⟩ := args2 hr
    obtain ⟨n0, n1, n2, n3, rfl, H0⟩ := rep_note hV h0
    exact noteFits x l _ _ _ _ _ w H0 (iv_stamps hV h1) hG
theorem rnformed_call (x : Note) : ACalls Tryz.prog TzTab 52 [noteA x] (.val (.bool (noteFormed x))) [] :=
  bridge_val Tryz.func52 rfl (by kernel_rfl) fun V w E vs hV hG hr => by
    obtain ⟨v0, rfl, h0⟩ := args1 hr
    obtain ⟨n0, n1, n2, n3, rfl, H0⟩ := rep_note hV h0
    exact refNoteFormed x _ _ _ _ w H0
theorem rnfits_call (x : Note) (l : List Stamp) : ACalls Tryz.prog TzTab 53 [noteA x, .iv (stI l)] (.val (.bool (coversB l x.start))) [] :=
  bridge_val Tryz.func53 rfl (by kernel_rfl) fun V w E vs hV hG hr => by
    obtain ⟨v0, v1, rfl, h0, h1⟩ := args2 hr
    obtain ⟨n0, n1, n2, n3, rfl, H0⟩ := rep_note hV h0
    exact refFits x l _ _ _ _ _ w H0 (iv_stamps hV h1)
theorem vjoin_call (ls : List (List Stamp)) : ACalls Tryz.prog TzTab 92 [.iv (stsI ls)] (.own 0) [.row 0 61 2 ((joinS ls).map enSt)] :=
  bridge_own (fun _ _ _ h => st_rep h) Tryz.func92 rfl (by kernel_rfl) fun V w E vs hV hG hr => by
    obtain ⟨v0, rfl, h0⟩ := args1 hr
    exact vectorJoin ls _ w (iv_stampRows hV h0) hG
theorem rvtwo_call (l : List Stamp) (m : List Stamp) : ACalls Tryz.prog TzTab 54 [.iv (stI l), .iv (stI m)] (.own 0) [.row 0 61 2 ((joinS [l, m]).map enSt)] :=
  bridge_own (fun _ _ _ h => st_rep h) Tryz.func54 rfl (by kernel_rfl) fun V w E vs hV hG hr => by
    obtain ⟨v0, v1, rfl, h0, h1⟩ := args2 hr
    exact refVecTwo l m _ _ w (iv_stamps hV h0) (iv_stamps hV h1)
theorem rvcopy_call (l : List Stamp) : ACalls Tryz.prog TzTab 40 [.iv (stI l)] (.own 0) [.row 0 61 2 ((l).map enSt)] :=
  bridge_own (fun _ _ _ h => st_rep h) Tryz.func40 rfl (by kernel_rfl) fun V w E vs hV hG hr => by
    obtain ⟨v0, rfl, h0⟩ := args1 hr
    exact refVecCopy l _ w (iv_stamps hV h0)
theorem clonest_call (l : List Stamp) : ACalls Tryz.prog TzTab 96 [.iv (stI l)] (.own 0) [.row 0 61 2 ((l).map enSt)] :=
  bridge_own (fun _ _ _ h => st_rep h) Tryz.func96 rfl (by kernel_rfl) fun V w E vs hV hG hr => by
    obtain ⟨v0, rfl, h0⟩ := args1 hr
    exact cloneStamps l _ w (iv_stamps hV h0)
theorem clonesp_call (l : List Span) : ACalls Tryz.prog TzTab 28 [.iv (spI l)] (.own 0) [.row 0 55 2 ((l).map enSp)] :=
  bridge_own (fun _ _ _ h => sp_rep h) Tryz.func28 rfl (by kernel_rfl) fun V w E vs hV hG hr => by
    obtain ⟨v0, rfl, h0⟩ := args1 hr
    exact cloneSpans l _ w (iv_spans hV h0)
theorem rsmeet_call (l : List Span) (m : List Span) : ACalls Tryz.prog TzTab 78 [.iv (spI l), .iv (spI m)] (.own 0) [.row 0 55 2 ((ofSet fun o => memB l o && memB m o).map enSp)] :=
  bridge_own (fun _ _ _ h => sp_rep h) Tryz.func78 rfl (by kernel_rfl) fun V w E vs hV hG hr => by
    obtain ⟨v0, v1, rfl, h0, h1⟩ := args2 hr
    exact refSpanMeet l m _ _ w (iv_spans hV h0) (iv_spans hV h1)
theorem rstwo_call (l : List Span) (m : List Span) : ACalls Tryz.prog TzTab 112 [.iv (spI l), .iv (spI m)] (.own 0) [.row 0 55 2 ((tidyS (l ++ m)).map enSp)] :=
  bridge_own (fun _ _ _ h => sp_rep h) Tryz.func112 rfl (by kernel_rfl) fun V w E vs hV hG hr => by
    obtain ⟨v0, v1, rfl, h0, h1⟩ := args2 hr
    exact refSpanTwo l m _ _ w (iv_spans hV h0) (iv_spans hV h1)
theorem rscopy_call (l : List Span) : ACalls Tryz.prog TzTab 21 [.iv (spI l)] (.own 0) [.row 0 55 2 ((l).map enSp)] :=
  bridge_own (fun _ _ _ h => sp_rep h) Tryz.func21 rfl (by kernel_rfl) fun V w E vs hV hG hr => by
    obtain ⟨v0, rfl, h0⟩ := args1 hr
    exact refSpanCopy l _ w (iv_spans hV h0)
attribute [local irreducible] rowOf
def setI (f : Nat → Bool) : List IV := (setRow f).toList.map IV.val
def c64I (c : Nat → Int) : List IV := (row64 c).toList.map IV.val
theorem reps_vals {X : World} : ∀ {vs l : List Value}, RepVs X vs (l.map IV.val) → vs = l
  | [], [], _ => rfl
  | v :: vs, u :: l, h => by
    have h1 := h.1
    cases h1
    rw [reps_vals (vs := vs) (l := l) h.2]
  | [], _ :: _, h => h.elim
  | _ :: _, [], h => h.elim
theorem aggI_vals {E : Env} {X : World} {v : Value} {l : List Value} (h : RepA E X v (.aggI (l.map IV.val))) : v = .agg l.toArray := by
  cases h with
  | @aggI vs _ h => rw [← reps_vals h]
theorem row_rep {X : World} {n : Nat} {f : Nat → Value} (h : ∀ i, i < n → okV (f i)) : RepVs X (rowOf n f).toList ((rowOf n f).toList.map IV.val) :=
  RepVs.of (by rw [List.length_map]) fun j v i h1 h2 => by
    rw [List.getElem?_map, h1] at h2
    obtain rfl := Option.some.inj h2
    rw [Array.getElem?_toList] at h1
    have hj := (Array.getElem?_eq_some_iff.1 h1).1
    rw [rowOf_size] at hj
    rw [rowOf_at hj] at h1
    obtain rfl := Option.some.inj h1
    exact .val (h j hj)
theorem set_rep {X : World} {f : Nat → Bool} : RepVs X (setRow f).toList (setI f) := row_rep fun _ _ => trivial
theorem c64_rep {X : World} {c : Nat → Int} (hc : ∀ n, n < 64 → I64 (c n)) : RepVs X (row64 c).toList (c64I c) := row_rep fun i hi => hc i hi
theorem set_agg {E : Env} {X : World} {v : Value} {f : Nat → Bool} (h : RepA E X v (.aggI (setI f))) : v = .agg (setRow f) := by
  have := aggI_vals h
  rwa [Array.toArray_toList] at this
theorem c64_agg {E : Env} {X : World} {v : Value} {c : Nat → Int} (h : RepA E X v (.aggI (c64I c))) : v = .agg (row64 c) := by
  have := aggI_vals h
  rwa [Array.toArray_toList] at this
attribute [local irreducible] setI c64I setRow row64
theorem rset_call (l : List Span) : ACalls Tryz.prog TzTab 109 [.iv (spI l)] (.aggI (setI fun o => memB l o)) [] :=
  bridge Tryz.func109 rfl (by kernel_rfl) fun V w E vs hV hG hr => by
    obtain ⟨v, rfl, hv⟩ := args1 hr
    exact (refSet l v w (iv_spans hV hv)).mono fun e w1 h => ⟨_, h.1, h.2, .aggI set_rep⟩
theorem rsof_call (f : Nat → Bool) : ACalls Tryz.prog TzTab 80 [.aggI (setI f)] (.own 0) [.row 0 55 2 ((ofSet f).map enSp)] :=
  bridge_own (fun _ _ _ h => sp_rep h) Tryz.func80 rfl (by kernel_rfl) fun V w E vs hV hG hr => by
    obtain ⟨v0, rfl, h0⟩ := args1 hr
    obtain rfl := set_agg h0
    exact refOf f w
theorem rvof_call (c : Nat → Int) (hc : ∀ n, n < 64 → I64 (c n)) : ACalls Tryz.prog TzTab 111 [.aggI (c64I c)] (.own 0) [.row 0 61 2 ((vecOf c).map enSt)] :=
  bridge_own (fun _ _ _ h => st_rep h) Tryz.func111 rfl (by kernel_rfl) fun V w E vs hV hG hr => by
    obtain ⟨v0, rfl, h0⟩ := args1 hr
    obtain rfl := c64_agg h0
    exact refVecOf c hc w
theorem rcounts_call (l : List Stamp) : ACalls Tryz.prog TzTab 110 [.iv (stI l)] (.aggI (c64I fun n => countOf l n)) [] :=
  bridge Tryz.func110 rfl (by kernel_rfl) fun V w E vs hV hG hr => by
    obtain ⟨v, rfl, hv⟩ := args1 hr
    have hs := iv_stamps hV hv
    exact (refCounts l v w hs).mono fun e w1 h => ⟨_, h.1, h.2, .aggI (c64_rep (countsI_of hs))⟩
theorem clonew_call (l : List Write) : ACalls Tryz.prog TzTab 168 [.iv (wrI l)] (.own 0) [.row 0 77 4 (l.map enW)] :=
  bridge_own (fun _ _ _ h => w_rep h) Tryz.func168 rfl (by kernel_rfl) fun V w E vs hV hG hr => by
    obtain ⟨v0, rfl, h0⟩ := args1 hr
    exact cloneWrites l _ w (iv_writes hV h0)
end Go.Proofs.YtdbeoigbkkdpdaaGreatDoor
