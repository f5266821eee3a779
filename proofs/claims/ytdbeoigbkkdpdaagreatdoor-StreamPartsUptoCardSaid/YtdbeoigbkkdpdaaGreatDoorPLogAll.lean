/- Logs: told one by one. -/
import Derived.Test.YtdbeoigbkkdpdaaGreatDoorPLogWalk
import Derived.Test.YtdbeoigbkkdpdaaGreatDoorPEnts
set_option linter.all false
set_option linter.unnecessarySimpa false
set_option linter.unusedSimpArgs false
set_option linter.unusedVariables false
/- Logs: checked, told one by one. -/
namespace Go.Proofs.YtdbeoigbkkdpdaaGreatDoor
open Go.ChangeShapes Go.WideShapes Go.ChangeAt Go.RowKit
attribute [local irreducible] AW AWY vops vopsY vop vopL vdraw callW qop binQ lenQ storeQ appendQ callQ ACalls AIter
attribute [local go_sem] noI_eq enN_eq logA_eq noteA_eq storeQ_bp storeQ_rp

theorem lformed_call (l : Log) (iS : I64 l.sure) : ACalls Tryz.prog TzTab 42 [logA l] (.val (.bool (logFormed l))) [] := by
  refine ACalls.of (n := 11) (rs := [.tmp 2]) Tryz.func42 rfl (by kernel_rfl) Tryz.ntmps42 (by kernel_rfl) (by simp) (fun _ _ => TzTab.later) ?_
  intro hok V w0
  simp -implicitDefEqProofs (disch := first | with_unfolding_all exact Eq.trans rfl rfl | omega) only [go_sem, seval]
  try simp -implicitDefEqProofs (disch := first | with_unfolding_all exact Eq.trans rfl rfl | omega) only [go_sem, seval]
  repeat' ((first | refine st_ rfl ?_ | refine hold_ ?_ | refine cond_ (fun h => ?_) (fun h => ?_) | (refine hKD _ _ ⟨rfl, ?_⟩; clear hKD KD)) <;> try simp -implicitDefEqProofs (disch := first | with_unfolding_all exact Eq.trans rfl rfl | omega) only [go_sem, seval])
  refine call_ (lwalk_call l iS) rfl ?_
  try simp -implicitDefEqProofs (disch := first | with_unfolding_all exact Eq.trans rfl rfl | omega) only [go_sem, seval]
  repeat' ((first | refine st_ rfl ?_ | refine hold_ ?_ | refine cond_ (fun h => ?_) (fun h => ?_) | (refine hKD _ _ ⟨rfl, ?_⟩; clear hKD KD)) <;> try simp -implicitDefEqProofs (disch := first | with_unfolding_all exact Eq.trans rfl rfl | omega) only [go_sem, seval])
  trace_state
  exact ⟨.inl trivial, id, List.nodup_nil⟩
theorem own_note (x : Note) : ACalls Tryz.prog TzTab 149 [noteA x] (noteA x) [] := by
  refine ACalls.of (n := 16) (rs := [.cell 2 79]) Tryz.func149 rfl (by kernel_rfl) Tryz.ntmps149 (by kernel_rfl) (by simp) (fun _ _ => TzTab.later) ?_
  intro hok V w0
  simp -implicitDefEqProofs (disch := first | with_unfolding_all exact Eq.trans rfl rfl | omega) only [go_sem, seval]
  refine AW.seq ?_
  refine AW.reg rfl fun KK hKK => ?_
  try simp -implicitDefEqProofs (disch := first | with_unfolding_all exact Eq.trans rfl rfl | omega) only [go_sem, seval]
  repeat' ((first | refine hold_ ?_ | (refine hKK _ ?_; clear hKK KK)) <;> try simp -implicitDefEqProofs (disch := first | with_unfolding_all exact Eq.trans rfl rfl | omega) only [go_sem, seval])
  refine AW.freeze 200 _ rfl (by simp [okB, okAs, okA]) ?_
  simp only [go_sem, reduceIte]
  try simp -implicitDefEqProofs (disch := first | with_unfolding_all exact Eq.trans rfl rfl | omega) only [go_sem, seval]
  repeat' ((first | refine st_ rfl ?_ | refine hold_ ?_ | refine cond_ (fun h => ?_) (fun h => ?_) | (refine hKD _ _ ⟨rfl, ?_⟩; clear hKD KD)) <;> try simp -implicitDefEqProofs (disch := first | with_unfolding_all exact Eq.trans rfl rfl | omega) only [go_sem, seval])
  refine AW.drawn (ds := [3, 4, 5, 6, 7, 8, 9, 10, 11, 12, 13, 14, 15]) (fin := [1]) (bs := [1, 1, 1, 1, 1, 1, 1, 1, 1, 1, 1, 1, 1, 1]) [⟨[], [], [], [], 0⟩, ⟨[(3, 0)], [], [0], [], 0⟩, ⟨[(4, 1)], [], [0], [], 0⟩, ⟨[], [], [], [], 0⟩, ⟨[(6, 3)], [], [0], [], 0⟩, ⟨[(7, 4)], [], [0], [], 0⟩, ⟨[], [], [], [], 0⟩, ⟨[(9, 6)], [], [0], [], 0⟩, ⟨[(10, 7)], [], [0], [], 0⟩, ⟨[], [], [], [], 0⟩, ⟨[(12, 9)], [], [0], [], 0⟩, ⟨[(13, 10)], [], [0], [], 0⟩, ⟨[(5, 2), (8, 5), (11, 8), (14, 11)], [], [], [], 0⟩, ⟨[(15, 12)], [], [], [0], 1⟩] (by kernel_rfl) rfl (by kernel_rfl) rfl rfl rfl fun KD hKD => ?_
  try simp -implicitDefEqProofs (disch := first | with_unfolding_all exact Eq.trans rfl rfl | omega) only [go_sem, seval]
  repeat' ((first | refine st_ rfl ?_ | refine hold_ ?_ | refine cond_ (fun h => ?_) (fun h => ?_) | (refine hKD _ _ ⟨rfl, ?_⟩; clear hKD KD)) <;> try simp -implicitDefEqProofs (disch := first | with_unfolding_all exact Eq.trans rfl rfl | omega) only [go_sem, seval])
  refine call_ (clonestD x.start) rfl ?_
  try simp -implicitDefEqProofs (disch := first | with_unfolding_all exact Eq.trans rfl rfl | omega) only [go_sem, seval]
  repeat' ((first | refine st_ rfl ?_ | refine hold_ ?_ | refine cond_ (fun h => ?_) (fun h => ?_) | (refine hKD _ _ ⟨rfl, ?_⟩; clear hKD KD)) <;> try simp -implicitDefEqProofs (disch := first | with_unfolding_all exact Eq.trans rfl rfl | omega) only [go_sem, seval])
  refine call_ (clonestD x.end_) rfl ?_
  try simp -implicitDefEqProofs (disch := first | with_unfolding_all exact Eq.trans rfl rfl | omega) only [go_sem, seval]
  repeat' ((first | refine st_ rfl ?_ | refine hold_ ?_ | refine cond_ (fun h => ?_) (fun h => ?_) | (refine hKD _ _ ⟨rfl, ?_⟩; clear hKD KD)) <;> try simp -implicitDefEqProofs (disch := first | with_unfolding_all exact Eq.trans rfl rfl | omega) only [go_sem, seval])
  refine call_ (clonespD x.blur) rfl ?_
  try simp -implicitDefEqProofs (disch := first | with_unfolding_all exact Eq.trans rfl rfl | omega) only [go_sem, seval]
  repeat' ((first | refine st_ rfl ?_ | refine hold_ ?_ | refine cond_ (fun h => ?_) (fun h => ?_) | (refine hKD _ _ ⟨rfl, ?_⟩; clear hKD KD)) <;> try simp -implicitDefEqProofs (disch := first | with_unfolding_all exact Eq.trans rfl rfl | omega) only [go_sem, seval])
  refine call_ (clonewD x.writes) rfl ?_
  try simp -implicitDefEqProofs (disch := first | with_unfolding_all exact Eq.trans rfl rfl | omega) only [go_sem, seval]
  repeat' ((first | refine st_ rfl ?_ | refine hold_ ?_ | refine cond_ (fun h => ?_) (fun h => ?_) | (refine hKD _ _ ⟨rfl, ?_⟩; clear hKD KD)) <;> try simp -implicitDefEqProofs (disch := first | with_unfolding_all exact Eq.trans rfl rfl | omega) only [go_sem, seval])
  exact ⟨.inl trivial, id, List.nodup_nil⟩
end Go.Proofs.YtdbeoigbkkdpdaaGreatDoor
namespace Go.Proofs.YtdbeoigbkkdpdaaGreatDoor
open Go.ChangeShapes Go.WideShapes Go.ChangeAt Go.RowKit
attribute [local irreducible] AW AWY vops vopsY vop vopL vdraw callW qop binQ lenQ storeQ appendQ callQ ACalls AIter
attribute [local go_sem] noI_eq enN_eq logA_eq noteA_eq storeQ_bp storeQ_rp

def logP (l : Log) : AV := .ip [stI l.base, noI l.notes, .val (.int .i64 l.sure)]
theorem logP_eq (l : Log) : logP l = .ip [stI l.base, noI l.notes, .val (.int .i64 l.sure)] := rfl
attribute [local go_sem] logP_eq
theorem lall_call (l : Log) (n : Int) (iS : I64 l.sure) (iN : I64 n) : ACalls Tryz.prog TzTab 86 [logA l, .val (.int .i64 n)] (.fn 148 [logP l, .ip [.val (.int .i64 n)]]) [] := by
  have h : ACalls Tryz.prog TzTab 86 [logA l, .val (.int .i64 n)] (.fn 148 [.bp 0 0, .bp 1 0]) [.box 0 [.iv (stI l.base), .iv (noI l.notes), .val (.int .i64 l.sure)], .box 1 [.val (.int .i64 n)]] := by
    refine ACalls.of (n := 6) (rs := [.tmp 4]) Tryz.func86 rfl (by kernel_rfl) Tryz.ntmps86 (by kernel_rfl) (by simp) (fun _ _ => TzTab.later) ?_
    intro hok V w0
    simp -implicitDefEqProofs (disch := first | with_unfolding_all exact Eq.trans rfl rfl | omega) only [go_sem, seval]
    try simp -implicitDefEqProofs (disch := first | with_unfolding_all exact Eq.trans rfl rfl | omega) only [go_sem, seval]
    repeat' ((first | refine st_ rfl ?_ | refine hold_ ?_ | refine cond_ (fun h => ?_) (fun h => ?_) | (refine hKD _ _ ⟨rfl, ?_⟩; clear hKD KD)) <;> try simp -implicitDefEqProofs (disch := first | with_unfolding_all exact Eq.trans rfl rfl | omega) only [go_sem, seval])
    exact ⟨.inl trivial, fun b => 300 + 100 * b, rfl, ⟨rfl, rfl⟩, by simp⟩
  exact (h.frz ⟨trivial, trivial, iS, trivial⟩).frz ⟨iN, trivial⟩
def enL (p : Note × Nat) : List AV := [.val (.int .i64 (p.2 : Nat)), noteA p.1]
def ents (l : Log) (a : Nat) : List (Note × Nat) := if logFormed l = true then allL l.notes a else []
theorem lall_iter (l : Log) (n : Int) (iS : I64 l.sure) : AIter Tryz.prog TzTab 148 [logP l, .ip [.val (.int .i64 n)]] enL (fun ys => ys = ents l n.toNat) (fun pre => pre <+: ents l n.toNat) := by
  obtain ⟨a, ha⟩ : ∃ a, n.toNat = a := ⟨_, rfl⟩
  rw [ha]
  refine AIter.of (n := 27) Tryz.func148 rfl (by kernel_rfl) Tryz.ntmps148 (by kernel_rfl) (by simp) (fun _ _ => TzTab.later) ?_
  intro hok Y
  have hlen : l.notes.length ≤ 1073741824 := by simpa using hok.1.2.1.1
  simp -implicitDefEqProofs (disch := first | with_unfolding_all exact Eq.trans rfl rfl | omega) only [go_sem, seval]
  try simp -implicitDefEqProofs (disch := first | with_unfolding_all exact Eq.trans rfl rfl | omega) only [go_sem, seval]
  repeat' ((first | refine stY_ rfl ?_ | refine hold_ ?_ | refine cond_ (fun h => ?_) (fun h => ?_)) <;> try simp -implicitDefEqProofs (disch := first | with_unfolding_all exact Eq.trans rfl rfl | omega) only [go_sem, seval])
  refine call_ (lformed_call l iS) rfl ?_
  cases hb : logFormed l
  · have he : ents l a = [] := by unfold ents; rw [hb]; rfl
    try simp -implicitDefEqProofs (disch := first | with_unfolding_all exact Eq.trans rfl rfl | omega) only [go_sem, seval]
    repeat' ((first | refine stY_ rfl ?_ | refine hold_ ?_ | refine cond_ (fun h => ?_) (fun h => ?_)) <;> try simp -implicitDefEqProofs (disch := first | with_unfolding_all exact Eq.trans rfl rfl | omega) only [go_sem, seval])
    exact ⟨.inl trivial, he.symm⟩
  have he : ents l a = allL l.notes a := by unfold ents; rw [if_pos hb]
  try simp -implicitDefEqProofs (disch := first | with_unfolding_all exact Eq.trans rfl rfl | omega) only [go_sem, seval]
  repeat' ((first | refine stY_ rfl ?_ | refine hold_ ?_ | refine cond_ (fun h => ?_) (fun h => ?_)) <;> try simp -implicitDefEqProofs (disch := first | with_unfolding_all exact Eq.trans rfl rfl | omega) only [go_sem, seval])
  refine ⟨(a : Int), by omega, ?_⟩
  try simp -implicitDefEqProofs (disch := first | with_unfolding_all exact Eq.trans rfl rfl | omega) only [go_sem, seval]
  repeat' ((first | refine stY_ rfl ?_ | refine hold_ ?_ | refine cond_ (fun h => ?_) (fun h => ?_)) <;> try simp -implicitDefEqProofs (disch := first | with_unfolding_all exact Eq.trans rfl rfl | omega) only [go_sem, seval])
  refine AWY.loop (fun i : {i : Nat // a ≤ i ∧ (i ≤ l.notes.length ∨ i = a)} => (.going (preL l.notes a i.1), ⟨[(0, .val (.func (.yield Y.l) #[] #[])), (1, logP l), (4, .val (.int .i64 (i.1 : Nat)))], []⟩)) (fun i => l.notes.length - i.1) ⟨a, Nat.le_refl _, .inr rfl⟩ id ⟨by rw [preL_self], ⟨rfl, rfl, rfl, trivial⟩, trivial, List.nodup_nil⟩ fun ⟨i, hi, hi2⟩ => ?_
  try simp -implicitDefEqProofs (disch := first | with_unfolding_all exact Eq.trans rfl rfl | omega) only [go_sem, seval]
  repeat' ((first | refine stY_ rfl ?_ | refine hold_ ?_ | refine cond_ (fun h => ?_) (fun h => ?_)) <;> try simp -implicitDefEqProofs (disch := first | with_unfolding_all exact Eq.trans rfl rfl | omega) only [go_sem, seval])
  · have hlt : i < l.notes.length := by simpa using h
    refine ⟨by omega, _, get_map (List.getElem?_eq_getElem hlt), ?_⟩
    try simp -implicitDefEqProofs (disch := first | with_unfolding_all exact Eq.trans rfl rfl | omega) only [go_sem, seval]
    repeat' ((first | refine stY_ rfl ?_ | refine hold_ ?_ | refine cond_ (fun h => ?_) (fun h => ?_)) <;> try simp -implicitDefEqProofs (disch := first | with_unfolding_all exact Eq.trans rfl rfl | omega) only [go_sem, seval])
    refine call_ (own_note l.notes[i]) rfl ?_
    try simp -implicitDefEqProofs (disch := first | with_unfolding_all exact Eq.trans rfl rfl | omega) only [go_sem, seval]
    repeat' ((first | refine stY_ rfl ?_ | refine hold_ ?_ | refine cond_ (fun h => ?_) (fun h => ?_)) <;> try simp -implicitDefEqProofs (disch := first | with_unfolding_all exact Eq.trans rfl rfl | omega) only [go_sem, seval])
    have hs := preL_succ hi hlt
    refine vopsY_y (x := (l.notes[i], i)) ?_ ?_ ?_ ?_
    · rfl
    · exact Sbs.rfl_ _
    · rw [he, ← hs]; exact preL_prefix _ _ _
    simp only [go_sem]
    rw [← hs]
    refine ⟨?_, ?_⟩
    · try simp -implicitDefEqProofs (disch := first | with_unfolding_all exact Eq.trans rfl rfl | omega) only [go_sem, seval]
      repeat' ((first | refine stY_ rfl ?_ | refine hold_ ?_ | refine cond_ (fun h => ?_) (fun h => ?_)) <;> try simp -implicitDefEqProofs (disch := first | with_unfolding_all exact Eq.trans rfl rfl | omega) only [go_sem, seval])
      refine ⟨⟨i + 1, by omega, .inl hlt⟩, id, rfl, ⟨⟨rfl, rfl, rfl, trivial⟩, trivial, List.nodup_nil⟩, by show l.notes.length - (i + 1) < l.notes.length - i; omega⟩
    · try simp -implicitDefEqProofs (disch := first | with_unfolding_all exact Eq.trans rfl rfl | omega) only [go_sem, seval]
      repeat' ((first | refine stY_ rfl ?_ | refine hold_ ?_ | refine cond_ (fun h => ?_) (fun h => ?_)) <;> try simp -implicitDefEqProofs (disch := first | with_unfolding_all exact Eq.trans rfl rfl | omega) only [go_sem, seval])
      exact .inl trivial
  · have hle : l.notes.length ≤ i := by simpa using h
    exact ⟨.inr trivial, by rw [he, preL_all hle]⟩
end Go.Proofs.YtdbeoigbkkdpdaaGreatDoor
