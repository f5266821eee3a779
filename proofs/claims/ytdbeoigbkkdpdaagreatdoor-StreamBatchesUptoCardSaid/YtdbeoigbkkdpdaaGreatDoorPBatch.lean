/- A part of a log, as it is seen, told in batches (the program's). -/
import Derived.Test.YtdbeoigbkkdpdaaGreatDoorPLogWalk
import Derived.Test.YtdbeoigbkkdpdaaGreatDoorPStreamSpec
import Derived.Test.YtdbeoigbkkdpdaaGreatDoorPBridge2
import Derived.Test.YtdbeoigbkkdpdaaGreatDoorPAbsApp
import Derived.Test.YtdbeoigbkkdpdaaGreatDoorPNoteMerge
set_option linter.all false
set_option linter.unnecessarySimpa false
set_option linter.unusedSimpArgs false
set_option linter.unusedVariables false
/- Logs: checked, told one by one. -/
namespace Go.Proofs.YtdbeoigbkkdpdaaGreatDoor
open Go.ChangeShapes Go.WideShapes Go.ChangeAt Go.RowKit
attribute [local irreducible] AW AWY vops vopsY vop vopL vdraw callW qop binQ lenQ storeQ appendQ callQ ACalls AIter
attribute [local go_sem] noI_eq enN_eq logA_eq noteA_eq storeQ_bp storeQ_rp

theorem lformed_call (l : Log) (iS : I64 l.sure) : ACalls Tryz.prog TzTab 42 [logA l] (.val (.bool (logFormed l))) [] := by
  refine ACalls.of (n := 11) (rs := [.tmp 2]) Tryz.func42 rfl (by kernel_rfl) Tryz.ntmps42 (by kernel_rfl) (by simp) (fun _ _ => TzTab.later) ?_
  intro hok V w0
  simp -implicitDefEqProofs (disch := first | with_unfolding_all exact Eq.trans rfl rfl | omega) only [go_sem, seval]
  try simp -implicitDefEqProofs (disch := first | with_unfolding_all exact Eq.trans rfl rfl | omega) only [go_sem, seval]
  repeat' ((first | refine st_ rfl ?_ | refine hold_ ?_ | refine cond_ (fun h => ?_) (fun h => ?_) | (refine hKD _ _ ⟨rfl, ?_⟩; clear hKD KD)) <;> try simp -implicitDefEqProofs (disch := first | with_unfolding_all exact Eq.trans rfl rfl | omega) only [go_sem, seval])
  refine call_ (lwalk_call l iS) rfl ?_
  try simp -implicitDefEqProofs (disch := first | with_unfolding_all exact Eq.trans rfl rfl | omega) only [go_sem, seval]
  repeat' ((first | refine st_ rfl ?_ | refine hold_ ?_ | refine cond_ (fun h => ?_) (fun h => ?_) | (refine hKD _ _ ⟨rfl, ?_⟩; clear hKD KD)) <;> try simp -implicitDefEqProofs (disch := first | with_unfolding_all exact Eq.trans rfl rfl | omega) only [go_sem, seval])
  trace_state
  exact ⟨.inl trivial, id, List.nodup_nil⟩
theorem own_note (x : Note) : ACalls Tryz.prog TzTab 149 [noteA x] (noteA x) [] := by
  refine ACalls.of (n := 16) (rs := [.cell 2 79]) Tryz.func149 rfl (by kernel_rfl) Tryz.ntmps149 (by kernel_rfl) (by simp) (fun _ _ => TzTab.later) ?_
  intro hok V w0
  simp -implicitDefEqProofs (disch := first | with_unfolding_all exact Eq.trans rfl rfl | omega) only [go_sem, seval]
  refine AW.seq ?_
  refine AW.reg rfl fun KK hKK => ?_
  try simp -implicitDefEqProofs (disch := first | with_unfolding_all exact Eq.trans rfl rfl | omega) only [go_sem, seval]
  repeat' ((first | refine hold_ ?_ | (refine hKK _ ?_; clear hKK KK)) <;> try simp -implicitDefEqProofs (disch := first | with_unfolding_all exact Eq.trans rfl rfl | omega) only [go_sem, seval])
  refine AW.freeze 200 _ rfl (by simp [okB, okAs, okA]) ?_
  simp only [go_sem, reduceIte]
  try simp -implicitDefEqProofs (disch := first | with_unfolding_all exact Eq.trans rfl rfl | omega) only [go_sem, seval]
  repeat' ((first | refine st_ rfl ?_ | refine hold_ ?_ | refine cond_ (fun h => ?_) (fun h => ?_) | (refine hKD _ _ ⟨rfl, ?_⟩; clear hKD KD)) <;> try simp -implicitDefEqProofs (disch := first | with_unfolding_all exact Eq.trans rfl rfl | omega) only [go_sem, seval])
  refine AW.drawn (ds := [3, 4, 5, 6, 7, 8, 9, 10, 11, 12, 13, 14, 15]) (fin := [1]) (bs := [1, 1, 1, 1, 1, 1, 1, 1, 1, 1, 1, 1, 1, 1]) [⟨[], [], [], [], 0⟩, ⟨[(3, 0)], [], [0], [], 0⟩, ⟨[(4, 1)], [], [0], [], 0⟩, ⟨[], [], [], [], 0⟩, ⟨[(6, 3)], [], [0], [], 0⟩, ⟨[(7, 4)], [], [0], [], 0⟩, ⟨[], [], [], [], 0⟩, ⟨[(9, 6)], [], [0], [], 0⟩, ⟨[(10, 7)], [], [0], [], 0⟩, ⟨[], [], [], [], 0⟩, ⟨[(12, 9)], [], [0], [], 0⟩, ⟨[(13, 10)], [], [0], [], 0⟩, ⟨[(5, 2), (8, 5), (11, 8), (14, 11)], [], [], [], 0⟩, ⟨[(15, 12)], [], [], [0], 1⟩] (by kernel_rfl) rfl (by kernel_rfl) rfl rfl rfl fun KD hKD => ?_
  try simp -implicitDefEqProofs (disch := first | with_unfolding_all exact Eq.trans rfl rfl | omega) only [go_sem, seval]
  repeat' ((first | refine st_ rfl ?_ | refine hold_ ?_ | refine cond_ (fun h => ?_) (fun h => ?_) | (refine hKD _ _ ⟨rfl, ?_⟩; clear hKD KD)) <;> try simp -implicitDefEqProofs (disch := first | with_unfolding_all exact Eq.trans rfl rfl | omega) only [go_sem, seval])
  refine call_ (clonestD x.start) rfl ?_
  try simp -implicitDefEqProofs (disch := first | with_unfolding_all exact Eq.trans rfl rfl | omega) only [go_sem, seval]
  repeat' ((first | refine st_ rfl ?_ | refine hold_ ?_ | refine cond_ (fun h => ?_) (fun h => ?_) | (refine hKD _ _ ⟨rfl, ?_⟩; clear hKD KD)) <;> try simp -implicitDefEqProofs (disch := first | with_unfolding_all exact Eq.trans rfl rfl | omega) only [go_sem, seval])
  refine call_ (clonestD x.end_) rfl ?_
  try simp -implicitDefEqProofs (disch := first | with_unfolding_all exact Eq.trans rfl rfl | omega) only [go_sem, seval]
  repeat' ((first | refine st_ rfl ?_ | refine hold_ ?_ | refine cond_ (fun h => ?_) (fun h => ?_) | (refine hKD _ _ ⟨rfl, ?_⟩; clear hKD KD)) <;> try simp -implicitDefEqProofs (disch := first | with_unfolding_all exact Eq.trans rfl rfl | omega) only [go_sem, seval])
  refine call_ (clonespD x.blur) rfl ?_
  try simp -implicitDefEqProofs (disch := first | with_unfolding_all exact Eq.trans rfl rfl | omega) only [go_sem, seval]
  repeat' ((first | refine st_ rfl ?_ | refine hold_ ?_ | refine cond_ (fun h => ?_) (fun h => ?_) | (refine hKD _ _ ⟨rfl, ?_⟩; clear hKD KD)) <;> try simp -implicitDefEqProofs (disch := first | with_unfolding_all exact Eq.trans rfl rfl | omega) only [go_sem, seval])
  refine call_ (clonewD x.writes) rfl ?_
  try simp -implicitDefEqProofs (disch := first | with_unfolding_all exact Eq.trans rfl rfl | omega) only [go_sem, seval]
  repeat' ((first | refine st_ rfl ?_ | refine hold_ ?_ | refine cond_ (fun h => ?_) (fun h => ?_) | (refine hKD _ _ ⟨rfl, ?_⟩; clear hKD KD)) <;> try simp -implicitDefEqProofs (disch := first | with_unfolding_all exact Eq.trans rfl rfl | omega) only [go_sem, seval])
  exact ⟨.inl trivial, id, List.nodup_nil⟩
end Go.Proofs.YtdbeoigbkkdpdaaGreatDoor
/- The entries of a row from a place on, with their places. No program is known here. -/
namespace Go.Proofs.YtdbeoigbkkdpdaaGreatDoor
variable {α : Type}
def preL (l : List α) (a i : Nat) : List (α × Nat) := ((l.take i).drop a).zipIdx a
def allL (l : List α) (a : Nat) : List (α × Nat) := (l.drop a).zipIdx a
theorem preL_self (l : List α) (a : Nat) : preL l a a = [] := by
  unfold preL
  rw [List.drop_of_length_le (by rw [List.length_take]; omega)]
  rfl
theorem preL_len {l : List α} {a i : Nat} (h : i ≤ l.length) : (preL l a i).length = i - a := by simp [preL]; omega
theorem preL_succ {l : List α} {a i : Nat} (ha : a ≤ i) (hi : i < l.length) : preL l a (i + 1) = preL l a i ++ [(l[i], i)] := by
  unfold preL
  rw [List.take_succ_eq_append_getElem hi, List.drop_append_of_le_length (by rw [List.length_take]; omega), List.zipIdx_append]
  have : a + ((l.take i).drop a).length = i := by rw [List.length_drop, List.length_take]; omega
  rw [this]
  rfl
theorem preL_all {l : List α} {a i : Nat} (h : l.length ≤ i) : preL l a i = allL l a := by
  unfold preL allL
  rw [List.take_of_length_le h]
theorem zipIdx_pre {l m : List α} (h : l <+: m) (a : Nat) : l.zipIdx a <+: m.zipIdx a := by
  obtain ⟨t, rfl⟩ := h
  rw [List.zipIdx_append]
  exact List.prefix_append _ _
theorem preL_prefix (l : List α) (a i : Nat) : preL l a i <+: allL l a := by
  refine zipIdx_pre ?_ a
  rw [List.drop_take]
  exact List.take_prefix _ _
theorem allL_at {l : List α} {a j : Nat} {p : α × Nat} (h : (allL l a)[j]? = some p) : p.2 = a + j ∧ l[a + j]? = some p.1 := by
  unfold allL at h
  rw [List.getElem?_zipIdx, Option.map_eq_some_iff] at h
  obtain ⟨x, h1, rfl⟩ := h
  rw [List.getElem?_drop] at h1
  exact ⟨rfl, h1⟩
/-- the entry behind those that came -/
theorem pre_next {l : List α} {a : Nat} {pre : List (α × Nat)} {x : α × Nat} (h : pre ++ [x] <+: allL l a) : pre = preL l a (a + pre.length) ∧ x.2 = a + pre.length ∧ l[a + pre.length]? = some x.1 := by
  have hx : (allL l a)[pre.length]? = some x := by
    obtain ⟨t, ht⟩ := h
    rw [← ht, List.append_assoc, List.getElem?_append_right (Nat.le_refl _), Nat.sub_self]; rfl
  obtain ⟨h1, h2⟩ := allL_at hx
  refine ⟨?_, h1, h2⟩
  have hlt := (List.getElem?_eq_some_iff.1 h2).1
  have p1 : pre <+: allL l a := (List.prefix_append pre [x]).trans h
  have p2 := preL_prefix l a (a + pre.length)
  rw [List.prefix_iff_eq_take] at p1 p2
  rw [preL_len (by omega), Nat.add_sub_cancel_left] at p2
  exact p1.trans p2.symm
end Go.Proofs.YtdbeoigbkkdpdaaGreatDoor
/- Logs: told one by one. -/
namespace Go.Proofs.YtdbeoigbkkdpdaaGreatDoor
open Go.ChangeShapes Go.WideShapes Go.ChangeAt Go.RowKit
attribute [local irreducible] AW AWY vops vopsY vop vopL vdraw callW qop binQ lenQ storeQ appendQ callQ ACalls AIter
attribute [local go_sem] noI_eq enN_eq logA_eq noteA_eq storeQ_bp storeQ_rp

def logP (l : Log) : AV := .ip [stI l.base, noI l.notes, .val (.int .i64 l.sure)]
theorem logP_eq (l : Log) : logP l = .ip [stI l.base, noI l.notes, .val (.int .i64 l.sure)] := rfl
attribute [local go_sem] logP_eq
theorem lall_call (l : Log) (n : Int) (iS : I64 l.sure) (iN : I64 n) : ACalls Tryz.prog TzTab 86 [logA l, .val (.int .i64 n)] (.fn 148 [logP l, .ip [.val (.int .i64 n)]]) [] := by
  have h : ACalls Tryz.prog TzTab 86 [logA l, .val (.int .i64 n)] (.fn 148 [.bp 0 0, .bp 1 0]) [.box 0 [.iv (stI l.base), .iv (noI l.notes), .val (.int .i64 l.sure)], .box 1 [.val (.int .i64 n)]] := by
    refine ACalls.of (n := 6) (rs := [.tmp 4]) Tryz.func86 rfl (by kernel_rfl) Tryz.ntmps86 (by kernel_rfl) (by simp) (fun _ _ => TzTab.later) ?_
    intro hok V w0
    simp -implicitDefEqProofs (disch := first | with_unfolding_all exact Eq.trans rfl rfl | omega) only [go_sem, seval]
    try simp -implicitDefEqProofs (disch := first | with_unfolding_all exact Eq.trans rfl rfl | omega) only [go_sem, seval]
    repeat' ((first | refine st_ rfl ?_ | refine hold_ ?_ | refine cond_ (fun h => ?_) (fun h => ?_) | (refine hKD _ _ ⟨rfl, ?_⟩; clear hKD KD)) <;> try simp -implicitDefEqProofs (disch := first | with_unfolding_all exact Eq.trans rfl rfl | omega) only [go_sem, seval])
    exact ⟨.inl trivial, fun b => 300 + 100 * b, rfl, ⟨rfl, rfl⟩, by simp⟩
  exact (h.frz ⟨trivial, trivial, iS, trivial⟩).frz ⟨iN, trivial⟩
def enL (p : Note × Nat) : List AV := [.val (.int .i64 (p.2 : Nat)), noteA p.1]
def ents (l : Log) (a : Nat) : List (Note × Nat) := if logFormed l = true then allL l.notes a else []
theorem lall_iter (l : Log) (n : Int) (iS : I64 l.sure) : AIter Tryz.prog TzTab 148 [logP l, .ip [.val (.int .i64 n)]] enL (fun ys => ys = ents l n.toNat) (fun pre => pre <+: ents l n.toNat) := by
  obtain ⟨a, ha⟩ : ∃ a, n.toNat = a := ⟨_, rfl⟩
  rw [ha]
  refine AIter.of (n := 27) Tryz.func148 rfl (by kernel_rfl) Tryz.ntmps148 (by kernel_rfl) (by simp) (fun _ _ => TzTab.later) ?_
  intro hok Y
  have hlen : l.notes.length ≤ 1073741824 := by simpa using hok.1.2.1.1
  simp -implicitDefEqProofs (disch := first | with_unfolding_all exact Eq.trans rfl rfl | omega) only [go_sem, seval]
  try simp -implicitDefEqProofs (disch := first | with_unfolding_all exact Eq.trans rfl rfl | omega) only [go_sem, seval]
  repeat' ((first | refine stY_ rfl ?_ | refine hold_ ?_ | refine cond_ (fun h => ?_) (fun h => ?_)) <;> try simp -implicitDefEqProofs (disch := first | with_unfolding_all exact Eq.trans rfl rfl | omega) only [go_sem, seval])
  refine call_ (lformed_call l iS) rfl ?_
  cases hb : logFormed l
  · have he : ents l a = [] := by unfold ents; rw [hb]; rfl
    try simp -implicitDefEqProofs (disch := first | with_unfolding_all exact Eq.trans rfl rfl | omega) only [go_sem, seval]
    repeat' ((first | refine stY_ rfl ?_ | refine hold_ ?_ | refine cond_ (fun h => ?_) (fun h => ?_)) <;> try simp -implicitDefEqProofs (disch := first | with_unfolding_all exact Eq.trans rfl rfl | omega) only [go_sem, seval])
    exact ⟨.inl trivial, he.symm⟩
  have he : ents l a = allL l.notes a := by unfold ents; rw [if_pos hb]
  try simp -implicitDefEqProofs (disch := first | with_unfolding_all exact Eq.trans rfl rfl | omega) only [go_sem, seval]
  repeat' ((first | refine stY_ rfl ?_ | refine hold_ ?_ | refine cond_ (fun h => ?_) (fun h => ?_)) <;> try simp -implicitDefEqProofs (disch := first | with_unfolding_all exact Eq.trans rfl rfl | omega) only [go_sem, seval])
  refine ⟨(a : Int), by omega, ?_⟩
  try simp -implicitDefEqProofs (disch := first | with_unfolding_all exact Eq.trans rfl rfl | omega) only [go_sem, seval]
  repeat' ((first | refine stY_ rfl ?_ | refine hold_ ?_ | refine cond_ (fun h => ?_) (fun h => ?_)) <;> try simp -implicitDefEqProofs (disch := first | with_unfolding_all exact Eq.trans rfl rfl | omega) only [go_sem, seval])
  refine AWY.loop (fun i : {i : Nat // a ≤ i ∧ (i ≤ l.notes.length ∨ i = a)} => (.going (preL l.notes a i.1), ⟨[(0, .val (.func (.yield Y.l) #[] #[])), (1, logP l), (4, .val (.int .i64 (i.1 : Nat)))], []⟩)) (fun i => l.notes.length - i.1) ⟨a, Nat.le_refl _, .inr rfl⟩ id ⟨by rw [preL_self], ⟨rfl, rfl, rfl, trivial⟩, trivial, List.nodup_nil⟩ fun ⟨i, hi, hi2⟩ => ?_
  try simp -implicitDefEqProofs (disch := first | with_unfolding_all exact Eq.trans rfl rfl | omega) only [go_sem, seval]
  repeat' ((first | refine stY_ rfl ?_ | refine hold_ ?_ | refine cond_ (fun h => ?_) (fun h => ?_)) <;> try simp -implicitDefEqProofs (disch := first | with_unfolding_all exact Eq.trans rfl rfl | omega) only [go_sem, seval])
  · have hlt : i < l.notes.length := by simpa using h
    refine ⟨by omega, _, get_map (List.getElem?_eq_getElem hlt), ?_⟩
    try simp -implicitDefEqProofs (disch := first | with_unfolding_all exact Eq.trans rfl rfl | omega) only [go_sem, seval]
    repeat' ((first | refine stY_ rfl ?_ | refine hold_ ?_ | refine cond_ (fun h => ?_) (fun h => ?_)) <;> try simp -implicitDefEqProofs (disch := first | with_unfolding_all exact Eq.trans rfl rfl | omega) only [go_sem, seval])
    refine call_ (own_note l.notes[i]) rfl ?_
    try simp -implicitDefEqProofs (disch := first | with_unfolding_all exact Eq.trans rfl rfl | omega) only [go_sem, seval]
    repeat' ((first | refine stY_ rfl ?_ | refine hold_ ?_ | refine cond_ (fun h => ?_) (fun h => ?_)) <;> try simp -implicitDefEqProofs (disch := first | with_unfolding_all exact Eq.trans rfl rfl | omega) only [go_sem, seval])
    have hs := preL_succ hi hlt
    refine vopsY_y (x := (l.notes[i], i)) ?_ ?_ ?_ ?_
    · rfl
    · exact Sbs.rfl_ _
    · rw [he, ← hs]; exact preL_prefix _ _ _
    simp only [go_sem]
    rw [← hs]
    refine ⟨?_, ?_⟩
    · try simp -implicitDefEqProofs (disch := first | with_unfolding_all exact Eq.trans rfl rfl | omega) only [go_sem, seval]
      repeat' ((first | refine stY_ rfl ?_ | refine hold_ ?_ | refine cond_ (fun h => ?_) (fun h => ?_)) <;> try simp -implicitDefEqProofs (disch := first | with_unfolding_all exact Eq.trans rfl rfl | omega) only [go_sem, seval])
      refine ⟨⟨i + 1, by omega, .inl hlt⟩, id, rfl, ⟨⟨rfl, rfl, rfl, trivial⟩, trivial, List.nodup_nil⟩, by show l.notes.length - (i + 1) < l.notes.length - i; omega⟩
    · try simp -implicitDefEqProofs (disch := first | with_unfolding_all exact Eq.trans rfl rfl | omega) only [go_sem, seval]
      repeat' ((first | refine stY_ rfl ?_ | refine hold_ ?_ | refine cond_ (fun h => ?_) (fun h => ?_)) <;> try simp -implicitDefEqProofs (disch := first | with_unfolding_all exact Eq.trans rfl rfl | omega) only [go_sem, seval])
      exact .inl trivial
  · have hle : l.notes.length ≤ i := by simpa using h
    exact ⟨.inr trivial, by rw [he, preL_all hle]⟩
end Go.Proofs.YtdbeoigbkkdpdaaGreatDoor
/- A formed note, as one sees it who has an interest (the program's). -/
namespace Go.Proofs.YtdbeoigbkkdpdaaGreatDoor
open Go.ChangeShapes Go.WideShapes Go.ChangeAt Go.RowKit
attribute [local irreducible] AW AWY vops vopsY vop vopL vdraw callW qop binQ lenQ storeQ appendQ callQ ACalls AIter
attribute [local go_sem] wrI_eq enW_eq noteA_eq storeQ_bp storeQ_rp

theorem sof_D (os : List Int) : ACalls Tryz.prog TzTab 150 [.iv (inI os)] (.iv (spI (tidyS (dots os)))) [] := (sof_call os).frz trivial
def enI (n : Int) : List IV := [.val (.int .i64 n)]
set_option maxHeartbeats 1600000 in
set_option maxRecDepth 100000 in
theorem through_call (x : Note) (it : List Span) (hF : noteFormed x = true) : ACalls Tryz.prog TzTab 87 [noteA x, .iv (spI it)] (.tup [noteA (throughN x it), .val (.int .i64 0)]) [] := by
  refine ACalls.of (n := 49) (rs := [.cell 4 79, .tmp 5]) Tryz.func87 rfl (by kernel_rfl) Tryz.ntmps87 (by kernel_rfl) (by simp) (fun _ _ => TzTab.later) ?_
  intro hok V w0
  have hlen : x.writes.length ≤ 1073741824 := by simpa using hok.1.2.2.2.1.1
  simp -implicitDefEqProofs (disch := first | with_unfolding_all exact Eq.trans rfl rfl | omega) only [go_sem, seval]
  refine AW.seq ?_
  refine AW.reg rfl fun KK hKK => ?_
  try simp -implicitDefEqProofs (disch := first | with_unfolding_all exact Eq.trans rfl rfl | omega) only [go_sem, seval]
  repeat' ((first | refine hold_ ?_ | (refine hKK _ ?_; clear hKK KK)) <;> try simp -implicitDefEqProofs (disch := first | with_unfolding_all exact Eq.trans rfl rfl | omega) only [go_sem, seval])
  refine AW.freeze 300 _ rfl ⟨trivial, trivial, trivial, trivial, trivial⟩ ?_
  simp only [go_sem, reduceIte]
  try simp -implicitDefEqProofs (disch := first | with_unfolding_all exact Eq.trans rfl rfl | omega) only [go_sem, seval]
  repeat' ((first | refine st_ rfl ?_ | refine hold_ ?_ | refine cond_ (fun h => ?_) (fun h => ?_) | (refine hKD _ _ ⟨rfl, ?_⟩; clear hKD KD)) <;> try simp -implicitDefEqProofs (disch := first | with_unfolding_all exact Eq.trans rfl rfl | omega) only [go_sem, seval])
  refine call_ (nformed_call x) rfl ?_
  rw [hF]
  try simp -implicitDefEqProofs (disch := first | with_unfolding_all exact Eq.trans rfl rfl | omega) only [go_sem, seval]
  repeat' ((first | refine st_ rfl ?_ | refine hold_ ?_ | refine cond_ (fun h => ?_) (fun h => ?_) | (refine hKD _ _ ⟨rfl, ?_⟩; clear hKD KD)) <;> try simp -implicitDefEqProofs (disch := first | with_unfolding_all exact Eq.trans rfl rfl | omega) only [go_sem, seval])
  refine AW.adopt 6 700 77 4 rfl rfl ?_
  refine AW.adopt 7 800 3 1 rfl rfl ?_
  refine AW.loop (fun m : {m : Nat // m ≤ x.writes.length} => ⟨[(1, .iv (spI it)), (2, .ip [stI x.start, stI x.end_, spI x.blur, wrI x.writes]), (4, .bp 500 0), (6, .own 700), (7, .own 800), (15, .iv (wrI x.writes)), (16, .val (.int .i64 (x.writes.length : Nat))), (17, .val (.int .i64 (m.1 : Nat)))],
    [.row 700 77 4 ((seenW it (x.writes.take m.1)).map enW), .row 800 3 1 ((unseenW it (x.writes.take m.1)).map enI), .box 500 [.val (.slice none 0 0), .val (.slice none 0 0), .val (.slice none 0 0), .val (.slice none 0 0)]]⟩) (fun m => x.writes.length - m.1) ⟨0, Nat.zero_le _⟩ id ⟨⟨rfl, rfl, rfl, rfl, rfl, rfl, rfl, rfl, trivial⟩, ⟨rfl, rfl, rfl, trivial⟩, by simp [idsOf, BA.id]⟩ fun ⟨m, hm⟩ => ?_
  try simp -implicitDefEqProofs (disch := first | with_unfolding_all exact Eq.trans rfl rfl | omega) only [go_sem, seval]
  repeat' ((first | refine st_ rfl ?_ | refine hold_ ?_ | refine cond_ (fun h => ?_) (fun h => ?_) | (refine hKD _ _ ⟨rfl, ?_⟩; clear hKD KD)) <;> try simp -implicitDefEqProofs (disch := first | with_unfolding_all exact Eq.trans rfl rfl | omega) only [go_sem, seval])
  · have hlt : m < x.writes.length := by simpa using h
    refine ⟨by omega, _, get_map (List.getElem?_eq_getElem hlt), ?_⟩
    try simp -implicitDefEqProofs (disch := first | with_unfolding_all exact Eq.trans rfl rfl | omega) only [go_sem, seval]
    repeat' ((first | refine st_ rfl ?_ | refine hold_ ?_ | refine cond_ (fun h => ?_) (fun h => ?_) | (refine hKD _ _ ⟨rfl, ?_⟩; clear hKD KD)) <;> try simp -implicitDefEqProofs (disch := first | with_unfolding_all exact Eq.trans rfl rfl | omega) only [go_sem, seval])
    obtain ⟨-, o1, o2, o3, o4, -⟩ := okR_mem hok.1.2.2.2.1.2 (enW x.writes[m]) (List.mem_map_of_mem (List.getElem_mem hlt))
    refine call_ (shas_call it x.writes[m].object) rfl ?_
    have hs1 := seenW_snoc it (x.writes.take m) x.writes[m]
    have hs2 := unseenW_snoc it (x.writes.take m) x.writes[m]
    rw [← List.take_succ_eq_append_getElem hlt] at hs1 hs2
    cases hh : spanHas it x.writes[m].object
    · rw [hh] at hs1 hs2
      try simp -implicitDefEqProofs (disch := first | with_unfolding_all exact Eq.trans rfl rfl | omega) only [go_sem, seval]
      repeat' ((first | refine st_ rfl ?_ | refine hold_ ?_ | refine cond_ (fun h => ?_) (fun h => ?_) | (refine hKD _ _ ⟨rfl, ?_⟩; clear hKD KD)) <;> try simp -implicitDefEqProofs (disch := first | with_unfolding_all exact Eq.trans rfl rfl | omega) only [go_sem, seval])
      refine bs1 (by omega) rfl rfl rfl ⟨o3, trivial⟩ ?_
      try simp -implicitDefEqProofs (disch := first | with_unfolding_all exact Eq.trans rfl rfl | omega) only [go_sem, seval]
      repeat' ((first | refine st_ rfl ?_ | refine hold_ ?_ | refine cond_ (fun h => ?_) (fun h => ?_) | (refine hKD _ _ ⟨rfl, ?_⟩; clear hKD KD)) <;> try simp -implicitDefEqProofs (disch := first | with_unfolding_all exact Eq.trans rfl rfl | omega) only [go_sem, seval])
      have hl2 := unseenW_len it (x.writes.take m)
      rw [List.length_take] at hl2
      refine append_own rfl (by kernel_rfl) (by omega) (by kernel_rfl) rfl (by simp; omega) ?_
      try simp -implicitDefEqProofs (disch := first | with_unfolding_all exact Eq.trans rfl rfl | omega) only [go_sem, seval]
      repeat' ((first | refine st_ rfl ?_ | refine hold_ ?_ | refine cond_ (fun h => ?_) (fun h => ?_) | (refine hKD _ _ ⟨rfl, ?_⟩; clear hKD KD)) <;> try simp -implicitDefEqProofs (disch := first | with_unfolding_all exact Eq.trans rfl rfl | omega) only [go_sem, seval])
      refine ⟨⟨m + 1, hlt⟩, fun b => if b = 800 then 3400 else b, ⟨⟨rfl, rfl, rfl, rfl, rfl, rfl, rfl, rfl, trivial⟩, ⟨?_, ?_, rfl, trivial⟩, by simp [idsOf, BA.id]⟩, by show x.writes.length - (m + 1) < x.writes.length - m; omega⟩
      · rw [hs1]; rfl
      · rw [hs2, if_neg (by decide), List.map_append]; rfl
    · rw [hh] at hs1 hs2
      try simp -implicitDefEqProofs (disch := first | with_unfolding_all exact Eq.trans rfl rfl | omega) only [go_sem, seval]
      repeat' ((first | refine st_ rfl ?_ | refine hold_ ?_ | refine cond_ (fun h => ?_) (fun h => ?_) | (refine hKD _ _ ⟨rfl, ?_⟩; clear hKD KD)) <;> try simp -implicitDefEqProofs (disch := first | with_unfolding_all exact Eq.trans rfl rfl | omega) only [go_sem, seval])
      refine bs1 (by omega) rfl rfl rfl ⟨o1, o2, o3, o4, trivial⟩ ?_
      try simp -implicitDefEqProofs (disch := first | with_unfolding_all exact Eq.trans rfl rfl | omega) only [go_sem, seval]
      repeat' ((first | refine st_ rfl ?_ | refine hold_ ?_ | refine cond_ (fun h => ?_) (fun h => ?_) | (refine hKD _ _ ⟨rfl, ?_⟩; clear hKD KD)) <;> try simp -implicitDefEqProofs (disch := first | with_unfolding_all exact Eq.trans rfl rfl | omega) only [go_sem, seval])
      have hl2 := seenW_len it (x.writes.take m)
      rw [List.length_take] at hl2
      refine append_own rfl (by kernel_rfl) (by omega) (by kernel_rfl) rfl (by simp; omega) ?_
      try simp -implicitDefEqProofs (disch := first | with_unfolding_all exact Eq.trans rfl rfl | omega) only [go_sem, seval]
      repeat' ((first | refine st_ rfl ?_ | refine hold_ ?_ | refine cond_ (fun h => ?_) (fun h => ?_) | (refine hKD _ _ ⟨rfl, ?_⟩; clear hKD KD)) <;> try simp -implicitDefEqProofs (disch := first | with_unfolding_all exact Eq.trans rfl rfl | omega) only [go_sem, seval])
      refine ⟨⟨m + 1, hlt⟩, fun b => if b = 700 then 2900 else b, ⟨⟨rfl, rfl, rfl, rfl, rfl, rfl, rfl, rfl, trivial⟩, ⟨?_, ?_, rfl, trivial⟩, by simp [idsOf, BA.id]⟩, by show x.writes.length - (m + 1) < x.writes.length - m; omega⟩
      · rw [hs1, if_pos rfl, List.map_append]; rfl
      · rw [hs2]; rfl
  · obtain rfl : m = x.writes.length := by simp at h; omega
    rw [List.take_length]
    refine AW.freeze 700 _ rfl trivial ?_
    simp only [go_sem, reduceIte]
    refine AW.freeze 800 _ rfl trivial ?_
    simp only [go_sem, reduceIte]
    refine AW.drawn (ds := [35, 36, 37, 38, 39, 40, 41, 42, 43, 44, 45, 46, 47, 48, 5]) (fin := [1, 2, 3]) (bs := [1, 1, 1, 1, 1, 1, 1, 1, 1, 1, 1, 2, 3, 3, 3, 4]) [⟨[], [], [], [], 0⟩, ⟨[(35, 0)], [], [0], [], 0⟩, ⟨[(36, 1)], [], [0], [], 0⟩, ⟨[], [], [], [], 0⟩, ⟨[(38, 3)], [], [0], [], 0⟩, ⟨[(39, 4)], [], [0], [], 0⟩, ⟨[], [], [], [], 0⟩, ⟨[(41, 6)], [], [0], [], 0⟩, ⟨[], [], [], [], 0⟩, ⟨[(43, 8)], [], [0], [], 0⟩, ⟨[(42, 7), (44, 9)], [], [], [], 1⟩, ⟨[(45, 10)], [], [0, 1], [], 1⟩, ⟨[], [], [], [], 0⟩, ⟨[(37, 2), (40, 5), (46, 11), (47, 12)], [], [], [], 0⟩, ⟨[(48, 13)], [], [], [0], 1⟩, ⟨[], [], [], [], 0⟩] (by kernel_rfl) rfl (by kernel_rfl) rfl rfl rfl fun KD hKD => ?_
    try simp -implicitDefEqProofs (disch := first | with_unfolding_all exact Eq.trans rfl rfl | omega) only [go_sem, seval]
    repeat' ((first | refine st_ rfl ?_ | refine hold_ ?_ | refine cond_ (fun h => ?_) (fun h => ?_) | (refine hKD _ _ ⟨rfl, ?_⟩; clear hKD KD)) <;> try simp -implicitDefEqProofs (disch := first | with_unfolding_all exact Eq.trans rfl rfl | omega) only [go_sem, seval])
    refine call_ (clonestD x.start) rfl ?_
    try simp -implicitDefEqProofs (disch := first | with_unfolding_all exact Eq.trans rfl rfl | omega) only [go_sem, seval]
    repeat' ((first | refine st_ rfl ?_ | refine hold_ ?_ | refine cond_ (fun h => ?_) (fun h => ?_) | (refine hKD _ _ ⟨rfl, ?_⟩; clear hKD KD)) <;> try simp -implicitDefEqProofs (disch := first | with_unfolding_all exact Eq.trans rfl rfl | omega) only [go_sem, seval])
    refine call_ (clonestD x.end_) rfl ?_
    try simp -implicitDefEqProofs (disch := first | with_unfolding_all exact Eq.trans rfl rfl | omega) only [go_sem, seval]
    repeat' ((first | refine st_ rfl ?_ | refine hold_ ?_ | refine cond_ (fun h => ?_) (fun h => ?_) | (refine hKD _ _ ⟨rfl, ?_⟩; clear hKD KD)) <;> try simp -implicitDefEqProofs (disch := first | with_unfolding_all exact Eq.trans rfl rfl | omega) only [go_sem, seval])
    refine call_ (sof_D (unseenW it x.writes)) rfl ?_
    try simp -implicitDefEqProofs (disch := first | with_unfolding_all exact Eq.trans rfl rfl | omega) only [go_sem, seval]
    repeat' ((first | refine st_ rfl ?_ | refine hold_ ?_ | refine cond_ (fun h => ?_) (fun h => ?_) | (refine hKD _ _ ⟨rfl, ?_⟩; clear hKD KD)) <;> try simp -implicitDefEqProofs (disch := first | with_unfolding_all exact Eq.trans rfl rfl | omega) only [go_sem, seval])
    refine bs2 (by omega) rfl rfl rfl ⟨trivial, trivial⟩ rfl rfl rfl ⟨trivial, trivial⟩ ?_
    try simp -implicitDefEqProofs (disch := first | with_unfolding_all exact Eq.trans rfl rfl | omega) only [go_sem, seval]
    repeat' ((first | refine st_ rfl ?_ | refine hold_ ?_ | refine cond_ (fun h => ?_) (fun h => ?_) | (refine hKD _ _ ⟨rfl, ?_⟩; clear hKD KD)) <;> try simp -implicitDefEqProofs (disch := first | with_unfolding_all exact Eq.trans rfl rfl | omega) only [go_sem, seval])
    refine call_l (sjoin_call [x.blur, tidyS (dots (unseenW it x.writes))] ?_) ?_ rfl (flat_row (flat_sp _)) (by exact Sbs.rfl_ _) rfl ?_
    · have h1 := ((spanFormed_iff _).1 (noteFormed_iff.1 hF).2.2.2.1).1
      have h2 : (tidyS (dots (unseenW it x.writes))).length ≤ 128 := ofSet_len _
      simp [sumSpan]; omega
    · simp [okBk, okAs, okA, okV]
    try simp -implicitDefEqProofs (disch := first | with_unfolding_all exact Eq.trans rfl rfl | omega) only [go_sem, seval]
    repeat' ((first | refine hold_ ?_ | (refine hKD _ _ ⟨rfl, ?_⟩; clear hKD KD)) <;> try simp -implicitDefEqProofs (disch := first | with_unfolding_all exact Eq.trans rfl rfl | omega) only [go_sem, seval])
    refine AW.freeze 4700 _ rfl trivial ?_
    simp only [go_sem, reduceIte, Nat.reduceEqDiff]
    try simp -implicitDefEqProofs (disch := first | with_unfolding_all exact Eq.trans rfl rfl | omega) only [go_sem, seval]
    repeat' ((first | refine st_ rfl ?_ | refine hold_ ?_ | refine cond_ (fun h => ?_) (fun h => ?_) | (refine hKD _ _ ⟨rfl, ?_⟩; clear hKD KD)) <;> try simp -implicitDefEqProofs (disch := first | with_unfolding_all exact Eq.trans rfl rfl | omega) only [go_sem, seval])
    rw [show [x.blur, tidyS (dots (unseenW it x.writes))].flatten = x.blur ++ tidyS (dots (unseenW it x.writes)) by simp]
    exact ⟨.inl trivial, id, rfl, List.nodup_nil⟩
end Go.Proofs.YtdbeoigbkkdpdaaGreatDoor
/- The sure notes of a log from a place on, as they are seen: told one by one. -/
namespace Go.Proofs.YtdbeoigbkkdpdaaGreatDoor
open Go.ChangeShapes Go.WideShapes Go.ChangeAt Go.RowKit
attribute [local irreducible] AW AWY vops vopsY vop vopL vdraw callW qop binQ lenQ storeQ appendQ callQ ACalls AIter
attribute [local go_sem] noI_eq enN_eq logA_eq noteA_eq storeQ_bp storeQ_rp logP_eq

theorem seen_call (l : Log) (a : Int) (it : List Span) (iS : I64 l.sure) (iA : I64 a) : ACalls Tryz.prog TzTab 43 [logA l, .val (.int .i64 a), .iv (spI it)] (.fn 85 [logP l, .ip [.val (.int .i64 a)], .ip [spI it]]) [] := by
  have h : ACalls Tryz.prog TzTab 43 [logA l, .val (.int .i64 a), .iv (spI it)] (.fn 85 [.bp 0 0, .bp 1 0, .bp 2 0]) [.box 0 [.iv (stI l.base), .iv (noI l.notes), .val (.int .i64 l.sure)], .box 1 [.val (.int .i64 a)], .box 2 [.iv (spI it)]] := by
    refine ACalls.of (n := 8) (rs := [.tmp 6]) Tryz.func43 rfl (by kernel_rfl) Tryz.ntmps43 (by kernel_rfl) (by simp) (fun _ _ => TzTab.later) ?_
    intro hok V w0
    simp -implicitDefEqProofs (disch := first | with_unfolding_all exact Eq.trans rfl rfl | omega) only [go_sem, seval]
    try simp -implicitDefEqProofs (disch := first | with_unfolding_all exact Eq.trans rfl rfl | omega) only [go_sem, seval]
    repeat' ((first | refine st_ rfl ?_ | refine hold_ ?_ | refine cond_ (fun h => ?_) (fun h => ?_) | (refine hKD _ _ ⟨rfl, ?_⟩; clear hKD KD)) <;> try simp -implicitDefEqProofs (disch := first | with_unfolding_all exact Eq.trans rfl rfl | omega) only [go_sem, seval])
    exact ⟨.inl trivial, fun b => 400 + 100 * b, rfl, ⟨rfl, rfl, rfl⟩, by simp⟩
  exact ((h.frz ⟨trivial, trivial, iS, trivial⟩).frz ⟨iA, trivial⟩).frz ⟨trivial, trivial⟩
theorem TzTab.calm : Calm TzTab := fun w r o' h ⟨o, ho, hc⟩ =>
  fun j hj => cell_kept (h j hj) (grownBy_putObj' w r o') fun r' e => by cases e; exact ⟨o, ho, hc⟩
def thr (it : List Span) (p : Note × Nat) : Note × Nat := (throughN p.1 it, p.2)
def toldE (l : Log) (a : Nat) (it : List Span) : List (Note × Nat) := allL (toldX l it) a
theorem toldE_pre (l : Log) (a : Nat) (it : List Span) : toldE l a it = (preL l.notes a l.sure.toNat).map (thr it) := by
  unfold toldE toldX allL preL
  rw [← List.map_drop, List.zipIdx_map]
  rfl
set_option maxHeartbeats 1600000 in
set_option maxRecDepth 100000 in
theorem seen_iter (l : Log) (a : Nat) (it : List Span) (iS : I64 l.sure) (iA : I64 a) (hF : logFormed l = true) : AIter Tryz.prog TzTab 85 [logP l, .ip [.val (.int .i64 (a : Nat))], .ip [spI it]] enL (fun ys => ys = toldE l a it) (fun pre => pre <+: toldE l a it) := by
  refine AIter.ofR (n := 29) Tryz.func85 rfl (by kernel_rfl) Tryz.ntmps85 (by kernel_rfl) (by simp) (fun _ _ => TzTab.later) ?_
  intro hok Y hro
  have he : ents l a = allL l.notes a := by unfold ents; rw [if_pos hF]
  simp -implicitDefEqProofs (disch := first | with_unfolding_all exact Eq.trans rfl rfl | omega) only [go_sem, seval]
  try simp -implicitDefEqProofs (disch := first | with_unfolding_all exact Eq.trans rfl rfl | omega) only [go_sem, seval]
  repeat' ((first | refine stY_ rfl ?_ | refine hold_ ?_ | refine cond_ (fun h => ?_) (fun h => ?_)) <;> try simp -implicitDefEqProofs (disch := first | with_unfolding_all exact Eq.trans rfl rfl | omega) only [go_sem, seval])
  refine call_ (lall_call l a iS iA) rfl ?_
  try simp -implicitDefEqProofs (disch := first | with_unfolding_all exact Eq.trans rfl rfl | omega) only [go_sem, seval]
  repeat' ((first | refine stY_ rfl ?_ | refine hold_ ?_ | refine cond_ (fun h => ?_) (fun h => ?_)) <;> try simp -implicitDefEqProofs (disch := first | with_unfolding_all exact Eq.trans rfl rfl | omega) only [go_sem, seval])
  refine AWY.freeze 500 _ rfl ⟨trivial, trivial⟩ ?_
  simp only [go_sem, reduceIte, Nat.reduceEqDiff]
  refine AWY.le (S := ⟨[(1, logP l), (2, .ip [.val (.int .i64 (a : Nat))]), (3, .ip [spI it]), (4, .ip [.val (.func (.yield Y.l) #[] #[])]), (11, .fn 148 [logP l, .ip [.val (.int .i64 (a : Nat))]])], []⟩) (ρ := id) ⟨⟨rfl, rfl, rfl, rfl, rfl, trivial⟩, trivial, List.nodup_nil⟩ ?_
  refine AWY.range (lall_iter l a iS) TzTab.calm (fun pre q => q = pre.map (thr it) ∧ (pre = [] ∨ a + pre.length ≤ l.sure)) ⟨rfl, .inl rfl⟩ hro rfl rfl rfl (fun x => ⟨rfl, rfl⟩) (fun Y1 hY1 pre x q hsp hI => ?_) (fun xs q hS hI => ?_)
  · obtain ⟨hp1, hp2, hp3⟩ := pre_next (he ▸ hsp)
    obtain ⟨n, i⟩ := x
    simp only at hp2 hp3
    obtain ⟨hlt, hn⟩ := List.getElem?_eq_some_iff.1 hp3
    have hfn : noteFormed n = true := logFormed_mem hF n (hn ▸ List.getElem_mem hlt)
    obtain ⟨hq, hI⟩ := hI
    refine AWY.frzEnd 700 ?_
    simp only [parF, enL, List.cons_append, List.nil_append]
    simp -implicitDefEqProofs (disch := first | with_unfolding_all exact Eq.trans rfl rfl | omega) only [go_sem, seval]
    try simp -implicitDefEqProofs (disch := first | with_unfolding_all exact Eq.trans rfl rfl | omega) only [go_sem, seval]
    repeat' ((first | refine stY_ rfl ?_ | refine hold_ ?_ | refine cond_ (fun h => ?_) (fun h => ?_)) <;> try simp -implicitDefEqProofs (disch := first | with_unfolding_all exact Eq.trans rfl rfl | omega) only [go_sem, seval])
    refine ⟨rfl, _, rfl, ⟨trivial, trivial, trivial, trivial, trivial⟩, ?_⟩
    simp only [go_sem, reduceIte, Nat.reduceEqDiff]
    intro Y2 hY2
    try simp -implicitDefEqProofs (disch := first | with_unfolding_all exact Eq.trans rfl rfl | omega) only [go_sem, seval]
    repeat' ((first | refine stY_ rfl ?_ | refine hold_ ?_ | refine cond_ (fun h => ?_) (fun h => ?_)) <;> try simp -implicitDefEqProofs (disch := first | with_unfolding_all exact Eq.trans rfl rfl | omega) only [go_sem, seval])
    · have hge : l.sure ≤ (i : Int) := by simpa using h
      show (Exit.ret = Exit.ret ∨ _) ∧ q = toldE l a it
      refine ⟨.inl rfl, ?_⟩
      rw [hq, toldE_pre]
      congr 1
      rcases hI with rfl | hI
      · simp only [List.length_nil, Nat.add_zero] at hp2
        unfold preL
        rw [List.drop_of_length_le (by rw [List.length_take]; omega)]
        rfl
      · rw [hp1]
        congr 1
        omega
    · have hls : (i : Int) < l.sure := by simpa using h
      refine call_ (through_call n it hfn) rfl ?_
      try simp -implicitDefEqProofs (disch := first | with_unfolding_all exact Eq.trans rfl rfl | omega) only [go_sem, seval]
      repeat' ((first | refine stY_ rfl ?_ | refine hold_ ?_ | refine cond_ (fun h => ?_) (fun h => ?_)) <;> try simp -implicitDefEqProofs (disch := first | with_unfolding_all exact Eq.trans rfl rfl | omega) only [go_sem, seval])
      have hnx : (pre ++ [(n, i)]).map (thr it) = q ++ [(throughN n it, i)] := by rw [List.map_append, ← hq]; rfl
      have hpx : pre ++ [(n, i)] = preL l.notes a (a + pre.length + 1) := by rw [preL_succ (by omega) hlt, hn, ← hp1, hp2]
      refine vopsY_y (x := (throughN n it, i)) ?_ ?_ ?_ ?_
      · rw [hY2]; rfl
      · exact Sbs.rfl_ _
      · rw [← hnx, toldE_pre, hpx]
        have : preL l.notes a (a + pre.length + 1) <+: preL l.notes a l.sure.toNat := by
          have h1 : l.notes.take (a + pre.length + 1) <+: l.notes.take l.sure.toNat := List.take_prefix_take_left (by omega)
          obtain ⟨t, ht⟩ := h1
          unfold preL
          rw [← ht, List.drop_append]
          exact zipIdx_pre (List.prefix_append _ _) a
        obtain ⟨t, ht⟩ := this
        exact ⟨t.map (thr it), by rw [← ht, List.map_append]⟩
      simp only [go_sem]
      refine ⟨by simp [okAs, okA], ?_, ?_⟩
      · try simp -implicitDefEqProofs (disch := first | with_unfolding_all exact Eq.trans rfl rfl | omega) only [go_sem, seval]
        repeat' ((first | refine stY_ rfl ?_ | refine hold_ ?_ | refine cond_ (fun h => ?_) (fun h => ?_)) <;> try simp -implicitDefEqProofs (disch := first | with_unfolding_all exact Eq.trans rfl rfl | omega) only [go_sem, seval])
        exact ⟨hnx.symm, .inr (by rw [List.length_append, List.length_singleton]; omega)⟩
      · try simp -implicitDefEqProofs (disch := first | with_unfolding_all exact Eq.trans rfl rfl | omega) only [go_sem, seval]
        repeat' ((first | refine stY_ rfl ?_ | refine hold_ ?_ | refine cond_ (fun h => ?_) (fun h => ?_)) <;> try simp -implicitDefEqProofs (disch := first | with_unfolding_all exact Eq.trans rfl rfl | omega) only [go_sem, seval])
        exact ⟨.inl rfl, trivial⟩
  · simp only [go_sem, reduceIte]
    refine ⟨.inr trivial, ?_⟩
    have hS : xs = allL l.notes a := hS.trans he
    rw [hI.1, toldE_pre]
    congr 1
    rcases hI.2 with h | h
    · have := preL_prefix l.notes a l.sure.toNat
      rw [← hS, h, List.prefix_nil] at this
      rw [h, this]
    · have hl : xs.length = l.notes.length - a := by rw [hS]; simp [allL]
      rw [hS, ← preL_all (i := max a l.notes.length) (by omega)]
      by_cases ha : a ≤ l.notes.length
      · rw [preL_all (by omega), preL_all (by omega)]
      · rw [preL_all (by omega)]
        have h0 : xs = [] := List.length_eq_zero_iff.1 (by omega)
        have := preL_prefix l.notes a l.sure.toNat
        rw [← hS, h0, List.prefix_nil] at this
        rw [← hS, h0, this]
end Go.Proofs.YtdbeoigbkkdpdaaGreatDoor
/- Whether a dull note goes on with another one (the program's). -/
namespace Go.Proofs.YtdbeoigbkkdpdaaGreatDoor
open Go.ChangeShapes Go.WideShapes Go.ChangeAt Go.RowKit
attribute [local irreducible] AW AWY vops vopsY vop vopL vdraw callW qop binQ lenQ storeQ appendQ callQ ACalls AIter
attribute [local go_sem] wrI_eq noteA_eq storeQ_bp storeQ_rp

theorem smeet_D (l m : List Span) : ACalls Tryz.prog TzTab 90 [.iv (spI l), .iv (spI m)] (.iv (spI (meetS2 l m))) [] := (smeet_call l m).frz trivial
set_option maxHeartbeats 800000 in
set_option maxRecDepth 100000 in
theorem goes_call (a b : Note) (it : List Span) : ACalls Tryz.prog TzTab 44 [noteA a, noteA b, .iv (spI it)] (.val (.bool (goesS it a b))) [] := by
  refine ACalls.of (n := 32) (rs := [.tmp 6]) Tryz.func44 rfl (by kernel_rfl) Tryz.ntmps44 (by kernel_rfl) (by simp) (fun _ _ => TzTab.later) ?_
  intro hok V w0
  have hla : a.writes.length ≤ 1073741824 := by simpa using hok.1.2.2.2.1.1
  have hlb : b.writes.length ≤ 1073741824 := by simpa using hok.2.1.2.2.2.1.1
  obtain ⟨B, hB⟩ : ∃ B, goesS it a b = B := ⟨_, rfl⟩
  rw [hB]
  unfold goesS at hB
  simp -implicitDefEqProofs (disch := first | with_unfolding_all exact Eq.trans rfl rfl | omega) only [go_sem, seval]
  refine AW.seq ?_
  refine AW.reg rfl fun KK hKK => ?_
  try simp -implicitDefEqProofs (disch := first | with_unfolding_all exact Eq.trans rfl rfl | omega) only [go_sem, seval]
  repeat' ((first | refine hold_ ?_ | (refine hKK _ ?_; clear hKK KK)) <;> try simp -implicitDefEqProofs (disch := first | with_unfolding_all exact Eq.trans rfl rfl | omega) only [go_sem, seval])
  refine AW.freeze 400 _ rfl ⟨trivial, trivial, trivial, trivial, trivial⟩ ?_
  simp only [go_sem, reduceIte, Nat.reduceEqDiff]
  refine AW.freeze 500 _ rfl ⟨trivial, trivial, trivial, trivial, trivial⟩ ?_
  simp only [go_sem, reduceIte, Nat.reduceEqDiff]
  try simp -implicitDefEqProofs (disch := first | with_unfolding_all exact Eq.trans rfl rfl | omega) only [go_sem, seval]
  repeat' ((first | refine st_ rfl ?_ | refine hold_ ?_ | refine cond_ (fun h => ?_) (fun h => ?_) | (refine hKD _ _ ⟨rfl, ?_⟩; clear hKD KD)) <;> try simp -implicitDefEqProofs (disch := first | with_unfolding_all exact Eq.trans rfl rfl | omega) only [go_sem, seval])
  by_cases hw : a.writes = [] ∧ b.writes = []
  · have d : decide ((0 : Int) < (a.writes.length : Int) + (b.writes.length : Int)) = false := by rw [hw.1, hw.2]; rfl
    rw [decide_eq_true hw.1, decide_eq_true hw.2, Bool.true_and, Bool.true_and] at hB
    simp only [d]
    try simp -implicitDefEqProofs (disch := first | with_unfolding_all exact Eq.trans rfl rfl | omega) only [go_sem, seval]
    repeat' ((first | refine st_ rfl ?_ | refine hold_ ?_ | refine cond_ (fun h => ?_) (fun h => ?_) | (refine hKD _ _ ⟨rfl, ?_⟩; clear hKD KD)) <;> try simp -implicitDefEqProofs (disch := first | with_unfolding_all exact Eq.trans rfl rfl | omega) only [go_sem, seval])
    refine call_ (eqst_call a.end_ b.start) rfl ?_
    by_cases he : a.end_ = b.start
    · rw [decide_eq_true he, Bool.true_and] at hB
      simp only [decide_eq_true he]
      try simp -implicitDefEqProofs (disch := first | with_unfolding_all exact Eq.trans rfl rfl | omega) only [go_sem, seval]
      repeat' ((first | refine st_ rfl ?_ | refine hold_ ?_ | refine cond_ (fun h => ?_) (fun h => ?_) | (refine hKD _ _ ⟨rfl, ?_⟩; clear hKD KD)) <;> try simp -implicitDefEqProofs (disch := first | with_unfolding_all exact Eq.trans rfl rfl | omega) only [go_sem, seval])
      refine AW.drawn (ds := [23, 24, 25, 26, 27, 28, 29, 30, 31, 6]) (fin := []) (bs := [0, 0, 0, 0, 0, 0, 0, 0, 0, 0]) [⟨[], [], [], [], 0⟩, ⟨[(23, 0)], [], [], [], 0⟩, ⟨[], [], [], [], 0⟩, ⟨[(24, 1), (25, 2)], [], [], [], 0⟩, ⟨[], [], [], [], 0⟩, ⟨[(27, 4)], [], [], [], 0⟩, ⟨[], [], [], [], 0⟩, ⟨[(28, 5), (29, 6)], [], [], [], 0⟩, ⟨[(26, 3), (30, 7)], [], [], [], 0⟩, ⟨[(31, 8)], [], [], [], 0⟩] (by kernel_rfl) rfl (by kernel_rfl) rfl rfl rfl fun KD hKD => ?_
      try simp -implicitDefEqProofs (disch := first | with_unfolding_all exact Eq.trans rfl rfl | omega) only [go_sem, seval]
      repeat' ((first | refine st_ rfl ?_ | refine hold_ ?_ | refine cond_ (fun h => ?_) (fun h => ?_) | (refine hKD _ _ ⟨rfl, ?_⟩; clear hKD KD)) <;> try simp -implicitDefEqProofs (disch := first | with_unfolding_all exact Eq.trans rfl rfl | omega) only [go_sem, seval])
      refine call_ (smeet_D a.blur it) rfl ?_
      try simp -implicitDefEqProofs (disch := first | with_unfolding_all exact Eq.trans rfl rfl | omega) only [go_sem, seval]
      repeat' ((first | refine st_ rfl ?_ | refine hold_ ?_ | refine cond_ (fun h => ?_) (fun h => ?_) | (refine hKD _ _ ⟨rfl, ?_⟩; clear hKD KD)) <;> try simp -implicitDefEqProofs (disch := first | with_unfolding_all exact Eq.trans rfl rfl | omega) only [go_sem, seval])
      refine call_ (smeet_D b.blur it) rfl ?_
      try simp -implicitDefEqProofs (disch := first | with_unfolding_all exact Eq.trans rfl rfl | omega) only [go_sem, seval]
      repeat' ((first | refine st_ rfl ?_ | refine hold_ ?_ | refine cond_ (fun h => ?_) (fun h => ?_) | (refine hKD _ _ ⟨rfl, ?_⟩; clear hKD KD)) <;> try simp -implicitDefEqProofs (disch := first | with_unfolding_all exact Eq.trans rfl rfl | omega) only [go_sem, seval])
      refine call_ (eqsp_call (meetS2 a.blur it) (meetS2 b.blur it)) rfl ?_
      rw [hB]
      try simp -implicitDefEqProofs (disch := first | with_unfolding_all exact Eq.trans rfl rfl | omega) only [go_sem, seval]
      repeat' ((first | refine st_ rfl ?_ | refine hold_ ?_ | refine cond_ (fun h => ?_) (fun h => ?_) | (refine hKD _ _ ⟨rfl, ?_⟩; clear hKD KD)) <;> try simp -implicitDefEqProofs (disch := first | with_unfolding_all exact Eq.trans rfl rfl | omega) only [go_sem, seval])
      exact ⟨.inl trivial, id, List.nodup_nil⟩
    · obtain rfl : B = false := by rw [← hB, decide_eq_false he, Bool.false_and]
      simp only [decide_eq_false he]
      try simp -implicitDefEqProofs (disch := first | with_unfolding_all exact Eq.trans rfl rfl | omega) only [go_sem, seval]
      repeat' ((first | refine st_ rfl ?_ | refine hold_ ?_ | refine cond_ (fun h => ?_) (fun h => ?_) | (refine hKD _ _ ⟨rfl, ?_⟩; clear hKD KD)) <;> try simp -implicitDefEqProofs (disch := first | with_unfolding_all exact Eq.trans rfl rfl | omega) only [go_sem, seval])
      exact ⟨.inl trivial, id, List.nodup_nil⟩
  · have d : decide ((0 : Int) < (a.writes.length : Int) + (b.writes.length : Int)) = true := by
      rw [decide_eq_true_eq]
      by_cases h1 : a.writes = []
      · have h2 : b.writes ≠ [] := fun e => hw ⟨h1, e⟩
        have := List.length_pos_iff.2 h2
        omega
      · have := List.length_pos_iff.2 h1
        omega
    obtain rfl : B = false := by
      rw [← hB]
      by_cases h1 : a.writes = []
      · rw [decide_eq_false fun e => hw ⟨h1, e⟩]; simp
      · rw [decide_eq_false h1]; simp
    simp only [d]
    try simp -implicitDefEqProofs (disch := first | with_unfolding_all exact Eq.trans rfl rfl | omega) only [go_sem, seval]
    repeat' ((first | refine st_ rfl ?_ | refine hold_ ?_ | refine cond_ (fun h => ?_) (fun h => ?_) | (refine hKD _ _ ⟨rfl, ?_⟩; clear hKD KD)) <;> try simp -implicitDefEqProofs (disch := first | with_unfolding_all exact Eq.trans rfl rfl | omega) only [go_sem, seval])
    exact ⟨.inl trivial, id, List.nodup_nil⟩
end Go.Proofs.YtdbeoigbkkdpdaaGreatDoor
/- A batch, note by note: plain laws. No program is known here. -/
namespace Go.Proofs.YtdbeoigbkkdpdaaGreatDoor
variable {it : List Span} {m : Int} {X : List Note} {a : Nat} {pre : List (Note × Nat)}
def outB (it : List Span) (pre : List (Note × Nat)) : List Note := foldB it [] (pre.map (·.1))
/-- where a batch stands -/
structure BatchAt (it : List Span) (m : Int) (X : List Note) (a : Nat) (pre : List (Note × Nat)) : Prop where
  goes : batchFrom it m [] a (X.drop a) = batchFrom it m (outB it pre) (a + pre.length) (X.drop (a + pre.length))
  formed : ∀ n ∈ outB it pre, noteFormed n = true
  len : (outB it pre).length ≤ pre.length
theorem BatchAt.nil : BatchAt it m X a [] := ⟨rfl, fun n hn => by simp [outB, foldB] at hn, Nat.le_refl _⟩
theorem outB_snoc (x : Note × Nat) : outB it (pre ++ [x]) = stepB it (outB it pre) x.1 := by
  unfold outB foldB
  rw [List.map_append, List.foldl_append]
  rfl
theorem BatchAt.here (h : BatchAt it m X a pre) {x : Note × Nat} (hx : X[a + pre.length]? = some x.1) : batchFrom it m [] a (X.drop a) = if stopB it m (outB it pre) x.1 = true then (outB it pre, a + pre.length) else batchFrom it m (stepB it (outB it pre) x.1) (a + pre.length + 1) (X.drop (a + pre.length + 1)) := by
  obtain ⟨hl, e⟩ := List.getElem?_eq_some_iff.1 hx
  rw [h.goes, List.drop_eq_getElem_cons hl, e, batchFrom]
theorem BatchAt.stop (h : BatchAt it m X a pre) {x : Note × Nat} (hx : X[a + pre.length]? = some x.1) (hs : stopB it m (outB it pre) x.1 = true) : batchFrom it m [] a (X.drop a) = (outB it pre, a + pre.length) := by rw [h.here hx, if_pos hs]
theorem BatchAt.step (h : BatchAt it m X a pre) {x : Note × Nat} (hx : X[a + pre.length]? = some x.1) (hf : noteFormed x.1 = true) (hs : stopB it m (outB it pre) x.1 = false) : BatchAt it m X a (pre ++ [x]) := by
  refine ⟨?_, ?_, ?_⟩
  · rw [h.here hx, hs, if_neg (by decide), outB_snoc, List.length_append, List.length_singleton, Nat.add_assoc]
  · rw [outB_snoc]; exact stepB_formed h.formed hf
  · rw [outB_snoc, List.length_append, List.length_singleton]
    have := (stepB_len (it := it) (most := m) (outB it pre) x.1).2.1
    have := h.len
    omega
theorem BatchAt.done (h : BatchAt it m X a pre) (hl : X.length ≤ a + pre.length) : batchFrom it m [] a (X.drop a) = (outB it pre, a + pre.length) := by
  rw [h.goes, List.drop_of_length_le hl, batchFrom]
/-- the last one goes on -/
theorem step_goes {out : List Note} {z x : Note} (hl : out.getLast? = some z) (hg : goesS it z x = true) : stepB it out x = out.set (out.length - 1) (mergeN z x) ∧ stopB it m out x = false := by
  unfold stepB stopB
  rw [hl]
  simp only [hg, if_true, Bool.not_true, Bool.false_and, and_true]
  obtain ⟨d, rfl⟩ : ∃ d, out = d ++ [z] := ⟨out.dropLast, by
    have hne : out ≠ [] := by rintro rfl; simp at hl
    rw [List.getLast?_eq_some_getLast hne] at hl
    rw [← Option.some.inj hl, List.dropLast_concat_getLast hne]⟩
  simp
theorem step_new {out : List Note} {z x : Note} (hl : out.getLast? = some z) (hg : goesS it z x = false) : stepB it out x = out ++ [x] ∧ stopB it m out x = decide ((out.length : Int) = m) := by
  unfold stepB stopB
  rw [hl]
  simp [hg]
theorem step_first {x : Note} (hm : 1 ≤ m) : stepB it [] x = [x] ∧ stopB it m [] x = false := by
  unfold stepB stopB
  simp
  omega
end Go.Proofs.YtdbeoigbkkdpdaaGreatDoor
/- Logs: the place of the first note that is new. -/
namespace Go.Proofs.YtdbeoigbkkdpdaaGreatDoor
open Go.ChangeShapes Go.WideShapes Go.ChangeAt Go.RowKit
attribute [local irreducible] AW AWY vops vopsY vop vopL vdraw callW qop binQ lenQ storeQ appendQ callQ ACalls AIter
attribute [local go_sem] noI_eq enN_eq logA_eq noteA_eq storeQ_bp storeQ_rp logP_eq

theorem enL_pure (x : Note × Nat) : (enL x).length = 2 ∧ pureA.pures (enL x) = true := ⟨rfl, rfl⟩
end Go.Proofs.YtdbeoigbkkdpdaaGreatDoor
namespace Go.Proofs.YtdbeoigbkkdpdaaGreatDoor
open Go.ChangeShapes Go.WideShapes Go.ChangeAt Go.RowKit
attribute [local irreducible] AW AWY vops vopsY vop vopL vdraw callW qop binQ lenQ storeQ appendQ callQ ACalls AIter
attribute [local go_sem] noI_eq enN_eq logA_eq noteA_eq storeQ_bp storeQ_rp logP_eq

def batchR (l : Log) (a : Int) (it : List Span) (m : Int) : AV := .tup [.iv (noI (batchS l a it m).1), .val (.int .i64 (batchS l a it m).2.1), .val (.int .i64 (batchS l a it m).2.2)]
def bkB (o : List Note) (next : Int) : List BA := [.box 1200 [.own 9900], .row 9900 79 4 (o.map enN), .box 1300 [.val (.int .i64 next)]]
set_option maxHeartbeats 3200000 in
set_option maxRecDepth 100000 in
theorem batch_call (l : Log) (a : Int) (it : List Span) (m : Int) (iS : I64 l.sure) (iA : I64 a) (iM : I64 m) : ACalls Tryz.prog TzTab 15 [logA l, .val (.int .i64 a), .iv (spI it), .val (.int .i64 m)] (batchR l a it m) [] := by
  refine ACalls.ofS (n := 80) (rs := [.tmp 8, .tmp 9, .tmp 10]) Tryz.func15 rfl (by kernel_rfl) Tryz.ntmps15 (by kernel_rfl) (by simp) (fun _ _ => TzTab.later) ?_
  intro hok V w0
  have hlen : l.notes.length ≤ 1073741824 := by simpa using hok.1.2.1.1
  obtain ⟨⟨O, k, e⟩, hq⟩ : ∃ q, batchS l a it m = q := ⟨_, rfl⟩
  unfold batchR
  rw [hq]
  unfold batchS askB at hq
  simp -implicitDefEqProofs (disch := first | with_unfolding_all exact Eq.trans rfl rfl | omega) only [go_sem, seval]
  refine AW.seq ?_
  refine AW.reg rfl fun KK hKK => ?_
  try simp -implicitDefEqProofs (disch := first | with_unfolding_all exact Eq.trans rfl rfl | omega) only [go_sem, seval]
  repeat' ((first | refine hold_ ?_ | (refine hKK _ ?_; clear hKK KK)) <;> try simp -implicitDefEqProofs (disch := first | with_unfolding_all exact Eq.trans rfl rfl | omega) only [go_sem, seval])
  refine AW.freeze 500 _ rfl ⟨trivial, trivial, iS, trivial⟩ ?_
  simp only [go_sem, reduceIte, Nat.reduceEqDiff]
  refine AW.freeze 700 _ rfl ⟨trivial, trivial⟩ ?_
  simp only [go_sem, reduceIte, Nat.reduceEqDiff]
  refine AW.freeze 800 _ rfl ⟨iM, trivial⟩ ?_
  simp only [go_sem, reduceIte, Nat.reduceEqDiff]
  try simp -implicitDefEqProofs (disch := first | with_unfolding_all exact Eq.trans rfl rfl | omega) only [go_sem, seval]
  repeat' ((first | refine st_ rfl ?_ | refine hold_ ?_ | refine cond_ (fun h => ?_) (fun h => ?_) | (refine hKD _ _ ⟨rfl, ?_⟩; clear hKD KD)) <;> try simp -implicitDefEqProofs (disch := first | with_unfolding_all exact Eq.trans rfl rfl | omega) only [go_sem, seval])
  refine call_ (lformed_call l iS) rfl ?_
  cases hF : logFormed l
  · rw [if_neg (by simp [hF])] at hq
    cases hq
    try simp -implicitDefEqProofs (disch := first | with_unfolding_all exact Eq.trans rfl rfl | omega) only [go_sem, seval]
    repeat' ((first | refine st_ rfl ?_ | refine hold_ ?_ | refine cond_ (fun h => ?_) (fun h => ?_) | (refine hKD _ _ ⟨rfl, ?_⟩; clear hKD KD)) <;> try simp -implicitDefEqProofs (disch := first | with_unfolding_all exact Eq.trans rfl rfl | omega) only [go_sem, seval])
    exact ⟨.inl trivial, id, tup_nil, List.nodup_nil⟩
  try simp -implicitDefEqProofs (disch := first | with_unfolding_all exact Eq.trans rfl rfl | omega) only [go_sem, seval]
  repeat' ((first | refine st_ rfl ?_ | refine hold_ ?_ | refine cond_ (fun h => ?_) (fun h => ?_) | (refine hKD _ _ ⟨rfl, ?_⟩; clear hKD KD)) <;> try simp -implicitDefEqProofs (disch := first | with_unfolding_all exact Eq.trans rfl rfl | omega) only [go_sem, seval])
  by_cases h0 : a < 0
  · rw [if_neg fun h => by simp only [Bool.and_eq_true, decide_eq_true_eq] at h; omega] at hq
    cases hq
    simp only [decide_eq_true h0]
    try simp -implicitDefEqProofs (disch := first | with_unfolding_all exact Eq.trans rfl rfl | omega) only [go_sem, seval]
    repeat' ((first | refine st_ rfl ?_ | refine hold_ ?_ | refine cond_ (fun h => ?_) (fun h => ?_) | (refine hKD _ _ ⟨rfl, ?_⟩; clear hKD KD)) <;> try simp -implicitDefEqProofs (disch := first | with_unfolding_all exact Eq.trans rfl rfl | omega) only [go_sem, seval])
    exact ⟨.inl trivial, id, tup_nil, List.nodup_nil⟩
  simp only [decide_eq_false h0]
  try simp -implicitDefEqProofs (disch := first | with_unfolding_all exact Eq.trans rfl rfl | omega) only [go_sem, seval]
  repeat' ((first | refine st_ rfl ?_ | refine hold_ ?_ | refine cond_ (fun h => ?_) (fun h => ?_) | (refine hKD _ _ ⟨rfl, ?_⟩; clear hKD KD)) <;> try simp -implicitDefEqProofs (disch := first | with_unfolding_all exact Eq.trans rfl rfl | omega) only [go_sem, seval])
  by_cases h1 : l.sure < a
  · rw [if_neg fun h => by simp only [Bool.and_eq_true, decide_eq_true_eq] at h; omega] at hq
    cases hq
    simp only [decide_eq_true h1]
    try simp -implicitDefEqProofs (disch := first | with_unfolding_all exact Eq.trans rfl rfl | omega) only [go_sem, seval]
    repeat' ((first | refine st_ rfl ?_ | refine hold_ ?_ | refine cond_ (fun h => ?_) (fun h => ?_) | (refine hKD _ _ ⟨rfl, ?_⟩; clear hKD KD)) <;> try simp -implicitDefEqProofs (disch := first | with_unfolding_all exact Eq.trans rfl rfl | omega) only [go_sem, seval])
    exact ⟨.inl trivial, id, tup_nil, List.nodup_nil⟩
  simp only [decide_eq_false h1]
  try simp -implicitDefEqProofs (disch := first | with_unfolding_all exact Eq.trans rfl rfl | omega) only [go_sem, seval]
  repeat' ((first | refine st_ rfl ?_ | refine hold_ ?_ | refine cond_ (fun h => ?_) (fun h => ?_) | (refine hKD _ _ ⟨rfl, ?_⟩; clear hKD KD)) <;> try simp -implicitDefEqProofs (disch := first | with_unfolding_all exact Eq.trans rfl rfl | omega) only [go_sem, seval])
  · have h2 : m < 1 := of_decide_eq_true h
    rw [if_neg fun h => by simp only [Bool.and_eq_true, decide_eq_true_eq] at h; omega] at hq
    cases hq
    exact ⟨.inl trivial, id, tup_nil, List.nodup_nil⟩
  have h2 : ¬ m < 1 := by simpa using h
  rw [if_pos (by simp [hF]; omega)] at hq
  obtain ⟨a, rfl⟩ : ∃ n : Nat, a = n := ⟨a.toNat, by omega⟩
  unfold batchN at hq
  simp only [Int.toNat_natCast] at hq
  refine call_ (seen_call l a it iS iA) rfl ?_
  try simp -implicitDefEqProofs (disch := first | with_unfolding_all exact Eq.trans rfl rfl | omega) only [go_sem, seval]
  repeat' ((first | refine st_ rfl ?_ | refine hold_ ?_ | refine cond_ (fun h => ?_) (fun h => ?_) | (refine hKD _ _ ⟨rfl, ?_⟩; clear hKD KD)) <;> try simp -implicitDefEqProofs (disch := first | with_unfolding_all exact Eq.trans rfl rfl | omega) only [go_sem, seval])
  refine AW.adoptB 1200 9900 79 4 rfl rfl ?_
  refine AW.le (S := ⟨[(11, .bp 1200 0), (12, .bp 1300 0), (1, .val (.int .i64 (a : Nat))), (4, logP l), (6, .ip [spI it]), (7, .ip [.val (.int .i64 m)]), (38, .fn 85 [logP l, .ip [.val (.int .i64 (a : Nat))], .ip [spI it]])], bkB [] l.sure⟩) (ρ := id) ⟨⟨rfl, rfl, rfl, rfl, rfl, rfl, rfl, trivial⟩, ⟨rfl, rfl, rfl, trivial⟩, by simp [idsOf, bkB, BA.id]⟩ ?_
  have hX : (toldX l it).length = l.sure.toNat := by
    have := (logFormed_sure hF).2
    unfold toldX
    rw [List.length_map, List.length_take]; omega
  refine AW.range (seen_iter l a it iS iA hF) [(11, .bp 1200 0), (12, .bp 1300 0)] [(1, .val (.int .i64 (a : Nat))), (4, logP l), (6, .ip [spI it]), (7, .ip [.val (.int .i64 m)]), (38, .fn 85 [logP l, .ip [.val (.int .i64 (a : Nat))], .ip [spI it]])] (fun pre => bkB (outB it pre) l.sure) (fun pre => BatchAt it m (toldX l it) a pre ∧ pre.length ≤ l.notes.length) rfl ⟨BatchAt.nil, Nat.zero_le _⟩ rfl rfl rfl rfl enL_pure (fun c pre x hsp hI => ?_) (fun xs hS hI => ?_)
  · obtain ⟨hp1, hp2, hp3⟩ := pre_next hsp
    obtain ⟨n, i⟩ := x
    simp only at hp2 hp3
    obtain ⟨hI, hpl⟩ := hI
    have hol := hI.len
    obtain ⟨o, ho⟩ : ∃ o, outB it pre = o := ⟨_, rfl⟩
    have hos : outB it (pre ++ [(n, i)]) = stepB it o n := by rw [outB_snoc, ho]
    rw [ho] at hol
    have hfn : noteFormed n = true := by
      have hm := List.mem_of_getElem? hp3
      unfold toldX at hm
      obtain ⟨y, hy, rfl⟩ := List.mem_map.1 hm
      exact through_formed it (logFormed_mem hF y (List.mem_of_mem_take hy))
    have hpl2 : (pre ++ [(n, i)]).length ≤ l.notes.length := by
      have := (List.getElem?_eq_some_iff.1 hp3).1
      have := (logFormed_sure hF).2
      rw [List.length_append, List.length_singleton]
      omega
    have hpl3 : pre.length + 1 ≤ l.notes.length := by simpa using hpl2
    simp only [parF, enL, List.cons_append, List.nil_append, ho, hos, bkB]
    simp -implicitDefEqProofs (disch := first | with_unfolding_all exact Eq.trans rfl rfl | omega) only [go_sem, seval]
    try simp -implicitDefEqProofs (disch := first | with_unfolding_all exact Eq.trans rfl rfl | omega) only [go_sem, seval]
    repeat' ((first | refine st_ rfl ?_ | refine hold_ ?_ | refine cond_ (fun h => ?_) (fun h => ?_) | (refine hKD _ _ ⟨rfl, ?_⟩; clear hKD KD)) <;> try simp -implicitDefEqProofs (disch := first | with_unfolding_all exact Eq.trans rfl rfl | omega) only [go_sem, seval])
    rcases List.eq_nil_or_concat o with rfl | ⟨d, z, rfl⟩
    · obtain ⟨g1, g2⟩ := step_first (it := it) (m := m) (x := n) (by omega)
      rw [g1]
      refine AW.drawn (ds := [45, 46, 47, 48, 49, 50, 51, 52, 53, 54, 55, 44]) (fin := [0, 1, 2, 3]) (bs := [4, 4, 4, 4, 4, 4, 4, 4, 4, 4, 4, 4]) [⟨[], [], [], [], 0⟩, ⟨[(45, 0)], [], [], [], 0⟩, ⟨[(46, 1)], [], [], [], 0⟩, ⟨[], [], [0, 1, 2, 3], [], 0⟩, ⟨[], [], [], [], 0⟩, ⟨[(48, 3), (49, 4)], [], [0, 1, 2, 3], [], 0⟩, ⟨[(50, 5)], [], [0, 1, 2, 3], [], 0⟩, ⟨[], [], [0, 1, 2, 3], [], 0⟩, ⟨[], [], [0, 1, 2, 3], [], 0⟩, ⟨[(51, 6), (52, 7), (53, 8)], [], [0, 1, 2, 3], [], 0⟩, ⟨[(47, 2), (54, 9)], [], [], [], 0⟩, ⟨[(55, 10)], [], [], [], 0⟩] (by kernel_rfl) rfl (by kernel_rfl) rfl rfl rfl fun KD hKD => ?_
      try simp -implicitDefEqProofs (disch := first | with_unfolding_all exact Eq.trans rfl rfl | omega) only [go_sem, seval]
      repeat' ((first | refine hold_ ?_ | (refine hKD _ _ ⟨rfl, ?_⟩; clear hKD KD)) <;> try simp -implicitDefEqProofs (disch := first | with_unfolding_all exact Eq.trans rfl rfl | omega) only [go_sem, seval])
      try simp -implicitDefEqProofs (disch := first | with_unfolding_all exact Eq.trans rfl rfl | omega) only [go_sem, seval]
      repeat' ((first | refine st_ rfl ?_ | refine hold_ ?_ | refine cond_ (fun h => ?_) (fun h => ?_) | (refine hKD _ _ ⟨rfl, ?_⟩; clear hKD KD)) <;> try simp -implicitDefEqProofs (disch := first | with_unfolding_all exact Eq.trans rfl rfl | omega) only [go_sem, seval])
      · exfalso
        have := of_decide_eq_true h
        try simp at this
        omega
      refine bs1 (by omega) rfl rfl rfl ⟨trivial, trivial, trivial, trivial, trivial⟩ ?_
      try simp -implicitDefEqProofs (disch := first | with_unfolding_all exact Eq.trans rfl rfl | omega) only [go_sem, seval]
      repeat' ((first | refine st_ rfl ?_ | refine hold_ ?_ | refine cond_ (fun h => ?_) (fun h => ?_) | (refine hKD _ _ ⟨rfl, ?_⟩; clear hKD KD)) <;> try simp -implicitDefEqProofs (disch := first | with_unfolding_all exact Eq.trans rfl rfl | omega) only [go_sem, seval])
      refine append_own rfl (by kernel_rfl) (by omega) (by kernel_rfl) rfl (by first | (simp; done) | (simp at hol ⊢; omega)) ?_
      try simp -implicitDefEqProofs (disch := first | with_unfolding_all exact Eq.trans rfl rfl | omega) only [go_sem, seval]
      repeat' ((first | refine st_ rfl ?_ | refine hold_ ?_ | refine cond_ (fun h => ?_) (fun h => ?_) | (refine hKD _ _ ⟨rfl, ?_⟩; clear hKD KD)) <;> try simp -implicitDefEqProofs (disch := first | with_unfolding_all exact Eq.trans rfl rfl | omega) only [go_sem, seval])
      refine ⟨⟨hI.step hp3 hfn (by rw [ho]; exact g2), hpl2⟩, fun b => if b = 9900 then 7800 else b, ⟨rfl, rfl, trivial⟩, ⟨rfl, rfl, rfl, trivial⟩, by simp [idsOf, BA.id]⟩
    · rw [List.concat_eq_append] at *
      have hlast : (((d ++ [z]).length : Nat) : Int) - 1 = (d.length : Nat) := by simp
      have hgl : (d ++ [z]).getLast? = some z := by simp
      have hfz : noteFormed z = true := hI.formed z (by rw [ho]; simp)
      have hix : (d ++ [z])[d.length]? = some z := by simp
      simp only [hlast]
      refine AW.drawn (ds := [45, 46, 47, 48, 49, 50, 51, 52, 53, 54, 55, 44]) (fin := [0, 1, 2, 3]) (bs := [4, 4, 4, 4, 4, 4, 4, 4, 4, 4, 4, 4]) [⟨[], [], [], [], 0⟩, ⟨[(45, 0)], [], [], [], 0⟩, ⟨[(46, 1)], [], [], [], 0⟩, ⟨[], [], [0, 1, 2, 3], [], 0⟩, ⟨[], [], [], [], 0⟩, ⟨[(48, 3), (49, 4)], [], [0, 1, 2, 3], [], 0⟩, ⟨[(50, 5)], [], [0, 1, 2, 3], [], 0⟩, ⟨[], [], [0, 1, 2, 3], [], 0⟩, ⟨[], [], [0, 1, 2, 3], [], 0⟩, ⟨[(51, 6), (52, 7), (53, 8)], [], [0, 1, 2, 3], [], 0⟩, ⟨[(47, 2), (54, 9)], [], [], [], 0⟩, ⟨[(55, 10)], [], [], [], 0⟩] (by kernel_rfl) rfl (by kernel_rfl) rfl rfl rfl fun KD hKD => ?_
      try simp -implicitDefEqProofs (disch := first | with_unfolding_all exact Eq.trans rfl rfl | omega) only [go_sem, seval]
      repeat' ((first | refine hold_ ?_ | (refine hKD _ _ ⟨rfl, ?_⟩; clear hKD KD)) <;> try simp -implicitDefEqProofs (disch := first | with_unfolding_all exact Eq.trans rfl rfl | omega) only [go_sem, seval])
      refine ⟨by omega, by simp, ?_⟩
      try simp -implicitDefEqProofs (disch := first | with_unfolding_all exact Eq.trans rfl rfl | omega) only [go_sem, seval]
      repeat' ((first | refine hold_ ?_ | (refine hKD _ _ ⟨rfl, ?_⟩; clear hKD KD)) <;> try simp -implicitDefEqProofs (disch := first | with_unfolding_all exact Eq.trans rfl rfl | omega) only [go_sem, seval])
      refine ⟨_, get_map hix, ?_⟩
      try simp -implicitDefEqProofs (disch := first | with_unfolding_all exact Eq.trans rfl rfl | omega) only [go_sem, seval]
      repeat' ((first | refine hold_ ?_ | (refine hKD _ _ ⟨rfl, ?_⟩; clear hKD KD)) <;> try simp -implicitDefEqProofs (disch := first | with_unfolding_all exact Eq.trans rfl rfl | omega) only [go_sem, seval])
      refine call_ (goes_call z n it) rfl ?_
      cases hg : goesS it z n
      · obtain ⟨g1, g2⟩ := step_new (m := m) hgl hg
        try simp -implicitDefEqProofs (disch := first | with_unfolding_all exact Eq.trans rfl rfl | omega) only [go_sem, seval]
        repeat' ((first | refine hold_ ?_ | (refine hKD _ _ ⟨rfl, ?_⟩; clear hKD KD)) <;> try simp -implicitDefEqProofs (disch := first | with_unfolding_all exact Eq.trans rfl rfl | omega) only [go_sem, seval])
        try simp -implicitDefEqProofs (disch := first | with_unfolding_all exact Eq.trans rfl rfl | omega) only [go_sem, seval]
        repeat' ((first | refine st_ rfl ?_ | refine hold_ ?_ | refine cond_ (fun h => ?_) (fun h => ?_) | (refine hKD _ _ ⟨rfl, ?_⟩; clear hKD KD)) <;> try simp -implicitDefEqProofs (disch := first | with_unfolding_all exact Eq.trans rfl rfl | omega) only [go_sem, seval])
        · refine ⟨id, bkB (d ++ [z]) (i : Nat), ⟨⟨rfl, rfl, trivial⟩, ⟨rfl, rfl, rfl, trivial⟩, by simp [idsOf, bkB, BA.id]⟩, ?_⟩
          rw [hI.stop (x := (n, i)) hp3 (by rw [ho, g2]; exact h), ho, ← hp2] at hq
          cases hq
          unfold bkB
          simp only [go_sem, List.cons_append, List.nil_append, reduceIte, Nat.reduceEqDiff]
          refine AW.freeze 9900 _ rfl trivial ?_
          simp only [go_sem, reduceIte, Nat.reduceEqDiff]
          try simp -implicitDefEqProofs (disch := first | with_unfolding_all exact Eq.trans rfl rfl | omega) only [go_sem, seval]
          repeat' ((first | refine st_ rfl ?_ | refine hold_ ?_ | refine cond_ (fun h => ?_) (fun h => ?_) | (refine hKD _ _ ⟨rfl, ?_⟩; clear hKD KD)) <;> try simp -implicitDefEqProofs (disch := first | with_unfolding_all exact Eq.trans rfl rfl | omega) only [go_sem, seval])
          refine AW.drawn (ds := [78, 79, 8, 9, 10]) (fin := [0, 1]) (bs := [2, 2, 2, 2, 2]) [⟨[], [], [0, 1], [], 0⟩, ⟨[], [], [0, 1], [], 0⟩, ⟨[(78, 0)], [], [], [], 0⟩, ⟨[(79, 1)], [], [], [], 0⟩, ⟨[], [], [], [], 0⟩] (by kernel_rfl) rfl (by kernel_rfl) rfl rfl rfl fun KD hKD => ?_
          try simp -implicitDefEqProofs (disch := first | with_unfolding_all exact Eq.trans rfl rfl | omega) only [go_sem, seval]
          repeat' ((first | refine st_ rfl ?_ | refine hold_ ?_ | refine cond_ (fun h => ?_) (fun h => ?_) | (refine hKD _ _ ⟨rfl, ?_⟩; clear hKD KD)) <;> try simp -implicitDefEqProofs (disch := first | with_unfolding_all exact Eq.trans rfl rfl | omega) only [go_sem, seval])
          exact ⟨.inl trivial, id, fun _ _ _ h => h, List.nodup_nil⟩
        · refine bs1 (by omega) rfl rfl rfl ⟨trivial, trivial, trivial, trivial, trivial⟩ ?_
          try simp -implicitDefEqProofs (disch := first | with_unfolding_all exact Eq.trans rfl rfl | omega) only [go_sem, seval]
          repeat' ((first | refine st_ rfl ?_ | refine hold_ ?_ | refine cond_ (fun h => ?_) (fun h => ?_) | (refine hKD _ _ ⟨rfl, ?_⟩; clear hKD KD)) <;> try simp -implicitDefEqProofs (disch := first | with_unfolding_all exact Eq.trans rfl rfl | omega) only [go_sem, seval])
          refine append_own rfl (by kernel_rfl) (by omega) (by kernel_rfl) rfl (by first | (simp; done) | (simp at hol ⊢; omega)) ?_
          try simp -implicitDefEqProofs (disch := first | with_unfolding_all exact Eq.trans rfl rfl | omega) only [go_sem, seval]
          repeat' ((first | refine st_ rfl ?_ | refine hold_ ?_ | refine cond_ (fun h => ?_) (fun h => ?_) | (refine hKD _ _ ⟨rfl, ?_⟩; clear hKD KD)) <;> try simp -implicitDefEqProofs (disch := first | with_unfolding_all exact Eq.trans rfl rfl | omega) only [go_sem, seval])
          refine ⟨⟨hI.step hp3 hfn (by rw [ho, g2]; exact h), hpl2⟩, fun b => if b = 9900 then 7800 else b, ⟨rfl, rfl, trivial⟩, ⟨rfl, ?_, rfl, trivial⟩, by simp [idsOf, BA.id]⟩
          rw [g1, List.map_append]
          rfl
      · obtain ⟨g1, g2⟩ := step_goes (m := m) hgl hg
        obtain ⟨⟨⟨w1, w2⟩, w3⟩, -⟩ : ((z.writes = [] ∧ n.writes = []) ∧ z.end_ = n.start) ∧ _ := by
          have := hg
          unfold goesS at this
          simpa only [Bool.and_eq_true, decide_eq_true_eq] using this
        try simp -implicitDefEqProofs (disch := first | with_unfolding_all exact Eq.trans rfl rfl | omega) only [go_sem, seval]
        repeat' ((first | refine hold_ ?_ | (refine hKD _ _ ⟨rfl, ?_⟩; clear hKD KD)) <;> try simp -implicitDefEqProofs (disch := first | with_unfolding_all exact Eq.trans rfl rfl | omega) only [go_sem, seval])
        try simp -implicitDefEqProofs (disch := first | with_unfolding_all exact Eq.trans rfl rfl | omega) only [go_sem, seval]
        repeat' ((first | refine st_ rfl ?_ | refine hold_ ?_ | refine cond_ (fun h => ?_) (fun h => ?_) | (refine hKD _ _ ⟨rfl, ?_⟩; clear hKD KD)) <;> try simp -implicitDefEqProofs (disch := first | with_unfolding_all exact Eq.trans rfl rfl | omega) only [go_sem, seval])
        refine AW.drawn (ds := [57, 58, 59, 60, 61, 62, 63, 64, 56, 65, 66, 67]) (fin := [0, 1, 3, 4]) (bs := [4, 4, 4, 4, 4, 4, 4, 4, 4, 4, 4, 4, 4]) [⟨[], [], [0, 1, 2, 3], [], 0⟩, ⟨[], [], [], [], 0⟩, ⟨[], [], [0, 1, 2, 3], [], 0⟩, ⟨[], [], [], [], 0⟩, ⟨[(59, 2), (60, 3)], [], [0, 1, 2, 3], [], 0⟩, ⟨[(61, 4)], [], [0, 1, 2, 3], [], 0⟩, ⟨[], [], [0, 1, 2, 3], [], 0⟩, ⟨[(62, 5), (63, 6)], [], [0, 1, 2, 3], [], 0⟩, ⟨[(64, 7)], [], [], [], 0⟩, ⟨[(56, 8)], [], [], [], 0⟩, ⟨[(56, 8)], [], [], [], 0⟩, ⟨[(57, 0), (58, 1)], [], [0, 1, 2, 3], [], 0⟩, ⟨[(67, 11), (65, 9)], [], [], [2], 1⟩] (by kernel_rfl) rfl (by kernel_rfl) rfl rfl rfl fun KD hKD => ?_
        try simp -implicitDefEqProofs (disch := first | with_unfolding_all exact Eq.trans rfl rfl | omega) only [go_sem, seval]
        repeat' ((first | refine hold_ ?_ | (refine hKD _ _ ⟨rfl, ?_⟩; clear hKD KD)) <;> try simp -implicitDefEqProofs (disch := first | with_unfolding_all exact Eq.trans rfl rfl | omega) only [go_sem, seval])
        refine ⟨by omega, by simp, ?_⟩
        try simp -implicitDefEqProofs (disch := first | with_unfolding_all exact Eq.trans rfl rfl | omega) only [go_sem, seval]
        repeat' ((first | refine hold_ ?_ | (refine hKD _ _ ⟨rfl, ?_⟩; clear hKD KD)) <;> try simp -implicitDefEqProofs (disch := first | with_unfolding_all exact Eq.trans rfl rfl | omega) only [go_sem, seval])
        refine ⟨_, get_map hix, ?_⟩
        try simp -implicitDefEqProofs (disch := first | with_unfolding_all exact Eq.trans rfl rfl | omega) only [go_sem, seval]
        repeat' ((first | refine hold_ ?_ | (refine hKD _ _ ⟨rfl, ?_⟩; clear hKD KD)) <;> try simp -implicitDefEqProofs (disch := first | with_unfolding_all exact Eq.trans rfl rfl | omega) only [go_sem, seval])
        refine call_ (merge_call z n hfz hfn w1 w2 w3) rfl ?_
        try simp -implicitDefEqProofs (disch := first | with_unfolding_all exact Eq.trans rfl rfl | omega) only [go_sem, seval]
        repeat' ((first | refine hold_ ?_ | (refine hKD _ _ ⟨rfl, ?_⟩; clear hKD KD)) <;> try simp -implicitDefEqProofs (disch := first | with_unfolding_all exact Eq.trans rfl rfl | omega) only [go_sem, seval])
        refine ⟨by omega, by simp, ?_⟩
        try simp -implicitDefEqProofs (disch := first | with_unfolding_all exact Eq.trans rfl rfl | omega) only [go_sem, seval]
        repeat' ((first | refine hold_ ?_ | (refine hKD _ _ ⟨rfl, ?_⟩; clear hKD KD)) <;> try simp -implicitDefEqProofs (disch := first | with_unfolding_all exact Eq.trans rfl rfl | omega) only [go_sem, seval])
        refine ⟨_, _, rfl, by simp [okAs, okA], get_map hix, ?_⟩
        try simp -implicitDefEqProofs (disch := first | with_unfolding_all exact Eq.trans rfl rfl | omega) only [go_sem, seval]
        repeat' ((first | refine hold_ ?_ | (refine hKD _ _ ⟨rfl, ?_⟩; clear hKD KD)) <;> try simp -implicitDefEqProofs (disch := first | with_unfolding_all exact Eq.trans rfl rfl | omega) only [go_sem, seval])
        try simp -implicitDefEqProofs (disch := first | with_unfolding_all exact Eq.trans rfl rfl | omega) only [go_sem, seval]
        repeat' ((first | refine st_ rfl ?_ | refine hold_ ?_ | refine cond_ (fun h => ?_) (fun h => ?_) | (refine hKD _ _ ⟨rfl, ?_⟩; clear hKD KD)) <;> try simp -implicitDefEqProofs (disch := first | with_unfolding_all exact Eq.trans rfl rfl | omega) only [go_sem, seval])
        refine ⟨⟨hI.step hp3 hfn (by rw [ho]; exact g2), hpl2⟩, id, ⟨rfl, rfl, trivial⟩, ⟨rfl, ?_, rfl, trivial⟩, by simp [idsOf, BA.id]⟩
        rw [g1, List.map_set, List.length_append, List.length_singleton, Nat.add_sub_cancel]
        rfl
  · obtain rfl : xs = toldE l a it := hS
    have hdone := hI.1.done (by unfold toldE allL; rw [List.length_zipIdx, List.length_drop]; omega)
    rw [hdone] at hq
    have hk : a + (toldE l a it).length = l.sure.toNat := by
      unfold toldE allL; rw [List.length_zipIdx, List.length_drop]; omega
    rw [hk] at hq
    have hs0 := (logFormed_sure hF).1
    rw [show ((l.sure.toNat : Nat) : Int) = l.sure by omega] at hq
    generalize outB it (toldE l a it) = o at hq ⊢
    cases hq
    unfold bkB
    simp only [go_sem, List.cons_append, List.nil_append, reduceIte, Nat.reduceEqDiff]
    refine AW.freeze 9900 _ rfl trivial ?_
    simp only [go_sem, reduceIte, Nat.reduceEqDiff]
    try simp -implicitDefEqProofs (disch := first | with_unfolding_all exact Eq.trans rfl rfl | omega) only [go_sem, seval]
    repeat' ((first | refine st_ rfl ?_ | refine hold_ ?_ | refine cond_ (fun h => ?_) (fun h => ?_) | (refine hKD _ _ ⟨rfl, ?_⟩; clear hKD KD)) <;> try simp -implicitDefEqProofs (disch := first | with_unfolding_all exact Eq.trans rfl rfl | omega) only [go_sem, seval])
    refine AW.drawn (ds := [78, 79, 8, 9, 10]) (fin := [0, 1]) (bs := [2, 2, 2, 2, 2]) [⟨[], [], [0, 1], [], 0⟩, ⟨[], [], [0, 1], [], 0⟩, ⟨[(78, 0)], [], [], [], 0⟩, ⟨[(79, 1)], [], [], [], 0⟩, ⟨[], [], [], [], 0⟩] (by kernel_rfl) rfl (by kernel_rfl) rfl rfl rfl fun KD hKD => ?_
    try simp -implicitDefEqProofs (disch := first | with_unfolding_all exact Eq.trans rfl rfl | omega) only [go_sem, seval]
    repeat' ((first | refine st_ rfl ?_ | refine hold_ ?_ | refine cond_ (fun h => ?_) (fun h => ?_) | (refine hKD _ _ ⟨rfl, ?_⟩; clear hKD KD)) <;> try simp -implicitDefEqProofs (disch := first | with_unfolding_all exact Eq.trans rfl rfl | omega) only [go_sem, seval])
    exact ⟨.inl trivial, id, fun _ _ _ h => h, List.nodup_nil⟩
end Go.Proofs.YtdbeoigbkkdpdaaGreatDoor
