/- Logs: checked, copied, compared, and the place of what is new (the reference's). -/
import Derived.Test.YtdbeoigbkkdpdaaGreatDoorPRefNote
set_option linter.all false
set_option linter.unnecessarySimpa false
set_option linter.unusedSimpArgs false
set_option linter.unusedVariables false
namespace Go.Proofs.YtdbeoigbkkdpdaaGreatDoor
open Go.ChangeShapes Go.WideShapes Go.ChangeAt Go.RowKit
attribute [local irreducible] AW AWY vops vopsY vop vopL vdraw callW qop binQ lenQ storeQ appendQ callQ ACalls AIter
attribute [local go_sem] noI_eq enN_eq logA_eq noteA_eq storeQ_bp storeQ_rp

theorem rvtwoD (l m : List Stamp) : ACalls Tryz.prog TzTab 54 [.iv (stI l), .iv (stI m)] (.iv (stI (joinS [l, m]))) [] := (rvtwo_call l m).frz trivial
set_option maxHeartbeats 1600000 in
set_option maxRecDepth 100000 in
theorem rlformed_call (l : Log) (iS : I64 l.sure) : ACalls Tryz.prog TzTab 19 [logA l] (.val (.bool (logFormed l))) [] := by
  refine ACalls.of (n := 56) (rs := [.tmp 2]) Tryz.func19 rfl (by kernel_rfl) Tryz.ntmps19 (by kernel_rfl) (by simp) (fun _ _ => TzTab.later) ?_
  intro hok V w0
  have hlen : l.notes.length ≤ 1073741824 := by simpa using hok.1.2.1.1
  obtain ⟨B, hB⟩ : ∃ B, logFormed l = B := ⟨_, rfl⟩
  rw [hB]
  unfold logFormed sureB at hB
  simp -implicitDefEqProofs (disch := first | with_unfolding_all exact Eq.trans rfl rfl | omega) only [go_sem, seval]
  refine AW.seq ?_
  refine AW.reg rfl fun KK hKK => ?_
  try simp -implicitDefEqProofs (disch := first | with_unfolding_all exact Eq.trans rfl rfl | omega) only [go_sem, seval]
  repeat' ((first | refine hold_ ?_ | (refine hKK _ ?_; clear hKK KK)) <;> try simp -implicitDefEqProofs (disch := first | with_unfolding_all exact Eq.trans rfl rfl | omega) only [go_sem, seval])
  refine AW.freeze 200 _ rfl ⟨trivial, trivial, iS, trivial⟩ ?_
  simp only [go_sem, reduceIte, Nat.reduceEqDiff]
  try simp -implicitDefEqProofs (disch := first | with_unfolding_all exact Eq.trans rfl rfl | omega) only [go_sem, seval]
  repeat' ((first | refine st_ rfl ?_ | refine hold_ ?_ | refine cond_ (fun h => ?_) (fun h => ?_) | (refine hKD _ _ ⟨rfl, ?_⟩; clear hKD KD)) <;> try simp -implicitDefEqProofs (disch := first | with_unfolding_all exact Eq.trans rfl rfl | omega) only [go_sem, seval])
  refine call_ (rvformed_call l.base) rfl ?_
  cases hb : vecFormed l.base
  · obtain rfl : B = false := by rw [← hB, hb]; rfl
    try simp -implicitDefEqProofs (disch := first | with_unfolding_all exact Eq.trans rfl rfl | omega) only [go_sem, seval]
    repeat' ((first | refine st_ rfl ?_ | refine hold_ ?_ | refine cond_ (fun h => ?_) (fun h => ?_) | (refine hKD _ _ ⟨rfl, ?_⟩; clear hKD KD)) <;> try simp -implicitDefEqProofs (disch := first | with_unfolding_all exact Eq.trans rfl rfl | omega) only [go_sem, seval])
    first | exact ⟨.inl trivial, id, List.nodup_nil⟩ | exact ⟨.inl trivial, id, rfl, List.nodup_nil⟩
  try simp -implicitDefEqProofs (disch := first | with_unfolding_all exact Eq.trans rfl rfl | omega) only [go_sem, seval]
  repeat' ((first | refine st_ rfl ?_ | refine hold_ ?_ | refine cond_ (fun h => ?_) (fun h => ?_) | (refine hKD _ _ ⟨rfl, ?_⟩; clear hKD KD)) <;> try simp -implicitDefEqProofs (disch := first | with_unfolding_all exact Eq.trans rfl rfl | omega) only [go_sem, seval])
  by_cases h0 : l.sure < 0
  · obtain rfl : B = false := by rw [← hB, decide_eq_false (p := 0 ≤ l.sure) (by omega)]; simp
    simp only [decide_eq_true h0]
    try simp -implicitDefEqProofs (disch := first | with_unfolding_all exact Eq.trans rfl rfl | omega) only [go_sem, seval]
    repeat' ((first | refine st_ rfl ?_ | refine hold_ ?_ | refine cond_ (fun h => ?_) (fun h => ?_) | (refine hKD _ _ ⟨rfl, ?_⟩; clear hKD KD)) <;> try simp -implicitDefEqProofs (disch := first | with_unfolding_all exact Eq.trans rfl rfl | omega) only [go_sem, seval])
    first | exact ⟨.inl trivial, id, List.nodup_nil⟩ | exact ⟨.inl trivial, id, rfl, List.nodup_nil⟩
  simp only [decide_eq_false h0]
  try simp -implicitDefEqProofs (disch := first | with_unfolding_all exact Eq.trans rfl rfl | omega) only [go_sem, seval]
  repeat' ((first | refine st_ rfl ?_ | refine hold_ ?_ | refine cond_ (fun h => ?_) (fun h => ?_) | (refine hKD _ _ ⟨rfl, ?_⟩; clear hKD KD)) <;> try simp -implicitDefEqProofs (disch := first | with_unfolding_all exact Eq.trans rfl rfl | omega) only [go_sem, seval])
  · obtain rfl : B = false := by
      have := of_decide_eq_true h
      rw [← hB, decide_eq_false (p := l.sure ≤ l.notes.length) (by omega)]; simp
    first | exact ⟨.inl trivial, id, List.nodup_nil⟩ | exact ⟨.inl trivial, id, rfl, List.nodup_nil⟩
  have h1 : l.sure ≤ l.notes.length := by have := of_decide_eq_false h; omega
  rw [hb, decide_eq_true h1, decide_eq_true (p := 0 ≤ l.sure) (by omega), Bool.true_and, Bool.true_and, Bool.true_and] at hB
  refine AW.loop (fun m : {m : Nat // m ≤ l.notes.length ∧ notesFrom l.base (l.notes.take m) = true} => ⟨[(1, .ip [stI l.base, noI l.notes, .val (.int .i64 l.sure)]), (3, .iv (stI (knownFrom l.base (l.notes.take m.1)))), (4, .val (.int .i64 (m.1 : Nat)))], []⟩) (fun m => l.notes.length - m.1) ⟨0, Nat.zero_le _, rfl⟩ id ⟨⟨rfl, rfl, rfl, trivial⟩, trivial, List.nodup_nil⟩ fun ⟨m, hm, ht⟩ => ?_
  have hsp : ∀ (hlt : m < l.notes.length), l.notes = l.notes.take m ++ l.notes[m] :: l.notes.drop (m + 1) := fun hlt => by rw [← List.drop_eq_getElem_cons hlt, List.take_append_drop]
  clear h
  try simp -implicitDefEqProofs (disch := first | with_unfolding_all exact Eq.trans rfl rfl | omega) only [go_sem, seval]
  repeat' ((first | refine st_ rfl ?_ | refine hold_ ?_ | refine cond_ (fun h => ?_) (fun h => ?_) | (refine hKD _ _ ⟨rfl, ?_⟩; clear hKD KD)) <;> try simp -implicitDefEqProofs (disch := first | with_unfolding_all exact Eq.trans rfl rfl | omega) only [go_sem, seval])
  · have hlt : m < l.notes.length := by simpa using h
    have hs2 : notesFrom l.base l.notes = ((noteFormed l.notes[m] && coversB (knownFrom l.base (l.notes.take m)) l.notes[m].start) && notesFrom (joinS [knownFrom l.base (l.notes.take m), l.notes[m].end_]) (l.notes.drop (m + 1))) := by
      conv => lhs; rw [hsp hlt]
      rw [notesFrom_append, ht, Bool.true_and]; rfl
    refine ⟨by omega, _, get_map (List.getElem?_eq_getElem hlt), ?_⟩
    try simp -implicitDefEqProofs (disch := first | with_unfolding_all exact Eq.trans rfl rfl | omega) only [go_sem, seval]
    repeat' ((first | refine st_ rfl ?_ | refine hold_ ?_ | refine cond_ (fun h => ?_) (fun h => ?_) | (refine hKD _ _ ⟨rfl, ?_⟩; clear hKD KD)) <;> try simp -implicitDefEqProofs (disch := first | with_unfolding_all exact Eq.trans rfl rfl | omega) only [go_sem, seval])
    refine call_ (rnformed_call l.notes[m]) rfl ?_
    cases hf : noteFormed l.notes[m]
    · try simp -implicitDefEqProofs (disch := first | with_unfolding_all exact Eq.trans rfl rfl | omega) only [go_sem, seval]
      repeat' ((first | refine st_ rfl ?_ | refine hold_ ?_ | refine cond_ (fun h => ?_) (fun h => ?_) | (refine hKD _ _ ⟨rfl, ?_⟩; clear hKD KD)) <;> try simp -implicitDefEqProofs (disch := first | with_unfolding_all exact Eq.trans rfl rfl | omega) only [go_sem, seval])
      obtain rfl : B = false := by rw [← hB, hs2, hf]; rfl
      first | exact ⟨.inl trivial, id, List.nodup_nil⟩ | exact ⟨.inl trivial, id, rfl, List.nodup_nil⟩
    try simp -implicitDefEqProofs (disch := first | with_unfolding_all exact Eq.trans rfl rfl | omega) only [go_sem, seval]
    repeat' ((first | refine st_ rfl ?_ | refine hold_ ?_ | refine cond_ (fun h => ?_) (fun h => ?_) | (refine hKD _ _ ⟨rfl, ?_⟩; clear hKD KD)) <;> try simp -implicitDefEqProofs (disch := first | with_unfolding_all exact Eq.trans rfl rfl | omega) only [go_sem, seval])
    refine ⟨by omega, _, get_map (List.getElem?_eq_getElem hlt), ?_⟩
    try simp -implicitDefEqProofs (disch := first | with_unfolding_all exact Eq.trans rfl rfl | omega) only [go_sem, seval]
    repeat' ((first | refine st_ rfl ?_ | refine hold_ ?_ | refine cond_ (fun h => ?_) (fun h => ?_) | (refine hKD _ _ ⟨rfl, ?_⟩; clear hKD KD)) <;> try simp -implicitDefEqProofs (disch := first | with_unfolding_all exact Eq.trans rfl rfl | omega) only [go_sem, seval])
    refine call_ (rnfits_call l.notes[m] _) rfl ?_
    cases hc : coversB (knownFrom l.base (l.notes.take m)) l.notes[m].start
    · try simp -implicitDefEqProofs (disch := first | with_unfolding_all exact Eq.trans rfl rfl | omega) only [go_sem, seval]
      repeat' ((first | refine st_ rfl ?_ | refine hold_ ?_ | refine cond_ (fun h => ?_) (fun h => ?_) | (refine hKD _ _ ⟨rfl, ?_⟩; clear hKD KD)) <;> try simp -implicitDefEqProofs (disch := first | with_unfolding_all exact Eq.trans rfl rfl | omega) only [go_sem, seval])
      obtain rfl : B = false := by rw [← hB, hs2, hf, hc]; rfl
      first | exact ⟨.inl trivial, id, List.nodup_nil⟩ | exact ⟨.inl trivial, id, rfl, List.nodup_nil⟩
    try simp -implicitDefEqProofs (disch := first | with_unfolding_all exact Eq.trans rfl rfl | omega) only [go_sem, seval]
    repeat' ((first | refine st_ rfl ?_ | refine hold_ ?_ | refine cond_ (fun h => ?_) (fun h => ?_) | (refine hKD _ _ ⟨rfl, ?_⟩; clear hKD KD)) <;> try simp -implicitDefEqProofs (disch := first | with_unfolding_all exact Eq.trans rfl rfl | omega) only [go_sem, seval])
    refine ⟨by omega, _, get_map (List.getElem?_eq_getElem hlt), ?_⟩
    try simp -implicitDefEqProofs (disch := first | with_unfolding_all exact Eq.trans rfl rfl | omega) only [go_sem, seval]
    repeat' ((first | refine st_ rfl ?_ | refine hold_ ?_ | refine cond_ (fun h => ?_) (fun h => ?_) | (refine hKD _ _ ⟨rfl, ?_⟩; clear hKD KD)) <;> try simp -implicitDefEqProofs (disch := first | with_unfolding_all exact Eq.trans rfl rfl | omega) only [go_sem, seval])
    refine call_ (rvtwoD (knownFrom l.base (l.notes.take m)) l.notes[m].end_) rfl ?_
    try simp -implicitDefEqProofs (disch := first | with_unfolding_all exact Eq.trans rfl rfl | omega) only [go_sem, seval]
    repeat' ((first | refine st_ rfl ?_ | refine hold_ ?_ | refine cond_ (fun h => ?_) (fun h => ?_) | (refine hKD _ _ ⟨rfl, ?_⟩; clear hKD KD)) <;> try simp -implicitDefEqProofs (disch := first | with_unfolding_all exact Eq.trans rfl rfl | omega) only [go_sem, seval])
    refine ⟨⟨m + 1, hlt, ?_⟩, id, ⟨⟨rfl, ?_, rfl, trivial⟩, trivial, List.nodup_nil⟩, by show l.notes.length - (m + 1) < l.notes.length - m; omega⟩
    · rw [List.take_succ_eq_append_getElem hlt, notesFrom_append, ht, Bool.true_and]
      simp [notesFrom, hf, hc]
    · rw [List.take_succ_eq_append_getElem hlt, knownFrom_snoc]
      rfl
  · have : m = l.notes.length := by simp at h; omega
    subst this
    rw [List.take_length] at ht
    rw [ht] at hB
    subst hB
    first | exact ⟨.inl trivial, id, List.nodup_nil⟩ | exact ⟨.inl trivial, id, rfl, List.nodup_nil⟩
theorem rlsame_call (l : Log) (iS : I64 l.sure) : ACalls Tryz.prog TzTab 18 [logA l, logA l] (.val (.bool true)) [] := by
  refine ACalls.of (n := 24) (rs := [.tmp 4]) Tryz.func18 rfl (by kernel_rfl) Tryz.ntmps18 (by kernel_rfl) (by simp) (fun _ _ => TzTab.later) ?_
  intro hok V w0
  simp -implicitDefEqProofs (disch := first | with_unfolding_all exact Eq.trans rfl rfl | omega) only [go_sem, seval]
  try simp -implicitDefEqProofs (disch := first | with_unfolding_all exact Eq.trans rfl rfl | omega) only [go_sem, seval]
  repeat' ((first | refine st_ rfl ?_ | refine hold_ ?_ | refine cond_ (fun h => ?_) (fun h => ?_) | (refine hKD _ _ ⟨rfl, ?_⟩; clear hKD KD)) <;> try simp -implicitDefEqProofs (disch := first | with_unfolding_all exact Eq.trans rfl rfl | omega) only [go_sem, seval])
  refine call_ (rvsame_call l.base l.base) rfl ?_
  simp only [decide_true]
  try simp -implicitDefEqProofs (disch := first | with_unfolding_all exact Eq.trans rfl rfl | omega) only [go_sem, seval]
  repeat' ((first | refine st_ rfl ?_ | refine hold_ ?_ | refine cond_ (fun h => ?_) (fun h => ?_) | (refine hKD _ _ ⟨rfl, ?_⟩; clear hKD KD)) <;> try simp -implicitDefEqProofs (disch := first | with_unfolding_all exact Eq.trans rfl rfl | omega) only [go_sem, seval])
  refine call_ (rall_call l.notes) rfl ?_
  try simp -implicitDefEqProofs (disch := first | with_unfolding_all exact Eq.trans rfl rfl | omega) only [go_sem, seval]
  repeat' ((first | refine st_ rfl ?_ | refine hold_ ?_ | refine cond_ (fun h => ?_) (fun h => ?_) | (refine hKD _ _ ⟨rfl, ?_⟩; clear hKD KD)) <;> try simp -implicitDefEqProofs (disch := first | with_unfolding_all exact Eq.trans rfl rfl | omega) only [go_sem, seval])
  first | exact ⟨.inl trivial, id, List.nodup_nil⟩ | exact ⟨.inl trivial, id, rfl, List.nodup_nil⟩
set_option maxHeartbeats 1600000 in
set_option maxRecDepth 100000 in
theorem rlcopy_call (l : Log) (iS : I64 l.sure) : ACalls Tryz.prog TzTab 14 [logA l] (logA l) [] := by
  refine ACalls.of (n := 30) (rs := [.cell 2 42]) Tryz.func14 rfl (by kernel_rfl) Tryz.ntmps14 (by kernel_rfl) (by simp) (fun _ _ => TzTab.later) ?_
  intro hok V w0
  have hlen : l.notes.length ≤ 1073741824 := by simpa using hok.1.2.1.1
  simp -implicitDefEqProofs (disch := first | with_unfolding_all exact Eq.trans rfl rfl | omega) only [go_sem, seval]
  refine AW.seq ?_
  refine AW.reg rfl fun KK hKK => ?_
  try simp -implicitDefEqProofs (disch := first | with_unfolding_all exact Eq.trans rfl rfl | omega) only [go_sem, seval]
  repeat' ((first | refine hold_ ?_ | (refine hKK _ ?_; clear hKK KK)) <;> try simp -implicitDefEqProofs (disch := first | with_unfolding_all exact Eq.trans rfl rfl | omega) only [go_sem, seval])
  refine AW.freeze 200 _ rfl ⟨trivial, trivial, iS, trivial⟩ ?_
  simp only [go_sem, reduceIte, Nat.reduceEqDiff]
  try simp -implicitDefEqProofs (disch := first | with_unfolding_all exact Eq.trans rfl rfl | omega) only [go_sem, seval]
  repeat' ((first | refine st_ rfl ?_ | refine hold_ ?_ | refine cond_ (fun h => ?_) (fun h => ?_) | (refine hKD _ _ ⟨rfl, ?_⟩; clear hKD KD)) <;> try simp -implicitDefEqProofs (disch := first | with_unfolding_all exact Eq.trans rfl rfl | omega) only [go_sem, seval])
  refine AW.drawn (ds := [5, 6, 7, 8, 9, 10, 3]) (fin := [0, 2]) (bs := [1, 1, 1, 1, 1, 1, 1, 2]) [⟨[], [], [], [], 0⟩, ⟨[(5, 0)], [], [0], [], 0⟩, ⟨[(6, 1)], [], [0], [], 0⟩, ⟨[], [], [], [], 0⟩, ⟨[(8, 3)], [], [0], [], 0⟩, ⟨[(7, 2), (9, 4)], [], [], [], 0⟩, ⟨[], [], [], [], 1⟩, ⟨[(3, 6), (10, 5)], [], [], [1], 1⟩] (by kernel_rfl) rfl (by kernel_rfl) rfl rfl rfl fun KD hKD => ?_
  try simp -implicitDefEqProofs (disch := first | with_unfolding_all exact Eq.trans rfl rfl | omega) only [go_sem, seval]
  repeat' ((first | refine hold_ ?_ | (refine hKD _ _ ⟨rfl, ?_⟩; clear hKD KD)) <;> try simp -implicitDefEqProofs (disch := first | with_unfolding_all exact Eq.trans rfl rfl | omega) only [go_sem, seval])
  refine call_ (rvcopyD l.base) rfl ?_
  try simp -implicitDefEqProofs (disch := first | with_unfolding_all exact Eq.trans rfl rfl | omega) only [go_sem, seval]
  repeat' ((first | refine hold_ ?_ | (refine hKD _ _ ⟨rfl, ?_⟩; clear hKD KD)) <;> try simp -implicitDefEqProofs (disch := first | with_unfolding_all exact Eq.trans rfl rfl | omega) only [go_sem, seval])
  try simp -implicitDefEqProofs (disch := first | with_unfolding_all exact Eq.trans rfl rfl | omega) only [go_sem, seval]
  repeat' ((first | refine st_ rfl ?_ | refine hold_ ?_ | refine cond_ (fun h => ?_) (fun h => ?_) | (refine hKD _ _ ⟨rfl, ?_⟩; clear hKD KD)) <;> try simp -implicitDefEqProofs (disch := first | with_unfolding_all exact Eq.trans rfl rfl | omega) only [go_sem, seval])
  refine AW.adoptC 400 1 9900 79 4 rfl rfl rfl ?_
  refine AW.loop (fun m : {m : Nat // m ≤ l.notes.length} => ⟨[(1, .ip [stI l.base, noI l.notes, .val (.int .i64 l.sure)]), (2, .bp 300 0), (3, .bp 400 0), (4, .val (.int .i64 (m.1 : Nat)))], [.row 9900 79 4 ((l.notes.take m.1).map enN), .box 400 [.iv (stI l.base), .own 9900, .val (.int .i64 l.sure)], .box 300 [.val (.slice none 0 0), .val (.slice none 0 0), .val (.int .i64 0)]]⟩) (fun m => l.notes.length - m.1) ⟨0, Nat.zero_le _⟩ id ⟨⟨rfl, rfl, rfl, rfl, trivial⟩, ⟨rfl, rfl, rfl, trivial⟩, by simp [idsOf, BA.id]⟩ fun ⟨m, hm⟩ => ?_
  repeat (refine AW.seq ?_)
  refine AW.reg rfl fun KK hKK => ?_
  try simp -implicitDefEqProofs (disch := first | with_unfolding_all exact Eq.trans rfl rfl | omega) only [go_sem, seval]
  repeat' ((first | refine hold_ ?_ | (refine hKK _ ?_; clear hKK KK)) <;> try simp -implicitDefEqProofs (disch := first | with_unfolding_all exact Eq.trans rfl rfl | omega) only [go_sem, seval])
  repeat (refine AW.seq ?_)
  refine st_ rfl ?_
  simp -implicitDefEqProofs (disch := first | with_unfolding_all exact Eq.trans rfl rfl | omega) only [go_sem, seval]
  refine cond_ (fun h => ?_) (fun h => ?_)
  · try simp -implicitDefEqProofs (disch := first | with_unfolding_all exact Eq.trans rfl rfl | omega) only [go_sem, seval]
    repeat' ((first | refine st_ rfl ?_ | refine hold_ ?_ | refine cond_ (fun h => ?_) (fun h => ?_) | (refine hKD _ _ ⟨rfl, ?_⟩; clear hKD KD)) <;> try simp -implicitDefEqProofs (disch := first | with_unfolding_all exact Eq.trans rfl rfl | omega) only [go_sem, seval])
    have hlt : m < l.notes.length := by simpa using h
    refine AW.drawn (ds := [18, 19, 20, 21, 22, 23, 24, 25, 26, 27, 28]) (fin := [2, 3, 4, 5]) (bs := [3, 3, 3, 3, 3, 3, 3, 3, 3, 4, 5, 5]) [⟨[], [], [], [], 0⟩, ⟨[(18, 0)], [], [0, 1, 2], [], 0⟩, ⟨[], [], [], [], 0⟩, ⟨[(20, 2)], [], [0, 1, 2], [], 0⟩, ⟨[], [], [], [], 0⟩, ⟨[(21, 3), (22, 4)], [], [0, 1, 2], [], 0⟩, ⟨[(23, 5)], [], [0, 1, 2], [], 0⟩, ⟨[(24, 6)], [], [0, 1, 2], [], 0⟩, ⟨[(25, 7)], [], [], [], 1⟩, ⟨[(19, 1), (26, 8)], [], [1, 2, 3], [0], 1⟩, ⟨[], [], [], [], 0⟩, ⟨[(28, 10), (27, 9)], [], [], [1], 1⟩] (by kernel_rfl) rfl (by kernel_rfl) rfl rfl rfl fun KD hKD => ?_
    try simp -implicitDefEqProofs (disch := first | with_unfolding_all exact Eq.trans rfl rfl | omega) only [go_sem, seval]
    repeat' ((first | refine hold_ ?_ | (refine hKD _ _ ⟨rfl, ?_⟩; clear hKD KD)) <;> try simp -implicitDefEqProofs (disch := first | with_unfolding_all exact Eq.trans rfl rfl | omega) only [go_sem, seval])
    refine ⟨by omega, _, get_map (List.getElem?_eq_getElem hlt), ?_⟩
    try simp -implicitDefEqProofs (disch := first | with_unfolding_all exact Eq.trans rfl rfl | omega) only [go_sem, seval]
    repeat' ((first | refine hold_ ?_ | (refine hKD _ _ ⟨rfl, ?_⟩; clear hKD KD)) <;> try simp -implicitDefEqProofs (disch := first | with_unfolding_all exact Eq.trans rfl rfl | omega) only [go_sem, seval])
    refine call_ (rncopy_call l.notes[m]) rfl ?_
    try simp -implicitDefEqProofs (disch := first | with_unfolding_all exact Eq.trans rfl rfl | omega) only [go_sem, seval]
    repeat' ((first | refine hold_ ?_ | (refine hKD _ _ ⟨rfl, ?_⟩; clear hKD KD)) <;> try simp -implicitDefEqProofs (disch := first | with_unfolding_all exact Eq.trans rfl rfl | omega) only [go_sem, seval])
    refine bs1 (by omega) rfl rfl rfl ⟨trivial, trivial, trivial, trivial, trivial⟩ ?_
    try simp -implicitDefEqProofs (disch := first | with_unfolding_all exact Eq.trans rfl rfl | omega) only [go_sem, seval]
    repeat' ((first | refine hold_ ?_ | (refine hKD _ _ ⟨rfl, ?_⟩; clear hKD KD)) <;> try simp -implicitDefEqProofs (disch := first | with_unfolding_all exact Eq.trans rfl rfl | omega) only [go_sem, seval])
    refine append_own rfl (by kernel_rfl) (by omega) (by kernel_rfl) rfl (by simp; omega) ?_
    try simp -implicitDefEqProofs (disch := first | with_unfolding_all exact Eq.trans rfl rfl | omega) only [go_sem, seval]
    repeat' ((first | refine hold_ ?_ | (refine hKD _ _ ⟨rfl, ?_⟩; clear hKD KD)) <;> try simp -implicitDefEqProofs (disch := first | with_unfolding_all exact Eq.trans rfl rfl | omega) only [go_sem, seval])
    try simp -implicitDefEqProofs (disch := first | with_unfolding_all exact Eq.trans rfl rfl | omega) only [go_sem, seval]
    repeat' ((first | refine st_ rfl ?_ | refine hold_ ?_ | refine cond_ (fun h => ?_) (fun h => ?_) | (refine hKD _ _ ⟨rfl, ?_⟩; clear hKD KD)) <;> try simp -implicitDefEqProofs (disch := first | with_unfolding_all exact Eq.trans rfl rfl | omega) only [go_sem, seval])
    refine ⟨⟨m + 1, hlt⟩, fun b => if b = 9900 then 2800 else b, ⟨⟨rfl, rfl, rfl, rfl, trivial⟩, ⟨?_, rfl, rfl, trivial⟩, by simp [idsOf, BA.id]⟩, by show l.notes.length - (m + 1) < l.notes.length - m; omega⟩
    rw [List.take_succ_eq_append_getElem hlt, List.map_append]
    rfl
  · obtain rfl : m = l.notes.length := by simp at h; omega
    refine AW.freeze 9900 _ rfl trivial ?_
    simp only [go_sem, reduceIte, Nat.reduceEqDiff]
    try simp -implicitDefEqProofs (disch := first | with_unfolding_all exact Eq.trans rfl rfl | omega) only [go_sem, seval]
    repeat' ((first | refine st_ rfl ?_ | refine hold_ ?_ | refine cond_ (fun h => ?_) (fun h => ?_) | (refine hKD _ _ ⟨rfl, ?_⟩; clear hKD KD)) <;> try simp -implicitDefEqProofs (disch := first | with_unfolding_all exact Eq.trans rfl rfl | omega) only [go_sem, seval])
    rw [List.take_length]
    first | exact ⟨.inl trivial, id, List.nodup_nil⟩ | exact ⟨.inl trivial, id, rfl, List.nodup_nil⟩
end Go.Proofs.YtdbeoigbkkdpdaaGreatDoor
