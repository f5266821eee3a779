/- Logs: walked, checked. -/
import Derived.Test.YtdbeoigbkkdpdaaGreatDoorPBridge
import Derived.Test.YtdbeoigbkkdpdaaGreatDoorPStreamArgs
set_option linter.all false
set_option linter.unnecessarySimpa false
set_option linter.unusedSimpArgs false
set_option linter.unusedVariables false
namespace Go.Proofs.YtdbeoigbkkdpdaaGreatDoor
open Go.ChangeShapes Go.WideShapes Go.ChangeAt Go.RowKit
attribute [local irreducible] AW AWY vops vopsY vop vopL vdraw callW qop binQ lenQ storeQ appendQ callQ ACalls AIter

@[go_sem] theorem nrm_st (l : List Stamp) : nrm (.iv (stI l)) = .iv (stI l) := rfl
@[go_sem] theorem nrm_sp (l : List Span) : nrm (.iv (spI l)) = .iv (spI l) := rfl
@[go_sem] theorem nrm_wr (l : List Write) : nrm (.iv (wrI l)) = .iv (wrI l) := rfl
theorem noteA_eq (x : Note) : noteA x = .agg [.iv (stI x.start), .iv (stI x.end_), .iv (spI x.blur), .iv (wrI x.writes)] := rfl
theorem noI_eq (l : List Note) : noI l = .sl 4 (l.map enN) := rfl
theorem wrI_eq (l : List Write) : wrI l = .sl 4 (l.map enW) := rfl
theorem flat_row {i e k : Nat} {l : List (List IV)} (h : ∀ cs ∈ l, ∀ x ∈ cs, ∃ v, x = .val v) : flatB [.row i e k l] := fun b hb => by
  rw [List.mem_singleton.1 hb]
  exact ⟨i, e, k, l, rfl, h⟩
theorem flat_st (l : List Stamp) : ∀ cs ∈ l.map enSt, ∀ x ∈ cs, ∃ v, x = IV.val v := fun cs hcs x hx => by
  obtain ⟨s, _, rfl⟩ := List.mem_map.1 hcs
  simp [enSt] at hx
  rcases hx with rfl | rfl <;> exact ⟨_, rfl⟩
theorem flat_sp (l : List Span) : ∀ cs ∈ l.map enSp, ∀ x ∈ cs, ∃ v, x = IV.val v := fun cs hcs x hx => by
  obtain ⟨s, _, rfl⟩ := List.mem_map.1 hcs
  simp [enSp] at hx
  rcases hx with rfl | rfl <;> exact ⟨_, rfl⟩
attribute [local go_sem] noI_eq enN_eq logA_eq noteA_eq storeQ_bp storeQ_rp
set_option maxHeartbeats 1600000 in
set_option maxRecDepth 100000 in
theorem lwalk_call (l : Log) (iS : I64 l.sure) : ACalls Tryz.prog TzTab 84 [logA l] (.tup [.any, .val (.bool (logFormed l))]) [] := by
  refine ACalls.ofS (n := 49) (rs := [.tmp 2, .tmp 3]) Tryz.func84 rfl (by kernel_rfl) Tryz.ntmps84 (by kernel_rfl) (by simp) (fun _ _ => TzTab.later) ?_
  intro hok V w0
  have hlen : l.notes.length ≤ 1073741824 := by simpa using hok.1.2.1.1
  obtain ⟨B, hB⟩ : ∃ B, logFormed l = B := ⟨_, rfl⟩
  rw [hB]
  rw [logFormed_join] at hB
  simp -implicitDefEqProofs (disch := first | with_unfolding_all exact Eq.trans rfl rfl | omega) only [go_sem, seval]
  refine AW.seq ?_
  refine AW.reg rfl fun KK hKK => ?_
  try simp -implicitDefEqProofs (disch := first | with_unfolding_all exact Eq.trans rfl rfl | omega) only [go_sem, seval]
  repeat' ((first | refine hold_ ?_ | (refine hKK _ ?_; clear hKK KK)) <;> try simp -implicitDefEqProofs (disch := first | with_unfolding_all exact Eq.trans rfl rfl | omega) only [go_sem, seval])
  refine AW.freeze 200 _ rfl ⟨trivial, trivial, iS, trivial⟩ ?_
  simp only [go_sem, reduceIte]
  try simp -implicitDefEqProofs (disch := first | with_unfolding_all exact Eq.trans rfl rfl | omega) only [go_sem, seval]
  repeat' ((first | refine st_ rfl ?_ | refine hold_ ?_ | refine cond_ (fun h => ?_) (fun h => ?_) | (refine hKD _ _ ⟨rfl, ?_⟩; clear hKD KD)) <;> try simp -implicitDefEqProofs (disch := first | with_unfolding_all exact Eq.trans rfl rfl | omega) only [go_sem, seval])
  refine bs1 (by omega) rfl rfl rfl ⟨trivial, trivial⟩ ?_
  try simp -implicitDefEqProofs (disch := first | with_unfolding_all exact Eq.trans rfl rfl | omega) only [go_sem, seval]
  repeat' ((first | refine st_ rfl ?_ | refine hold_ ?_ | refine cond_ (fun h => ?_) (fun h => ?_) | (refine hKD _ _ ⟨rfl, ?_⟩; clear hKD KD)) <;> try simp -implicitDefEqProofs (disch := first | with_unfolding_all exact Eq.trans rfl rfl | omega) only [go_sem, seval])
  refine call_l (vjoin_call [l.base]) (by trivial) rfl (flat_row (flat_st _)) (by exact Sbs.rfl_ _) rfl ?_
  try simp -implicitDefEqProofs (disch := first | with_unfolding_all exact Eq.trans rfl rfl | omega) only [go_sem, seval]
  repeat' ((first | refine hold_ ?_ | (refine hKK _ ?_; clear hKK KK)) <;> try simp -implicitDefEqProofs (disch := first | with_unfolding_all exact Eq.trans rfl rfl | omega) only [go_sem, seval])
  refine AW.freeze 1000 _ rfl trivial ?_
  simp only [go_sem, reduceIte]
  try simp -implicitDefEqProofs (disch := first | with_unfolding_all exact Eq.trans rfl rfl | omega) only [go_sem, seval]
  repeat' ((first | refine st_ rfl ?_ | refine hold_ ?_ | refine cond_ (fun h => ?_) (fun h => ?_) | (refine hKD _ _ ⟨rfl, ?_⟩; clear hKD KD)) <;> try simp -implicitDefEqProofs (disch := first | with_unfolding_all exact Eq.trans rfl rfl | omega) only [go_sem, seval])
  refine AW.loop (fun m : {m : Nat // m ≤ l.notes.length ∧ notesFrom (joinS [l.base]) (l.notes.take m) = true} => ⟨[(1, .ip [stI l.base, noI l.notes, .val (.int .i64 l.sure)]), (2, .iv (stI (knownFrom (joinS [l.base]) (l.notes.take m.1)))), (11, .iv (noI l.notes)), (12, .val (.int .i64 (l.notes.length : Nat))), (13, .val (.int .i64 m.1))], []⟩) (fun m => l.notes.length - m.1) ⟨0, Nat.zero_le _, rfl⟩ id (by simp [LeS, go_sem, knownFrom, stI, noI]) fun ⟨m, hm, ht⟩ => ?_
  have hsp : ∀ (hlt : m < l.notes.length), l.notes = l.notes.take m ++ l.notes[m] :: l.notes.drop (m + 1) := fun hlt => by rw [← List.drop_eq_getElem_cons hlt, List.take_append_drop]
  try simp -implicitDefEqProofs (disch := first | with_unfolding_all exact Eq.trans rfl rfl | omega) only [go_sem, seval]
  repeat' ((first | refine st_ rfl ?_ | refine hold_ ?_ | refine cond_ (fun h => ?_) (fun h => ?_) | (refine hKD _ _ ⟨rfl, ?_⟩; clear hKD KD)) <;> try simp -implicitDefEqProofs (disch := first | with_unfolding_all exact Eq.trans rfl rfl | omega) only [go_sem, seval])
  · have hlt : m < l.notes.length := by simpa using h
    have hs2 : notesFrom (joinS [l.base]) l.notes = ((noteFormed l.notes[m] && coversB (knownFrom (joinS [l.base]) (l.notes.take m)) l.notes[m].start) && notesFrom (joinS [knownFrom (joinS [l.base]) (l.notes.take m), l.notes[m].end_]) (l.notes.drop (m + 1))) := by
      conv => lhs; rw [hsp hlt]
      rw [notesFrom_append, ht, Bool.true_and]; rfl
    refine ⟨by omega, _, get_map (List.getElem?_eq_getElem hlt), ?_⟩
    try simp -implicitDefEqProofs (disch := first | with_unfolding_all exact Eq.trans rfl rfl | omega) only [go_sem, seval]
    repeat' ((first | refine st_ rfl ?_ | refine hold_ ?_ | refine cond_ (fun h => ?_) (fun h => ?_) | (refine hKD _ _ ⟨rfl, ?_⟩; clear hKD KD)) <;> try simp -implicitDefEqProofs (disch := first | with_unfolding_all exact Eq.trans rfl rfl | omega) only [go_sem, seval])
    refine call_ (nformed_call l.notes[m]) rfl ?_
    cases hf : noteFormed l.notes[m]
    · try simp -implicitDefEqProofs (disch := first | with_unfolding_all exact Eq.trans rfl rfl | omega) only [go_sem, seval]
      repeat' ((first | refine st_ rfl ?_ | refine hold_ ?_ | refine cond_ (fun h => ?_) (fun h => ?_) | (refine hKD _ _ ⟨rfl, ?_⟩; clear hKD KD)) <;> try simp -implicitDefEqProofs (disch := first | with_unfolding_all exact Eq.trans rfl rfl | omega) only [go_sem, seval])
      obtain rfl : B = false := by rw [← hB, hs2, hf]; rfl
      exact ⟨.inl trivial, id, tup_any1, List.nodup_nil⟩
    try simp -implicitDefEqProofs (disch := first | with_unfolding_all exact Eq.trans rfl rfl | omega) only [go_sem, seval]
    repeat' ((first | refine st_ rfl ?_ | refine hold_ ?_ | refine cond_ (fun h => ?_) (fun h => ?_) | (refine hKD _ _ ⟨rfl, ?_⟩; clear hKD KD)) <;> try simp -implicitDefEqProofs (disch := first | with_unfolding_all exact Eq.trans rfl rfl | omega) only [go_sem, seval])
    refine call_ (nfits_call l.notes[m] _) rfl ?_
    cases hc : coversB (knownFrom (joinS [l.base]) (l.notes.take m)) l.notes[m].start
    · try simp -implicitDefEqProofs (disch := first | with_unfolding_all exact Eq.trans rfl rfl | omega) only [go_sem, seval]
      repeat' ((first | refine st_ rfl ?_ | refine hold_ ?_ | refine cond_ (fun h => ?_) (fun h => ?_) | (refine hKD _ _ ⟨rfl, ?_⟩; clear hKD KD)) <;> try simp -implicitDefEqProofs (disch := first | with_unfolding_all exact Eq.trans rfl rfl | omega) only [go_sem, seval])
      obtain rfl : B = false := by rw [← hB, hs2, hf, hc]; rfl
      exact ⟨.inl trivial, id, tup_any1, List.nodup_nil⟩
    try simp -implicitDefEqProofs (disch := first | with_unfolding_all exact Eq.trans rfl rfl | omega) only [go_sem, seval]
    repeat' ((first | refine st_ rfl ?_ | refine hold_ ?_ | refine cond_ (fun h => ?_) (fun h => ?_) | (refine hKD _ _ ⟨rfl, ?_⟩; clear hKD KD)) <;> try simp -implicitDefEqProofs (disch := first | with_unfolding_all exact Eq.trans rfl rfl | omega) only [go_sem, seval])
    refine bs2 (by omega) rfl rfl rfl ⟨trivial, trivial⟩ rfl rfl rfl ⟨trivial, trivial⟩ ?_
    try simp -implicitDefEqProofs (disch := first | with_unfolding_all exact Eq.trans rfl rfl | omega) only [go_sem, seval]
    repeat' ((first | refine st_ rfl ?_ | refine hold_ ?_ | refine cond_ (fun h => ?_) (fun h => ?_) | (refine hKD _ _ ⟨rfl, ?_⟩; clear hKD KD)) <;> try simp -implicitDefEqProofs (disch := first | with_unfolding_all exact Eq.trans rfl rfl | omega) only [go_sem, seval])
    refine call_l (vjoin_call [knownFrom (joinS [l.base]) (l.notes.take m), l.notes[m].end_]) (by simp [okBk, okAs, okA]) rfl (flat_row (flat_st _)) (by exact Sbs.rfl_ _) rfl ?_
    try simp -implicitDefEqProofs (disch := first | with_unfolding_all exact Eq.trans rfl rfl | omega) only [go_sem, seval]
    repeat' ((first | refine hold_ ?_ | (refine hKK _ ?_; clear hKK KK)) <;> try simp -implicitDefEqProofs (disch := first | with_unfolding_all exact Eq.trans rfl rfl | omega) only [go_sem, seval])
    refine AW.freeze 3100 _ rfl trivial ?_
    simp only [go_sem, reduceIte]
    try simp -implicitDefEqProofs (disch := first | with_unfolding_all exact Eq.trans rfl rfl | omega) only [go_sem, seval]
    repeat' ((first | refine st_ rfl ?_ | refine hold_ ?_ | refine cond_ (fun h => ?_) (fun h => ?_) | (refine hKD _ _ ⟨rfl, ?_⟩; clear hKD KD)) <;> try simp -implicitDefEqProofs (disch := first | with_unfolding_all exact Eq.trans rfl rfl | omega) only [go_sem, seval])
    refine ⟨⟨m + 1, hlt, ?_⟩, id, ?_, ?_⟩
    · rw [List.take_succ_eq_append_getElem hlt, notesFrom_append, ht, Bool.true_and]
      simp [notesFrom, hf, hc]
    · refine ⟨⟨rfl, ?_, rfl, rfl, rfl, trivial⟩, trivial, List.nodup_nil⟩
      rw [List.take_succ_eq_append_getElem hlt, knownFrom_snoc]
      rfl
    · simp; omega
  · have : m = l.notes.length := by simp at h; omega
    subst this
    refine AW.drawn (ds := [32, 33, 34, 35, 36, 37, 38, 39, 40, 41, 42, 43, 44, 45, 46, 47, 48, 2, 3]) (fin := []) (bs := [0, 0, 0, 0, 0, 0, 0, 0, 0, 0, 0, 0, 0, 0, 0, 0, 0, 0, 0]) [⟨[], [2], [], [], 0⟩, ⟨[], [], [], [], 0⟩, ⟨[(33, 1)], [], [], [], 0⟩, ⟨[(34, 2)], [], [], [], 0⟩, ⟨[(35, 3)], [], [], [], 0⟩, ⟨[], [], [], [], 0⟩, ⟨[(37, 5)], [], [], [], 0⟩, ⟨[(38, 6)], [], [], [], 0⟩, ⟨[(36, 4), (39, 7)], [], [], [], 0⟩, ⟨[(40, 8)], [], [], [], 0⟩, ⟨[], [], [], [], 0⟩, ⟨[(42, 10)], [], [], [], 0⟩, ⟨[], [], [], [], 0⟩, ⟨[(44, 12)], [], [], [], 0⟩, ⟨[(45, 13)], [], [], [], 0⟩, ⟨[(43, 11), (46, 14)], [], [], [], 0⟩, ⟨[(41, 9), (47, 15)], [], [], [], 0⟩, ⟨[(32, 0)], [], [], [], 0⟩, ⟨[(48, 16)], [], [], [], 0⟩] (by kernel_rfl) rfl (by kernel_rfl) rfl rfl rfl fun KD hKD => ?_
    try simp -implicitDefEqProofs (disch := first | with_unfolding_all exact Eq.trans rfl rfl | omega) only [go_sem, seval]
    repeat' ((first | refine st_ rfl ?_ | refine hold_ ?_ | refine cond_ (fun h => ?_) (fun h => ?_) | (refine hKD _ _ ⟨rfl, ?_⟩; clear hKD KD)) <;> try simp -implicitDefEqProofs (disch := first | with_unfolding_all exact Eq.trans rfl rfl | omega) only [go_sem, seval])
    refine call_ (vformed_call l.base) rfl ?_
    cases hb : vecFormed l.base
    · try simp -implicitDefEqProofs (disch := first | with_unfolding_all exact Eq.trans rfl rfl | omega) only [go_sem, seval]
      repeat' ((first | refine st_ rfl ?_ | refine hold_ ?_ | refine cond_ (fun h => ?_) (fun h => ?_) | (refine hKD _ _ ⟨rfl, ?_⟩; clear hKD KD)) <;> try simp -implicitDefEqProofs (disch := first | with_unfolding_all exact Eq.trans rfl rfl | omega) only [go_sem, seval])
      obtain rfl : B = false := by rw [← hB, hb, Bool.false_and, Bool.and_false]
      exact ⟨.inl trivial, id, tup_any1, List.nodup_nil⟩
    rw [List.take_length] at ht
    rw [ht, hb, Bool.true_and, Bool.true_and] at hB
    by_cases h0 : 0 ≤ l.sure
    · have d0 : decide ((0 : Int) ≤ l.sure) = true := decide_eq_true h0
      try simp -implicitDefEqProofs (disch := first | with_unfolding_all exact Eq.trans rfl rfl | omega) only [go_sem, seval]
      repeat' ((first | refine st_ rfl ?_ | refine hold_ ?_ | refine cond_ (fun h => ?_) (fun h => ?_) | (refine hKD _ _ ⟨rfl, ?_⟩; clear hKD KD)) <;> try simp -implicitDefEqProofs (disch := first | with_unfolding_all exact Eq.trans rfl rfl | omega) only [go_sem, seval])
      simp only [d0]
      try simp -implicitDefEqProofs (disch := first | with_unfolding_all exact Eq.trans rfl rfl | omega) only [go_sem, seval]
      repeat' ((first | refine st_ rfl ?_ | refine hold_ ?_ | refine cond_ (fun h => ?_) (fun h => ?_) | (refine hKD _ _ ⟨rfl, ?_⟩; clear hKD KD)) <;> try simp -implicitDefEqProofs (disch := first | with_unfolding_all exact Eq.trans rfl rfl | omega) only [go_sem, seval])
      obtain rfl : B = decide (l.sure ≤ (l.notes.length : Nat)) := by rw [← hB, sureB, d0, Bool.true_and]
      exact ⟨.inl trivial, id, tup_any1, List.nodup_nil⟩
    · have d0 : decide ((0 : Int) ≤ l.sure) = false := decide_eq_false h0
      try simp -implicitDefEqProofs (disch := first | with_unfolding_all exact Eq.trans rfl rfl | omega) only [go_sem, seval]
      repeat' ((first | refine st_ rfl ?_ | refine hold_ ?_ | refine cond_ (fun h => ?_) (fun h => ?_) | (refine hKD _ _ ⟨rfl, ?_⟩; clear hKD KD)) <;> try simp -implicitDefEqProofs (disch := first | with_unfolding_all exact Eq.trans rfl rfl | omega) only [go_sem, seval])
      simp only [d0]
      try simp -implicitDefEqProofs (disch := first | with_unfolding_all exact Eq.trans rfl rfl | omega) only [go_sem, seval]
      repeat' ((first | refine st_ rfl ?_ | refine hold_ ?_ | refine cond_ (fun h => ?_) (fun h => ?_) | (refine hKD _ _ ⟨rfl, ?_⟩; clear hKD KD)) <;> try simp -implicitDefEqProofs (disch := first | with_unfolding_all exact Eq.trans rfl rfl | omega) only [go_sem, seval])
      obtain rfl : B = false := by rw [← hB, sureB, d0, Bool.false_and]
      exact ⟨.inl trivial, id, tup_any1, List.nodup_nil⟩
theorem clonestD (l : List Stamp) : ACalls Tryz.prog TzTab 96 [.iv (stI l)] (.iv (stI l)) [] := (clonest_call l).frz trivial
theorem clonespD (l : List Span) : ACalls Tryz.prog TzTab 28 [.iv (spI l)] (.iv (spI l)) [] := (clonesp_call l).frz trivial
theorem clonewD (l : List Write) : ACalls Tryz.prog TzTab 168 [.iv (wrI l)] (.iv (wrI l)) [] := (clonew_call l).frz trivial
end Go.Proofs.YtdbeoigbkkdpdaaGreatDoor
