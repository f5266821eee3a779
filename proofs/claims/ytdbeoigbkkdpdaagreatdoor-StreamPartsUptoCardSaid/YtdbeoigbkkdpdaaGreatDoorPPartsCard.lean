/- The law StreamParts: batches one after the other come to the end, each full but the last; of logs of up to 60 notes. The card (second form: of bulk at most 1048576). -/
import Derived.Test.YtdbeoigbkkdpdaaGreatDoorPBatch
import Derived.Test.YtdbeoigbkkdpdaaGreatDoorPAbsApp
import Derived.Test.YtdbeoigbkkdpdaaGreatDoorPLogWalk
import Derived.Test.YtdbeoigbkkdpdaaGreatDoorPRead
import Derived.Test.YtdbeoigbkkdpdaaGreatDoorCards
import Derived.Test.YtdbeoigbkkdpdaaGreatDoorTie
import Derived.Lib.LaidTab
import Derived.Deep.DeepWitnessRowRef
import Derived.Lib.SmallJoins
import Derived.Test.YtdbeoigbkkdpdaaGreatDoorPStreamArgs
set_option linter.all false
set_option linter.unnecessarySimpa false
set_option linter.unusedSimpArgs false
set_option linter.unusedVariables false
/- The fixed fact that the streams' laws ask first. -/
namespace Go.Proofs.YtdbeoigbkkdpdaaGreatDoor
open Go.ChangeShapes Go.WideShapes Go.ChangeAt Go.RowKit
theorem sl_sub {k : Nat} {l l' : List (List IV)} (hl : l'.length = l.length) (h : ∀ (i : Nat) cs cs', l[i]? = some cs → l'[i]? = some cs' → cs'.length = cs.length ∧ ∀ (j : Nat) u u', cs[j]? = some u → cs'[j]? = some u' → ∀ (X : World) (v : Value), RepV X v u → RepV X v u') : Sub1 (.iv (.sl k l)) (.iv (.sl k l')) := fun E X v hv => by
  cases hv with
  | iv hv =>
    obtain ⟨A, c, rfl, h1, h3, h4⟩ := hv.to_sl
    refine .iv (RepV.of_sl ⟨A, c, by rw [hl], by rw [hl]; exact h1, h3, fun hne => ?_⟩)
    obtain ⟨b, off, rfl, hb, h5⟩ := h4 (fun e => hne (List.length_eq_zero_iff.1 (by rw [hl, e]; rfl)))
    refine ⟨b, off, rfl, hb, fun i cs' hi => ?_⟩
    have hi2 := (List.getElem?_eq_some_iff.1 hi).1
    rw [hl] at hi2
    obtain ⟨vs, a1, a2, a3⟩ := h5 i _ (List.getElem?_eq_getElem hi2)
    obtain ⟨g1, g2⟩ := h i _ cs' (List.getElem?_eq_getElem hi2) hi
    refine ⟨vs, RepVs.of (by rw [a1.len, g1]) fun j v u' e1 e2 => ?_, a2, a3⟩
    have hj := (List.getElem?_eq_some_iff.1 e1).1
    rw [a1.len] at hj
    exact g2 j _ u' (List.getElem?_eq_getElem hj) e2 X v (a1.get e1 (List.getElem?_eq_getElem hj))
theorem iv_nil (k : Nat) (X : World) (v : Value) (h : RepV X v (.val (.slice none 0 0))) : RepV X v (.sl k []) := by
  cases h; exact .nil (by unfold maxLen; omega)
def logX : Log := ⟨[], [⟨[], [⟨1, 0⟩], [], [⟨⟨1, 0⟩, 7, false⟩]⟩, ⟨[⟨1, 0⟩], [⟨2, 0⟩], [], [⟨⟨2, 0⟩, 8, false⟩]⟩], 2⟩
def noteX : Note := ⟨[], [⟨2, 0⟩], [⟨7, 8⟩], []⟩
theorem batchX : batchS logX 0 [⟨0, 3⟩] 8 = ([noteX], 2, 0) := by kernel_rfl
/-- the rows of the literal log, as its notes -/
theorem rowsX : Sub1 (.iv (.sl 4 [[.val (.slice none 0 0), .sl 2 [[.val (.int .i64 1), .val (.int .i64 0)]], .val (.slice none 0 0), .sl 4 [[.val (.int .i64 1), .val (.int .i64 0), .val (.int .i64 7), .val (.bool false)]]],
    [.sl 2 [[.val (.int .i64 1), .val (.int .i64 0)]], .sl 2 [[.val (.int .i64 2), .val (.int .i64 0)]], .val (.slice none 0 0), .sl 4 [[.val (.int .i64 2), .val (.int .i64 0), .val (.int .i64 8), .val (.bool false)]]]])) (.iv (noI logX.notes)) :=
  sl_sub rfl fun i cs cs' h1 h2 => by
    match i, h1, h2 with
    | 0, h1, h2 =>
      obtain rfl := Option.some.inj h1
      obtain rfl := Option.some.inj h2
      refine ⟨rfl, fun j u u' a b => ?_⟩
      match j, a, b with
      | 0, a, b => obtain rfl := Option.some.inj a; obtain rfl := Option.some.inj b; exact iv_nil 2
      | 1, a, b => obtain rfl := Option.some.inj a; obtain rfl := Option.some.inj b; exact fun _ _ h => h
      | 2, a, b => obtain rfl := Option.some.inj a; obtain rfl := Option.some.inj b; exact iv_nil 2
      | 3, a, b => obtain rfl := Option.some.inj a; obtain rfl := Option.some.inj b; exact fun _ _ h => h
      | j + 4, a, b => simp at a
    | 1, h1, h2 =>
      obtain rfl := Option.some.inj h1
      obtain rfl := Option.some.inj h2
      refine ⟨rfl, fun j u u' a b => ?_⟩
      match j, a, b with
      | 0, a, b => obtain rfl := Option.some.inj a; obtain rfl := Option.some.inj b; exact fun _ _ h => h
      | 1, a, b => obtain rfl := Option.some.inj a; obtain rfl := Option.some.inj b; exact fun _ _ h => h
      | 2, a, b => obtain rfl := Option.some.inj a; obtain rfl := Option.some.inj b; exact iv_nil 2
      | 3, a, b => obtain rfl := Option.some.inj a; obtain rfl := Option.some.inj b; exact fun _ _ h => h
      | j + 4, a, b => simp at a
    | i + 2, h1, _ => simp at h1
theorem noX : noI [noteX] = .sl 4 [[.sl 2 [], .sl 2 [[.val (.int .i64 2), .val (.int .i64 0)]], .sl 2 [[.val (.int .i64 7), .val (.int .i64 8)]], .sl 4 []]] := rfl
attribute [local irreducible] AW AWY vops vopsY vop vopL vdraw callW qop binQ lenQ storeQ appendQ callQ ACalls AIter
attribute [local go_sem] storeQ_bp storeQ_rp

theorem spanX (x y : Operand) (w : World) : (do eqGuard .eql 55 x y (.agg #[.int .i64 7, .int .i64 8]) (.agg #[.int .i64 7, .int .i64 8]); binOp .eql 55 (.agg #[.int .i64 7, .int .i64 8]) (.agg #[.int .i64 7, .int .i64 8]) : Sem Value).run Tryz.prog w = .ok (.bool true) w := by
  go_simp
set_option maxHeartbeats 1600000 in
set_option maxRecDepth 100000 in
theorem alive_call : ACalls Tryz.prog TzTab 13 [] (.val (.bool true)) [] := by
  have hbatch := batch_call logX 0 [⟨0, 3⟩] 8 rfl rfl rfl
  unfold batchR at hbatch
  rw [batchX] at hbatch
  simp only [noX] at hbatch
  refine ACalls.of (n := 73) (rs := [.tmp 0]) Tryz.func13 rfl (by kernel_rfl) Tryz.ntmps13 (by kernel_rfl) (by simp) (fun _ _ => TzTab.later) ?_
  intro hok V w0
  simp -implicitDefEqProofs (disch := first | with_unfolding_all exact Eq.trans rfl rfl | omega) only [go_sem, seval]
  try simp -implicitDefEqProofs (disch := first | with_unfolding_all exact Eq.trans rfl rfl | omega) only [go_sem, seval]
  repeat' ((first | refine st_ rfl ?_ | refine hold_ ?_ | refine cond_ (fun h => ?_) (fun h => ?_) | (refine hKD _ _ ⟨rfl, ?_⟩; clear hKD KD)) <;> try simp -implicitDefEqProofs (disch := first | with_unfolding_all exact Eq.trans rfl rfl | omega) only [go_sem, seval])
  refine bd1 (by omega) rfl rfl rfl ⟨rfl, rfl, trivial⟩ ?_
  try simp -implicitDefEqProofs (disch := first | with_unfolding_all exact Eq.trans rfl rfl | omega) only [go_sem, seval]
  repeat' ((first | refine st_ rfl ?_ | refine hold_ ?_ | refine cond_ (fun h => ?_) (fun h => ?_) | (refine hKD _ _ ⟨rfl, ?_⟩; clear hKD KD)) <;> try simp -implicitDefEqProofs (disch := first | with_unfolding_all exact Eq.trans rfl rfl | omega) only [go_sem, seval])
  refine bd1 (by omega) rfl rfl rfl ⟨rfl, rfl, trivial⟩ ?_
  try simp -implicitDefEqProofs (disch := first | with_unfolding_all exact Eq.trans rfl rfl | omega) only [go_sem, seval]
  repeat' ((first | refine st_ rfl ?_ | refine hold_ ?_ | refine cond_ (fun h => ?_) (fun h => ?_) | (refine hKD _ _ ⟨rfl, ?_⟩; clear hKD KD)) <;> try simp -implicitDefEqProofs (disch := first | with_unfolding_all exact Eq.trans rfl rfl | omega) only [go_sem, seval])
  refine AW.drawn (ds := [11, 12, 13, 14, 15, 16, 17, 18, 19, 20, 21, 22, 23, 24, 25, 26, 27, 3]) (fin := [1]) (bs := [0, 0, 0, 0, 0, 0, 0, 0, 0, 0, 0, 0, 0, 0, 0, 0, 0, 0, 1]) [⟨[], [], [], [], 0⟩, ⟨[], [], [], [], 0⟩, ⟨[(12, 1)], [], [], [], 0⟩, ⟨[(13, 2)], [], [], [], 0⟩, ⟨[(14, 3)], [], [], [], 0⟩, ⟨[(15, 4)], [], [], [], 0⟩, ⟨[(11, 0), (16, 5)], [], [], [], 0⟩, ⟨[], [], [], [], 0⟩, ⟨[], [], [], [], 0⟩, ⟨[], [], [], [], 0⟩, ⟨[(20, 9)], [], [], [], 0⟩, ⟨[(21, 10)], [], [], [], 0⟩, ⟨[(22, 11)], [], [], [], 0⟩, ⟨[(23, 12)], [], [], [], 0⟩, ⟨[(18, 7), (19, 8), (24, 13)], [], [], [], 0⟩, ⟨[(17, 6), (25, 14)], [], [], [], 0⟩, ⟨[(26, 15)], [], [], [], 0⟩, ⟨[], [], [], [], 1⟩, ⟨[(3, 17), (27, 16)], [], [], [0], 1⟩] (by kernel_rfl) rfl (by kernel_rfl) rfl rfl rfl fun KD hKD => ?_
  try simp -implicitDefEqProofs (disch := first | with_unfolding_all exact Eq.trans rfl rfl | omega) only [go_sem, seval]
  repeat' ((first | refine hold_ ?_ | (refine hKD _ _ ⟨rfl, ?_⟩; clear hKD KD)) <;> try simp -implicitDefEqProofs (disch := first | with_unfolding_all exact Eq.trans rfl rfl | omega) only [go_sem, seval])
  refine bd1 (by omega) rfl rfl rfl ⟨rfl, rfl, rfl, trivial, trivial⟩ ?_
  try simp -implicitDefEqProofs (disch := first | with_unfolding_all exact Eq.trans rfl rfl | omega) only [go_sem, seval]
  repeat' ((first | refine hold_ ?_ | (refine hKD _ _ ⟨rfl, ?_⟩; clear hKD KD)) <;> try simp -implicitDefEqProofs (disch := first | with_unfolding_all exact Eq.trans rfl rfl | omega) only [go_sem, seval])
  refine bd1 (by omega) rfl rfl rfl ⟨rfl, rfl, rfl, trivial, trivial⟩ ?_
  try simp -implicitDefEqProofs (disch := first | with_unfolding_all exact Eq.trans rfl rfl | omega) only [go_sem, seval]
  repeat' ((first | refine hold_ ?_ | (refine hKD _ _ ⟨rfl, ?_⟩; clear hKD KD)) <;> try simp -implicitDefEqProofs (disch := first | with_unfolding_all exact Eq.trans rfl rfl | omega) only [go_sem, seval])
  refine bd2 (by omega) rfl rfl rfl ⟨trivial, trivial, trivial, trivial, trivial⟩ rfl rfl rfl ⟨trivial, trivial, trivial, trivial, trivial⟩ ?_
  try simp -implicitDefEqProofs (disch := first | with_unfolding_all exact Eq.trans rfl rfl | omega) only [go_sem, seval]
  repeat' ((first | refine hold_ ?_ | (refine hKD _ _ ⟨rfl, ?_⟩; clear hKD KD)) <;> try simp -implicitDefEqProofs (disch := first | with_unfolding_all exact Eq.trans rfl rfl | omega) only [go_sem, seval])
  try simp -implicitDefEqProofs (disch := first | with_unfolding_all exact Eq.trans rfl rfl | omega) only [go_sem, seval]
  repeat' ((first | refine st_ rfl ?_ | refine hold_ ?_ | refine cond_ (fun h => ?_) (fun h => ?_) | (refine hKD _ _ ⟨rfl, ?_⟩; clear hKD KD)) <;> try simp -implicitDefEqProofs (disch := first | with_unfolding_all exact Eq.trans rfl rfl | omega) only [go_sem, seval])
  refine bd1 (by omega) rfl rfl rfl ⟨rfl, rfl, trivial⟩ ?_
  try simp -implicitDefEqProofs (disch := first | with_unfolding_all exact Eq.trans rfl rfl | omega) only [go_sem, seval]
  repeat' ((first | refine st_ rfl ?_ | refine hold_ ?_ | refine cond_ (fun h => ?_) (fun h => ?_) | (refine hKD _ _ ⟨rfl, ?_⟩; clear hKD KD)) <;> try simp -implicitDefEqProofs (disch := first | with_unfolding_all exact Eq.trans rfl rfl | omega) only [go_sem, seval])
  refine call_s hbatch ?_ rfl ?_
  · refine Sbs.of_ (agg_sub rfl fun p hp => ?_) (Sbs.rfl_ _)
    simp only [List.zip_cons_cons, List.zip_nil_right, List.mem_cons, List.not_mem_nil, or_false] at hp
    rcases hp with rfl | rfl | rfl
    · exact nil_sub 2
    · exact rowsX
    · exact Sub1.rfl_ _
  try simp -implicitDefEqProofs (disch := first | with_unfolding_all exact Eq.trans rfl rfl | omega) only [go_sem, seval]
  repeat' ((first | refine st_ rfl ?_ | refine hold_ ?_ | refine cond_ (fun h => ?_) (fun h => ?_) | (refine hKD _ _ ⟨rfl, ?_⟩; clear hKD KD)) <;> try simp -implicitDefEqProofs (disch := first | with_unfolding_all exact Eq.trans rfl rfl | omega) only [go_sem, seval])
  refine ⟨_, spanX _ _, ?_⟩
  try simp -implicitDefEqProofs (disch := first | with_unfolding_all exact Eq.trans rfl rfl | omega) only [go_sem, seval]
  repeat' ((first | refine st_ rfl ?_ | refine hold_ ?_ | refine cond_ (fun h => ?_) (fun h => ?_) | (refine hKD _ _ ⟨rfl, ?_⟩; clear hKD KD)) <;> try simp -implicitDefEqProofs (disch := first | with_unfolding_all exact Eq.trans rfl rfl | omega) only [go_sem, seval])
  first | exact ⟨.inl trivial, id, List.nodup_nil⟩ | exact ⟨.inl trivial, id, rfl, List.nodup_nil⟩
end Go.Proofs.YtdbeoigbkkdpdaaGreatDoor
/- Arrays of one's own: stores of them whole; cells of boxes that become rows. No program is known here. -/
namespace Go.Proofs.YtdbeoigbkkdpdaaGreatDoor
open Go.ChangeShapes Go.WideShapes Go.ChangeAt Go.RowKit
section
variable {P : Program} {t : TypeId} {b p : Nat} {bk : List BA} {K : List BA → Prop}
end
section
variable {P : Program} {G : World → Prop} {ro : Option Nat} {V w0 : World} {n : Nd} {σ : AState} {K : Exit → AState → Prop}
end
end Go.Proofs.YtdbeoigbkkdpdaaGreatDoor
/- Notes copied, and compared (the reference's). -/
namespace Go.Proofs.YtdbeoigbkkdpdaaGreatDoor
open Go.ChangeShapes Go.WideShapes Go.ChangeAt Go.RowKit
attribute [local irreducible] AW AWY vops vopsY vop vopL vdraw callW qop binQ lenQ storeQ appendQ callQ ACalls AIter
attribute [local go_sem] noI_eq enN_eq noteA_eq storeQ_bp storeQ_rp

end Go.Proofs.YtdbeoigbkkdpdaaGreatDoor
/- Logs: checked, copied, compared, and the place of what is new (the reference's). -/
namespace Go.Proofs.YtdbeoigbkkdpdaaGreatDoor
open Go.ChangeShapes Go.WideShapes Go.ChangeAt Go.RowKit
attribute [local irreducible] AW AWY vops vopsY vop vopL vdraw callW qop binQ lenQ storeQ appendQ callQ ACalls AIter
attribute [local go_sem] noI_eq enN_eq logA_eq noteA_eq storeQ_bp storeQ_rp

theorem rvtwoD (l m : List Stamp) : ACalls Tryz.prog TzTab 54 [.iv (stI l), .iv (stI m)] (.iv (stI (joinS [l, m]))) [] := (rvtwo_call l m).frz trivial
set_option maxHeartbeats 1600000 in
set_option maxRecDepth 100000 in
theorem rlformed_call (l : Log) (iS : I64 l.sure) : ACalls Tryz.prog TzTab 19 [logA l] (.val (.bool (logFormed l))) [] := by
  refine ACalls.of (n := 56) (rs := [.tmp 2]) Tryz.func19 rfl (by kernel_rfl) Tryz.ntmps19 (by kernel_rfl) (by simp) (fun _ _ => TzTab.later) ?_
  intro hok V w0
  have hlen : l.notes.length ≤ 1073741824 := by simpa using hok.1.2.1.1
  obtain ⟨B, hB⟩ : ∃ B, logFormed l = B := ⟨_, rfl⟩
  rw [hB]
  unfold logFormed sureB at hB
  simp -implicitDefEqProofs (disch := first | with_unfolding_all exact Eq.trans rfl rfl | omega) only [go_sem, seval]
  refine AW.seq ?_
  refine AW.reg rfl fun KK hKK => ?_
  try simp -implicitDefEqProofs (disch := first | with_unfolding_all exact Eq.trans rfl rfl | omega) only [go_sem, seval]
  repeat' ((first | refine hold_ ?_ | (refine hKK _ ?_; clear hKK KK)) <;> try simp -implicitDefEqProofs (disch := first | with_unfolding_all exact Eq.trans rfl rfl | omega) only [go_sem, seval])
  refine AW.freeze 200 _ rfl ⟨trivial, trivial, iS, trivial⟩ ?_
  simp only [go_sem, reduceIte, Nat.reduceEqDiff]
  try simp -implicitDefEqProofs (disch := first | with_unfolding_all exact Eq.trans rfl rfl | omega) only [go_sem, seval]
  repeat' ((first | refine st_ rfl ?_ | refine hold_ ?_ | refine cond_ (fun h => ?_) (fun h => ?_) | (refine hKD _ _ ⟨rfl, ?_⟩; clear hKD KD)) <;> try simp -implicitDefEqProofs (disch := first | with_unfolding_all exact Eq.trans rfl rfl | omega) only [go_sem, seval])
  refine call_ (rvformed_call l.base) rfl ?_
  cases hb : vecFormed l.base
  · obtain rfl : B = false := by rw [← hB, hb]; rfl
    try simp -implicitDefEqProofs (disch := first | with_unfolding_all exact Eq.trans rfl rfl | omega) only [go_sem, seval]
    repeat' ((first | refine st_ rfl ?_ | refine hold_ ?_ | refine cond_ (fun h => ?_) (fun h => ?_) | (refine hKD _ _ ⟨rfl, ?_⟩; clear hKD KD)) <;> try simp -implicitDefEqProofs (disch := first | with_unfolding_all exact Eq.trans rfl rfl | omega) only [go_sem, seval])
    first | exact ⟨.inl trivial, id, List.nodup_nil⟩ | exact ⟨.inl trivial, id, rfl, List.nodup_nil⟩
  try simp -implicitDefEqProofs (disch := first | with_unfolding_all exact Eq.trans rfl rfl | omega) only [go_sem, seval]
  repeat' ((first | refine st_ rfl ?_ | refine hold_ ?_ | refine cond_ (fun h => ?_) (fun h => ?_) | (refine hKD _ _ ⟨rfl, ?_⟩; clear hKD KD)) <;> try simp -implicitDefEqProofs (disch := first | with_unfolding_all exact Eq.trans rfl rfl | omega) only [go_sem, seval])
  by_cases h0 : l.sure < 0
  · obtain rfl : B = false := by rw [← hB, decide_eq_false (p := 0 ≤ l.sure) (by omega)]; simp
    simp only [decide_eq_true h0]
    try simp -implicitDefEqProofs (disch := first | with_unfolding_all exact Eq.trans rfl rfl | omega) only [go_sem, seval]
    repeat' ((first | refine st_ rfl ?_ | refine hold_ ?_ | refine cond_ (fun h => ?_) (fun h => ?_) | (refine hKD _ _ ⟨rfl, ?_⟩; clear hKD KD)) <;> try simp -implicitDefEqProofs (disch := first | with_unfolding_all exact Eq.trans rfl rfl | omega) only [go_sem, seval])
    first | exact ⟨.inl trivial, id, List.nodup_nil⟩ | exact ⟨.inl trivial, id, rfl, List.nodup_nil⟩
  simp only [decide_eq_false h0]
  try simp -implicitDefEqProofs (disch := first | with_unfolding_all exact Eq.trans rfl rfl | omega) only [go_sem, seval]
  repeat' ((first | refine st_ rfl ?_ | refine hold_ ?_ | refine cond_ (fun h => ?_) (fun h => ?_) | (refine hKD _ _ ⟨rfl, ?_⟩; clear hKD KD)) <;> try simp -implicitDefEqProofs (disch := first | with_unfolding_all exact Eq.trans rfl rfl | omega) only [go_sem, seval])
  · obtain rfl : B = false := by
      have := of_decide_eq_true h
      rw [← hB, decide_eq_false (p := l.sure ≤ l.notes.length) (by omega)]; simp
    first | exact ⟨.inl trivial, id, List.nodup_nil⟩ | exact ⟨.inl trivial, id, rfl, List.nodup_nil⟩
  have h1 : l.sure ≤ l.notes.length := by have := of_decide_eq_false h; omega
  rw [hb, decide_eq_true h1, decide_eq_true (p := 0 ≤ l.sure) (by omega), Bool.true_and, Bool.true_and, Bool.true_and] at hB
  refine AW.loop (fun m : {m : Nat // m ≤ l.notes.length ∧ notesFrom l.base (l.notes.take m) = true} => ⟨[(1, .ip [stI l.base, noI l.notes, .val (.int .i64 l.sure)]), (3, .iv (stI (knownFrom l.base (l.notes.take m.1)))), (4, .val (.int .i64 (m.1 : Nat)))], []⟩) (fun m => l.notes.length - m.1) ⟨0, Nat.zero_le _, rfl⟩ id ⟨⟨rfl, rfl, rfl, trivial⟩, trivial, List.nodup_nil⟩ fun ⟨m, hm, ht⟩ => ?_
  have hsp : ∀ (hlt : m < l.notes.length), l.notes = l.notes.take m ++ l.notes[m] :: l.notes.drop (m + 1) := fun hlt => by rw [← List.drop_eq_getElem_cons hlt, List.take_append_drop]
  clear h
  try simp -implicitDefEqProofs (disch := first | with_unfolding_all exact Eq.trans rfl rfl | omega) only [go_sem, seval]
  repeat' ((first | refine st_ rfl ?_ | refine hold_ ?_ | refine cond_ (fun h => ?_) (fun h => ?_) | (refine hKD _ _ ⟨rfl, ?_⟩; clear hKD KD)) <;> try simp -implicitDefEqProofs (disch := first | with_unfolding_all exact Eq.trans rfl rfl | omega) only [go_sem, seval])
  · have hlt : m < l.notes.length := by simpa using h
    have hs2 : notesFrom l.base l.notes = ((noteFormed l.notes[m] && coversB (knownFrom l.base (l.notes.take m)) l.notes[m].start) && notesFrom (joinS [knownFrom l.base (l.notes.take m), l.notes[m].end_]) (l.notes.drop (m + 1))) := by
      conv => lhs; rw [hsp hlt]
      rw [notesFrom_append, ht, Bool.true_and]; rfl
    refine ⟨by omega, _, get_map (List.getElem?_eq_getElem hlt), ?_⟩
    try simp -implicitDefEqProofs (disch := first | with_unfolding_all exact Eq.trans rfl rfl | omega) only [go_sem, seval]
    repeat' ((first | refine st_ rfl ?_ | refine hold_ ?_ | refine cond_ (fun h => ?_) (fun h => ?_) | (refine hKD _ _ ⟨rfl, ?_⟩; clear hKD KD)) <;> try simp -implicitDefEqProofs (disch := first | with_unfolding_all exact Eq.trans rfl rfl | omega) only [go_sem, seval])
    refine call_ (rnformed_call l.notes[m]) rfl ?_
    cases hf : noteFormed l.notes[m]
    · try simp -implicitDefEqProofs (disch := first | with_unfolding_all exact Eq.trans rfl rfl | omega) only [go_sem, seval]
      repeat' ((first | refine st_ rfl ?_ | refine hold_ ?_ | refine cond_ (fun h => ?_) (fun h => ?_) | (refine hKD _ _ ⟨rfl, ?_⟩; clear hKD KD)) <;> try simp -implicitDefEqProofs (disch := first | with_unfolding_all exact Eq.trans rfl rfl | omega) only [go_sem, seval])
      obtain rfl : B = false := by rw [← hB, hs2, hf]; rfl
      first | exact ⟨.inl trivial, id, List.nodup_nil⟩ | exact ⟨.inl trivial, id, rfl, List.nodup_nil⟩
    try simp -implicitDefEqProofs (disch := first | with_unfolding_all exact Eq.trans rfl rfl | omega) only [go_sem, seval]
    repeat' ((first | refine st_ rfl ?_ | refine hold_ ?_ | refine cond_ (fun h => ?_) (fun h => ?_) | (refine hKD _ _ ⟨rfl, ?_⟩; clear hKD KD)) <;> try simp -implicitDefEqProofs (disch := first | with_unfolding_all exact Eq.trans rfl rfl | omega) only [go_sem, seval])
    refine ⟨by omega, _, get_map (List.getElem?_eq_getElem hlt), ?_⟩
    try simp -implicitDefEqProofs (disch := first | with_unfolding_all exact Eq.trans rfl rfl | omega) only [go_sem, seval]
    repeat' ((first | refine st_ rfl ?_ | refine hold_ ?_ | refine cond_ (fun h => ?_) (fun h => ?_) | (refine hKD _ _ ⟨rfl, ?_⟩; clear hKD KD)) <;> try simp -implicitDefEqProofs (disch := first | with_unfolding_all exact Eq.trans rfl rfl | omega) only [go_sem, seval])
    refine call_ (rnfits_call l.notes[m] _) rfl ?_
    cases hc : coversB (knownFrom l.base (l.notes.take m)) l.notes[m].start
    · try simp -implicitDefEqProofs (disch := first | with_unfolding_all exact Eq.trans rfl rfl | omega) only [go_sem, seval]
      repeat' ((first | refine st_ rfl ?_ | refine hold_ ?_ | refine cond_ (fun h => ?_) (fun h => ?_) | (refine hKD _ _ ⟨rfl, ?_⟩; clear hKD KD)) <;> try simp -implicitDefEqProofs (disch := first | with_unfolding_all exact Eq.trans rfl rfl | omega) only [go_sem, seval])
      obtain rfl : B = false := by rw [← hB, hs2, hf, hc]; rfl
      first | exact ⟨.inl trivial, id, List.nodup_nil⟩ | exact ⟨.inl trivial, id, rfl, List.nodup_nil⟩
    try simp -implicitDefEqProofs (disch := first | with_unfolding_all exact Eq.trans rfl rfl | omega) only [go_sem, seval]
    repeat' ((first | refine st_ rfl ?_ | refine hold_ ?_ | refine cond_ (fun h => ?_) (fun h => ?_) | (refine hKD _ _ ⟨rfl, ?_⟩; clear hKD KD)) <;> try simp -implicitDefEqProofs (disch := first | with_unfolding_all exact Eq.trans rfl rfl | omega) only [go_sem, seval])
    refine ⟨by omega, _, get_map (List.getElem?_eq_getElem hlt), ?_⟩
    try simp -implicitDefEqProofs (disch := first | with_unfolding_all exact Eq.trans rfl rfl | omega) only [go_sem, seval]
    repeat' ((first | refine st_ rfl ?_ | refine hold_ ?_ | refine cond_ (fun h => ?_) (fun h => ?_) | (refine hKD _ _ ⟨rfl, ?_⟩; clear hKD KD)) <;> try simp -implicitDefEqProofs (disch := first | with_unfolding_all exact Eq.trans rfl rfl | omega) only [go_sem, seval])
    refine call_ (rvtwoD (knownFrom l.base (l.notes.take m)) l.notes[m].end_) rfl ?_
    try simp -implicitDefEqProofs (disch := first | with_unfolding_all exact Eq.trans rfl rfl | omega) only [go_sem, seval]
    repeat' ((first | refine st_ rfl ?_ | refine hold_ ?_ | refine cond_ (fun h => ?_) (fun h => ?_) | (refine hKD _ _ ⟨rfl, ?_⟩; clear hKD KD)) <;> try simp -implicitDefEqProofs (disch := first | with_unfolding_all exact Eq.trans rfl rfl | omega) only [go_sem, seval])
    refine ⟨⟨m + 1, hlt, ?_⟩, id, ⟨⟨rfl, ?_, rfl, trivial⟩, trivial, List.nodup_nil⟩, by show l.notes.length - (m + 1) < l.notes.length - m; omega⟩
    · rw [List.take_succ_eq_append_getElem hlt, notesFrom_append, ht, Bool.true_and]
      simp [notesFrom, hf, hc]
    · rw [List.take_succ_eq_append_getElem hlt, knownFrom_snoc]
      rfl
  · have : m = l.notes.length := by simp at h; omega
    subst this
    rw [List.take_length] at ht
    rw [ht] at hB
    subst hB
    first | exact ⟨.inl trivial, id, List.nodup_nil⟩ | exact ⟨.inl trivial, id, rfl, List.nodup_nil⟩
end Go.Proofs.YtdbeoigbkkdpdaaGreatDoor
/- The law StreamParts: batches one after the other come to the end, each full but the last; of logs of up to 60 notes. -/
namespace Go.Proofs.YtdbeoigbkkdpdaaGreatDoor
open Go.ChangeShapes Go.WideShapes Go.ChangeAt Go.RowKit

theorem i64_small {n : Int} (h0 : 0 ≤ n) (h1 : n ≤ 1073741824) : I64 n := by
  unfold I64
  simp [Lit.wf, IntKind.max, IntKind.min, IntKind.signed, IntKind.bits]
  omega
/-- where the parts stand -/
structure PartsAt (it : List Span) (L : List Note) (a A : Nat) : Prop where
  le : a ≤ L.length
  all : (foldB it [] (L.take a)).length = A
  few : A ≤ a
  next : ∀ (h : a < L.length) y, (foldB it [] (L.take a)).getLast? = some y → goesS it y L[a] = false
theorem PartsAt.zero {it : List Span} {L : List Note} : PartsAt it L 0 0 := ⟨Nat.zero_le _, rfl, Nat.le_refl _, fun _ y hy => by simp [foldB] at hy⟩
theorem batchS_at {l : Log} {it : List Span} {a : Nat} {m : Int} (hF : logFormed l = true) (ha : (a : Int) ≤ l.sure) (hm : 1 ≤ m) : batchS l a it m = ((batchFrom it m [] a ((toldX l it).drop a)).1, (((batchFrom it m [] a ((toldX l it).drop a)).2 : Nat) : Int), 0) := by
  unfold batchS
  rw [if_pos (by simp [askB, hF]; omega)]
  unfold batchN
  simp only [Int.toNat_natCast]
attribute [local irreducible] AW AWY vops vopsY vop vopL vdraw callW qop binQ lenQ storeQ appendQ callQ ACalls AIter
attribute [local go_sem] noI_eq logA_eq storeQ_bp storeQ_rp

theorem rem9 (x y : Operand) (n : Int) (h0 : 0 ≤ n) (w : World) : (do eqGuard .rem 3 x y (.int .i64 n) (.int .i64 9); binOp .rem 3 (.int .i64 n) (.int .i64 9) : Sem Value).run Tryz.prog w = .ok (.int .i64 (n % 9)) w := by
  have h : Int.tmod n 9 = n % 9 := Int.tmod_eq_emod_of_nonneg h0
  go_simp
set_option maxHeartbeats 3200000 in
set_option maxRecDepth 100000 in
theorem lawParts (l : Log) (mo : Int) (it : List Span) (iS : I64 l.sure) (m0 : 0 ≤ mo) (m1 : mo ≤ 255) : ACalls Tryz.prog TzTab 5 [logA l, .val (.int .u8 mo), .iv (spI it)] (.val (.bool true)) [] := by
  refine ACalls.of (n := 119) (rs := [.tmp 6]) Tryz.func5 rfl (by kernel_rfl) Tryz.ntmps5 (by kernel_rfl) (by simp) (fun _ _ => TzTab.later) ?_
  intro hok V w0
  have hlen : l.notes.length ≤ 1073741824 := by simpa using hok.1.2.1.1
  simp -implicitDefEqProofs (disch := first | with_unfolding_all exact Eq.trans rfl rfl | omega) only [go_sem, seval]
  refine AW.seq ?_
  refine AW.reg rfl fun KK hKK => ?_
  try simp -implicitDefEqProofs (disch := first | with_unfolding_all exact Eq.trans rfl rfl | omega) only [go_sem, seval]
  repeat' ((first | refine hold_ ?_ | (refine hKK _ ?_; clear hKK KK)) <;> try simp -implicitDefEqProofs (disch := first | with_unfolding_all exact Eq.trans rfl rfl | omega) only [go_sem, seval])
  refine AW.freeze 400 _ rfl ⟨trivial, trivial, iS, trivial⟩ ?_
  simp only [go_sem, reduceIte, Nat.reduceEqDiff]
  try simp -implicitDefEqProofs (disch := first | with_unfolding_all exact Eq.trans rfl rfl | omega) only [go_sem, seval]
  repeat' ((first | refine st_ rfl ?_ | refine hold_ ?_ | refine cond_ (fun h => ?_) (fun h => ?_) | (refine hKD _ _ ⟨rfl, ?_⟩; clear hKD KD)) <;> try simp -implicitDefEqProofs (disch := first | with_unfolding_all exact Eq.trans rfl rfl | omega) only [go_sem, seval])
  refine call_ alive_call rfl ?_
  try simp -implicitDefEqProofs (disch := first | with_unfolding_all exact Eq.trans rfl rfl | omega) only [go_sem, seval]
  repeat' ((first | refine st_ rfl ?_ | refine hold_ ?_ | refine cond_ (fun h => ?_) (fun h => ?_) | (refine hKD _ _ ⟨rfl, ?_⟩; clear hKD KD)) <;> try simp -implicitDefEqProofs (disch := first | with_unfolding_all exact Eq.trans rfl rfl | omega) only [go_sem, seval])
  refine call_ (rlformed_call l iS) rfl ?_
  cases hF : logFormed l
  · try simp -implicitDefEqProofs (disch := first | with_unfolding_all exact Eq.trans rfl rfl | omega) only [go_sem, seval]
    repeat' ((first | refine st_ rfl ?_ | refine hold_ ?_ | refine cond_ (fun h => ?_) (fun h => ?_) | (refine hKD _ _ ⟨rfl, ?_⟩; clear hKD KD)) <;> try simp -implicitDefEqProofs (disch := first | with_unfolding_all exact Eq.trans rfl rfl | omega) only [go_sem, seval])
    first | exact ⟨.inl trivial, id, List.nodup_nil⟩ | exact ⟨.inl trivial, id, rfl, List.nodup_nil⟩
  try simp -implicitDefEqProofs (disch := first | with_unfolding_all exact Eq.trans rfl rfl | omega) only [go_sem, seval]
  repeat' ((first | refine st_ rfl ?_ | refine hold_ ?_ | refine cond_ (fun h => ?_) (fun h => ?_) | (refine hKD _ _ ⟨rfl, ?_⟩; clear hKD KD)) <;> try simp -implicitDefEqProofs (disch := first | with_unfolding_all exact Eq.trans rfl rfl | omega) only [go_sem, seval])
  · first | exact ⟨.inl trivial, id, List.nodup_nil⟩ | exact ⟨.inl trivial, id, rfl, List.nodup_nil⟩
  have h60 : l.notes.length ≤ 60 := by have := of_decide_eq_false h; omega
  obtain ⟨hs0, hs1⟩ := logFormed_sure hF
  refine ⟨.int .i64 (mo % 9), fun w => by have h9 : Int.tmod mo 9 = mo % 9 := Int.tmod_eq_emod_of_nonneg m0; first | exact rem9 _ _ _ m0 w | (go_simp; done) | (simp [h9]; done) | (go_simp; simp [h9]; done), ?_⟩
  obtain ⟨m, hm⟩ : ∃ m, 1 + mo % 9 = m := ⟨_, rfl⟩
  have hm1 : 1 ≤ m := by omega
  have hm9 : m ≤ 9 := by omega
  have hX : (toldX l it).length = l.sure.toNat := by
    unfold toldX
    rw [List.length_map, List.length_take]; omega
  obtain ⟨L, hL⟩ : ∃ L, toldX l it = L := ⟨_, rfl⟩
  rw [hL] at hX
  have hsr : (L.length : Int) = l.sure := by omega
  try simp -implicitDefEqProofs (disch := first | with_unfolding_all exact Eq.trans rfl rfl | omega) only [go_sem, seval]
  repeat' ((first | refine st_ rfl ?_ | refine hold_ ?_ | refine cond_ (fun h => ?_) (fun h => ?_) | (refine hKD _ _ ⟨rfl, ?_⟩; clear hKD KD)) <;> try simp -implicitDefEqProofs (disch := first | with_unfolding_all exact Eq.trans rfl rfl | omega) only [go_sem, seval])
  refine AW.loop (fun p : {p : Nat × Nat // PartsAt it L p.1 p.2} => ⟨[(2, .iv (spI it)), (3, .ip [stI l.base, noI l.notes, .val (.int .i64 l.sure)]), (7, .val (.int .i64 m)), (8, .val (.int .i64 (p.1.1 : Nat))), (9, .val (.int .i64 (p.1.2 : Nat)))], []⟩) (fun p => L.length - p.1.1) ⟨(0, 0), PartsAt.zero⟩ id ⟨⟨rfl, rfl, ?_, rfl, rfl, trivial⟩, trivial, List.nodup_nil⟩ fun ⟨⟨a, A⟩, hI⟩ => ?_
  · rw [← hm]; rfl
  have hle := hI.le
  have hfw := hI.few
  clear h
  try simp -implicitDefEqProofs (disch := first | with_unfolding_all exact Eq.trans rfl rfl | omega) only [go_sem, seval]
  repeat' ((first | refine st_ rfl ?_ | refine hold_ ?_ | refine cond_ (fun h => ?_) (fun h => ?_) | (refine hKD _ _ ⟨rfl, ?_⟩; clear hKD KD)) <;> try simp -implicitDefEqProofs (disch := first | with_unfolding_all exact Eq.trans rfl rfl | omega) only [go_sem, seval])
  · have hlt : a < L.length := by have h' : (a : Int) < l.sure := of_decide_eq_true h; omega
    obtain ⟨o, k, hb, k1, k2, o1, o2, o3, o4, o5, o6⟩ := batch_round (it := it) hm1 hlt (hI.next hlt)
    have hbs := batchS_at (it := it) (a := a) (m := m) hF (by omega) hm1
    rw [hL, hb] at hbs
    have hcall := batch_call l (a : Nat) it m iS (i64_small (by omega) (by omega)) (i64_small (by omega) (by omega))
    unfold batchR at hcall
    rw [hbs] at hcall
    refine call_ hcall rfl ?_
    try simp -implicitDefEqProofs (disch := first | with_unfolding_all exact Eq.trans rfl rfl | omega) only [go_sem, seval]
    repeat' ((first | refine st_ rfl ?_ | refine hold_ ?_ | refine cond_ (fun h => ?_) (fun h => ?_) | (refine hKD _ _ ⟨rfl, ?_⟩; clear hKD KD)) <;> try simp -implicitDefEqProofs (disch := first | with_unfolding_all exact Eq.trans rfl rfl | omega) only [go_sem, seval])
    have d1 : decide ((k : Int) ≤ (a : Nat)) = false := decide_eq_false (by omega)
    have d2 : decide (m < (o.length : Nat)) = false := decide_eq_false (by omega)
    have d3 : decide ((o.length : Int) < 1) = false := decide_eq_false (by omega)
    have d4 : decide ((k : Int) - (a : Nat) < (o.length : Nat)) = false := decide_eq_false (by omega)
    simp only [d1]
    try simp -implicitDefEqProofs (disch := first | with_unfolding_all exact Eq.trans rfl rfl | omega) only [go_sem, seval]
    repeat' ((first | refine st_ rfl ?_ | refine hold_ ?_ | refine cond_ (fun h => ?_) (fun h => ?_) | (refine hKD _ _ ⟨rfl, ?_⟩; clear hKD KD)) <;> try simp -implicitDefEqProofs (disch := first | with_unfolding_all exact Eq.trans rfl rfl | omega) only [go_sem, seval])
    simp only [d2]
    try simp -implicitDefEqProofs (disch := first | with_unfolding_all exact Eq.trans rfl rfl | omega) only [go_sem, seval]
    repeat' ((first | refine st_ rfl ?_ | refine hold_ ?_ | refine cond_ (fun h => ?_) (fun h => ?_) | (refine hKD _ _ ⟨rfl, ?_⟩; clear hKD KD)) <;> try simp -implicitDefEqProofs (disch := first | with_unfolding_all exact Eq.trans rfl rfl | omega) only [go_sem, seval])
    simp only [d3]
    try simp -implicitDefEqProofs (disch := first | with_unfolding_all exact Eq.trans rfl rfl | omega) only [go_sem, seval]
    repeat' ((first | refine st_ rfl ?_ | refine hold_ ?_ | refine cond_ (fun h => ?_) (fun h => ?_) | (refine hKD _ _ ⟨rfl, ?_⟩; clear hKD KD)) <;> try simp -implicitDefEqProofs (disch := first | with_unfolding_all exact Eq.trans rfl rfl | omega) only [go_sem, seval])
    simp only [d4]
    try simp -implicitDefEqProofs (disch := first | with_unfolding_all exact Eq.trans rfl rfl | omega) only [go_sem, seval]
    repeat' ((first | refine st_ rfl ?_ | refine hold_ ?_ | refine cond_ (fun h => ?_) (fun h => ?_) | (refine hKD _ _ ⟨rfl, ?_⟩; clear hKD KD)) <;> try simp -implicitDefEqProofs (disch := first | with_unfolding_all exact Eq.trans rfl rfl | omega) only [go_sem, seval])
    have hfin : PartsAt it L k (A + o.length) := ⟨k2, by rw [o5, hI.all], by omega, o6⟩
    by_cases hk : k < L.length
    · have d5 : decide ((k : Int) < l.sure) = true := decide_eq_true (by omega)
      have d6 : decide ((o.length : Int) ≠ m) = false := decide_eq_false (fun h => h (o4 hk))
      simp only [d5]
      try simp -implicitDefEqProofs (disch := first | with_unfolding_all exact Eq.trans rfl rfl | omega) only [go_sem, seval]
      repeat' ((first | refine st_ rfl ?_ | refine hold_ ?_ | refine cond_ (fun h => ?_) (fun h => ?_) | (refine hKD _ _ ⟨rfl, ?_⟩; clear hKD KD)) <;> try simp -implicitDefEqProofs (disch := first | with_unfolding_all exact Eq.trans rfl rfl | omega) only [go_sem, seval])
      simp only [d6]
      try simp -implicitDefEqProofs (disch := first | with_unfolding_all exact Eq.trans rfl rfl | omega) only [go_sem, seval]
      repeat' ((first | refine st_ rfl ?_ | refine hold_ ?_ | refine cond_ (fun h => ?_) (fun h => ?_) | (refine hKD _ _ ⟨rfl, ?_⟩; clear hKD KD)) <;> try simp -implicitDefEqProofs (disch := first | with_unfolding_all exact Eq.trans rfl rfl | omega) only [go_sem, seval])
      exact ⟨⟨(k, A + o.length), hfin⟩, id, ⟨⟨rfl, rfl, rfl, rfl, rfl, trivial⟩, trivial, List.nodup_nil⟩, by show L.length - k < L.length - a; omega⟩
    · have d5 : decide ((k : Int) < l.sure) = false := decide_eq_false (by omega)
      simp only [d5]
      try simp -implicitDefEqProofs (disch := first | with_unfolding_all exact Eq.trans rfl rfl | omega) only [go_sem, seval]
      repeat' ((first | refine st_ rfl ?_ | refine hold_ ?_ | refine cond_ (fun h => ?_) (fun h => ?_) | (refine hKD _ _ ⟨rfl, ?_⟩; clear hKD KD)) <;> try simp -implicitDefEqProofs (disch := first | with_unfolding_all exact Eq.trans rfl rfl | omega) only [go_sem, seval])
      exact ⟨⟨(k, A + o.length), hfin⟩, id, ⟨⟨rfl, rfl, rfl, rfl, rfl, trivial⟩, trivial, List.nodup_nil⟩, by show L.length - k < L.length - a; omega⟩
  · have hae : a = L.length := by have h' : ¬ (a : Int) < l.sure := of_decide_eq_false h; omega
    subst hae
    have hba := batchFrom_all (it := it) (most := 100) (l := L) (out := []) (i := 0) (by simp; omega)
    have hbs := batchS_at (it := it) (a := 0) (m := 100) hF (by omega) (by omega)
    simp only [Nat.zero_add] at hba
    rw [hL, List.drop_zero, hba] at hbs
    have hcall := batch_call l ((0 : Nat) : Int) it 100 iS (i64_small (by omega) (by omega)) (i64_small (by omega) (by omega))
    unfold batchR at hcall
    rw [hbs] at hcall
    have hall := hI.all
    rw [List.take_length] at hall
    try simp -implicitDefEqProofs (disch := first | with_unfolding_all exact Eq.trans rfl rfl | omega) only [go_sem, seval]
    repeat' ((first | refine st_ rfl ?_ | refine hold_ ?_ | refine cond_ (fun h => ?_) (fun h => ?_) | (refine hKD _ _ ⟨rfl, ?_⟩; clear hKD KD)) <;> try simp -implicitDefEqProofs (disch := first | with_unfolding_all exact Eq.trans rfl rfl | omega) only [go_sem, seval])
    refine call_ hcall rfl ?_
    try simp -implicitDefEqProofs (disch := first | with_unfolding_all exact Eq.trans rfl rfl | omega) only [go_sem, seval]
    repeat' ((first | refine st_ rfl ?_ | refine hold_ ?_ | refine cond_ (fun h => ?_) (fun h => ?_) | (refine hKD _ _ ⟨rfl, ?_⟩; clear hKD KD)) <;> try simp -implicitDefEqProofs (disch := first | with_unfolding_all exact Eq.trans rfl rfl | omega) only [go_sem, seval])
    have e1 : decide (((L.length : Nat) : Int) = l.sure) = true := decide_eq_true hsr
    have e3 : decide (((foldB it [] L).length : Int) ≤ (A : Nat)) = true := decide_eq_true (by omega)
    have e4 : decide (((A : Nat) : Int) ≤ l.sure) = true := decide_eq_true (by omega)
    simp only [e1]
    try simp -implicitDefEqProofs (disch := first | with_unfolding_all exact Eq.trans rfl rfl | omega) only [go_sem, seval]
    repeat' ((first | refine st_ rfl ?_ | refine hold_ ?_ | refine cond_ (fun h => ?_) (fun h => ?_) | (refine hKD _ _ ⟨rfl, ?_⟩; clear hKD KD)) <;> try simp -implicitDefEqProofs (disch := first | with_unfolding_all exact Eq.trans rfl rfl | omega) only [go_sem, seval])
    simp only [decide_true]
    try simp -implicitDefEqProofs (disch := first | with_unfolding_all exact Eq.trans rfl rfl | omega) only [go_sem, seval]
    repeat' ((first | refine st_ rfl ?_ | refine hold_ ?_ | refine cond_ (fun h => ?_) (fun h => ?_) | (refine hKD _ _ ⟨rfl, ?_⟩; clear hKD KD)) <;> try simp -implicitDefEqProofs (disch := first | with_unfolding_all exact Eq.trans rfl rfl | omega) only [go_sem, seval])
    simp only [e3]
    try simp -implicitDefEqProofs (disch := first | with_unfolding_all exact Eq.trans rfl rfl | omega) only [go_sem, seval]
    repeat' ((first | refine st_ rfl ?_ | refine hold_ ?_ | refine cond_ (fun h => ?_) (fun h => ?_) | (refine hKD _ _ ⟨rfl, ?_⟩; clear hKD KD)) <;> try simp -implicitDefEqProofs (disch := first | with_unfolding_all exact Eq.trans rfl rfl | omega) only [go_sem, seval])
    simp only [e4]
    exact ⟨.inl trivial, id, trivial, List.nodup_nil⟩
end Go.Proofs.YtdbeoigbkkdpdaaGreatDoor
/- A world that holds math/bits.deBruijn64tab as it is laid; and what a row's list gives of it. -/
namespace Go.Proofs.YtdbeoigbkkdpdaaGreatDoor
open Go.ChangeShapes Go.WideShapes Go.ChangeAt Go.RowKit

def laying (cs : Array Value) : Obj → Obj
  | .cells _ t frozen => .cells cs t frozen
  | o => o
def tzCells : Array Value := #[.int .u8 0, .int .u8 1, .int .u8 56, .int .u8 2, .int .u8 57, .int .u8 49, .int .u8 28, .int .u8 3, .int .u8 61, .int .u8 58, .int .u8 42, .int .u8 50, .int .u8 38, .int .u8 29, .int .u8 17, .int .u8 4, .int .u8 62, .int .u8 47, .int .u8 59, .int .u8 36, .int .u8 45, .int .u8 43, .int .u8 51, .int .u8 22, .int .u8 53, .int .u8 39, .int .u8 33, .int .u8 30, .int .u8 24, .int .u8 18, .int .u8 12, .int .u8 5, .int .u8 63, .int .u8 55, .int .u8 48, .int .u8 27, .int .u8 60, .int .u8 41, .int .u8 37, .int .u8 16, .int .u8 46, .int .u8 35, .int .u8 44, .int .u8 21, .int .u8 52, .int .u8 32, .int .u8 23, .int .u8 11, .int .u8 54, .int .u8 26, .int .u8 40, .int .u8 15, .int .u8 34, .int .u8 20, .int .u8 31, .int .u8 10, .int .u8 25, .int .u8 14, .int .u8 19, .int .u8 9, .int .u8 13, .int .u8 8, .int .u8 7, .int .u8 6]
noncomputable def tzWorld (os : Os) : World :=
  { World.holding Tryz.prog os ⟨#[], #[], []⟩ with heap := (World.holding Tryz.prog os ⟨#[], #[], []⟩).heap.modify 0 (laying tzCells) }
theorem tzName : Tryz.prog.globalNamed "math/bits.deBruijn64tab" = some 0 := by kernel_rfl
theorem tzType : (Tryz.prog.globals[0]?).map (·.type) = some 209 := by kernel_rfl
theorem tz_of_laid {laid : List (String × DataW Unit)} {W : World} (e : (laid.filter fun x => x.1 == "math/bits.deBruijn64tab") = [("math/bits.deBruijn64tab", Lib.tabData .u8 (Lib.deBruijn64tab.map Int.ofNat))]) (h : laidMetH Tryz.prog laid W) : TzTab W := by
  have h1 := h.filter (fun x => x.1 == "math/bits.deBruijn64tab")
  rw [e] at h1
  have h2 := Lib.tabIs_of_head (rest := []) tzName tzType Tryz.underlying209 Tryz.underlying5 (by kernel_rfl) (by kernel_rfl) h1
  intro j hj
  have h3 := h2.cell tzName j (by simpa using hj)
  rw [h3]
  simp [List.getD, hj]
theorem small_part {H : Type} {l : List (DataW H)} (h : Rows.uptoSmall H l = true) : ∀ d, d ∈ l → Rows.uptoBulk d ≤ 1048576 := by
  have h2 : Rows.uptoBulkAll l ≤ 1048576 := of_decide_eq_true h
  intro d hd
  have := bulk_part hd
  omega
end Go.Proofs.YtdbeoigbkkdpdaaGreatDoor
namespace Go.Proofs.YtdbeoigbkkdpdaaGreatDoor
open Go.ChangeShapes Go.WideShapes Go.ChangeAt Go.RowKit

namespace cStreamParts
set_option maxRecDepth 100000 in
theorem contract (H : Type) (enc : TypeId × Value → H) (W : World) (base : Nat) (args : Array Value) (ds gs : List (DataW H)) (before : List MemPlace)
    (hval : ∀ (j : Nat) t v, Tryz.f5.params[j]? = some t → args[j]? = some v → Value.okWide Tryz.prog W .any base t v)
    (hW : DataW.Whole enc Tryz.prog Tryz.f5.params.toList Rows.streamPartsSpec.vars false W args.toList ds gs before) (hk : Rows.uptoSmall H (ds ++ gs) = true) (hL : laidMetH Tryz.prog Rows.streamPartsRow.laid W) :
    Calls Tryz.prog 5 args W fun e W' => ∃ v, e = .returned v ∧ Rows.streamPartsSpec.post enc Tryz.prog Tryz.f5 false true false false W args v W' := by
  have hW' := hW
  obtain ⟨p, q, hA0, hV, rfl, hfz, hnd⟩ := hW
  have hA : DataW.TrodAll enc Tryz.prog W 0 (fun _ => true) true Tryz.f5.params.toList args.toList ds p := hA0
  rw [Tryz.params5] at hA hval
  obtain ⟨v0, vs0, d0, ds0, p0, q0, hargs, rfl, rfl, h0, r0⟩ := trodAll_cons hA
  obtain ⟨v1, vs1, d1, ds1, p1, q1, rfl, rfl, rfl, h1, r1⟩ := trodAll_cons r0
  obtain ⟨v2, vs2, d2, ds2, p2, q2, rfl, rfl, rfl, h2, r2⟩ := trodAll_cons r1
  obtain ⟨rfl, rfl, rfl⟩ := trodAll_nil r2
  obtain rfl : args = #[v0, v1, v2] := by cases args; simp_all
  obtain ⟨rfl, rfl⟩ := trodVars_none hV
  have hpart := small_part hk
  obtain ⟨cs0, rfl, hs0⟩ := okWide_struct Tryz.underlying42 (hval 0 _ v0 rfl rfl)
  obtain ⟨n0, hn0⟩ := h0
  obtain ⟨_, x0, va, vb, e0, hB, hN, iS⟩ := opens_log (w := W) H enc n0 _ _ ⟨hn0, hpart d0 (by simp)⟩
  obtain rfl : cs0 = #[va, vb, .int .i64 x0.sure] := Array.toList_inj.1 (by simpa only [Value.cells] using e0)
  obtain ⟨a1, rfl, rfl, rfl, w1⟩ := open_int Tryz.underlying5 (hval 1 _ v1 rfl rfl) h1
  obtain ⟨_, _, _, rfl⟩ := okWide_slice Tryz.underlying45 (hval 2 _ v2 rfl rfl)
  obtain ⟨n2, hn2⟩ := h2
  obtain ⟨_, l2, u2, hv2, hl2⟩ := opens_spans (w := W) H enc n2 _ _ ⟨hn2, hpart d2 (by simp)⟩
  simp only [Value.cells, List.cons.injEq, and_true] at hv2
  subst hv2
  have hT : TzTab W := tz_of_laid (by kernel_rfl) hL
  clear hA0
  refine ((lawParts x0 a1 l2 iS (by simp [Lit.wf, IntKind.max, IntKind.min, IntKind.signed, IntKind.bits] at w1; omega) (by simp [Lit.wf, IntKind.max, IntKind.min, IntKind.signed, IntKind.bits] at w1; omega)).law hT (RepAs.cons (log_rep hB hN) (RepAs.cons .val (RepAs.cons (.iv (spans_rep hl2 (Nat.le_refl _))) RepAs.nil)))).mono fun e W' ⟨he, hb⟩ => ?_
  subst he
  exact ⟨_, rfl, law_post laidOut (by kernel_rfl) (by kernel_rfl) Tryz.underlying4 rfl rfl rfl rfl hW' hb⟩

theorem laid_met (os : Os) : laidMet Tryz.prog Rows.streamPartsRow.laid ((tzWorld os).forCall (fun _ _ => 0) ⟨#[], #[.agg #[.slice none 0 0, .slice none 0 0, .int .i64 0], .int .u8 0, .slice none 0 0], []⟩).memory :=
  laidMet_of_run' 8 (by kernel_rfl) (by kernel_rfl)
theorem reads (os : Os) {H : Type} (enc : TypeId × Value → H) : ∃ places, DataW.whole enc Tryz.prog ((tzWorld os).forCall (fun _ _ => 0) ⟨#[], #[.agg #[.slice none 0 0, .slice none 0 0, .int .i64 0], .int .u8 0, .slice none 0 0], []⟩).memory Tryz.f5.params.toList Rows.streamPartsSpec.vars false (#[.agg #[.slice none 0 0, .slice none 0 0, .int .i64 0], .int .u8 0, .slice none 0 0] : Array Value).toList 8 = some ([.agg [.nil, .nil, .lit (.int .i64 0)], .lit (.int .u8 0), .nil], [], places) :=
  ⟨[], by kernel_rfl⟩

set_option maxRecDepth 100000 in
theorem lifted (os : Os) (started : os.Started) (H : Type) (enc : TypeId × Value → H) (F : Stop.Interp) :
    ReturnsInHanded {} Tryz.checked os 5 .any ((Rows.OpenSpec.upto Rows.streamPartsSpec).preRow enc Tryz.prog Tryz.f5 Rows.streamPartsUptoRow.domain false Rows.streamPartsUptoRow.laid) (((Rows.OpenSpec.upto Rows.streamPartsSpec).at F).post enc Tryz.prog Tryz.f5 false true false false) := by
  obtain ⟨places, hx⟩ := reads os enc
  refine returnsInHanded_of_row (C := Tryz.checked) (s := Rows.OpenSpec.upto Rows.streamPartsSpec) own started (by kernel_rfl) Tryz.func5
    (witness_row_at (enc := enc) (C := Tryz.checked) false (tzWorld os) #[.agg #[.slice none 0 0, .slice none 0 0, .int .i64 0], .int .u8 0, .slice none 0 0] rfl (by kernel_rfl) (by kernel_rfl) (by kernel_rfl)
      (OpenSpec.preRow_of_cond 8 hx (by kernel_rfl) (fun k hk => by cases hk; kernel_rfl) (by kernel_rfl) (laid_met os))) ?_
  intro W base args ds gs before hval hW _ hcond _ hL _ _
  exact contract H enc W base args ds gs before hval hW (hcond _ rfl) hL

theorem said : Rows.StreamPartsUptoSaid :=
  OpenClaim.holds_of_cond 5 Tryz.f5 rfl rfl rfl rfl rfl rfl rfl ⟨rfl, rfl, rfl, rfl, rfl⟩ rfl rfl rfl rfl rfl (by kernel_rfl) Tryz.func5 (by kernel_rfl)
    (of_decide_eq_true (by kernel_rfl)) (by unfold Func.isWrapper; first | (rw [if_pos (by decide +kernel)]; kernel_rfl) | (rw [if_neg (by decide +kernel)]; exact ⟨rfl, rfl⟩))
    (fun os started H enc _ F => by rw [OpenClaim.pre_eq_preRow]; exact lifted os started H enc F)

theorem plain (f : FuncId) (fn : Func) (hf : Tryz.pinned.checked.prog.funcNamed "telltale/telltalelaw16.StreamParts" = some f) (hfn : Tryz.pinned.checked.prog.funcs[f]? = some fn) :
    false = Tryz.pinned.checked.prog.looks [] ∧ ∀ (j : Nat) t, fn.params[j]? = some t → Tryz.pinned.checked.prog.wantsStandIn t = false := by
  obtain rfl : f = 5 := Option.some.inj ((show Tryz.prog.funcNamed "telltale/telltalelaw16.StreamParts" = some 5 by kernel_rfl).symm.trans hf) |>.symm
  obtain rfl : fn = Tryz.f5 := (Option.some.inj (Tryz.func5.symm.trans hfn)).symm
  refine ⟨by kernel_rfl, fun j t ht => ?_⟩
  rw [Tryz.params5] at ht
  have hm := Array.mem_of_getElem? ht
  simp at hm
  rcases hm with rfl | rfl | rfl
  · exact (show Tryz.prog.wantsStandIn 42 = false by kernel_rfl)
  · exact (show Tryz.prog.wantsStandIn 5 = false by kernel_rfl)
  · exact (show Tryz.prog.wantsStandIn 45 = false by kernel_rfl)

theorem card : Rows.StreamPartsUptoCardSaid :=
  Claim7.holds_tied_plain_at .later [] _ _ _ _ said (fun _ h => by cases h) (by kernel_rfl) (fun _ h => by cases h) streamPartsUpto_row_tie rfl ⟨rfl, rfl⟩ (by kernel_rfl) rfl plain (by kernel_rfl)
#print axioms card
end cStreamParts
end Go.Proofs.YtdbeoigbkkdpdaaGreatDoor
