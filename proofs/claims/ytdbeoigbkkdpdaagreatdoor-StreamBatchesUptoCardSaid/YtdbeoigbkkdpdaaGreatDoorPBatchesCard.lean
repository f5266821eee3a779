/- The law StreamBatches: any part of any log, seen through any interest, is told as the reference says, or refused. The card (second form: of bulk at most 1048576). -/
import Derived.Test.YtdbeoigbkkdpdaaGreatDoorPBatch
import Derived.Test.YtdbeoigbkkdpdaaGreatDoorPRefBatch
import Derived.Test.YtdbeoigbkkdpdaaGreatDoorPRead
import Derived.Test.YtdbeoigbkkdpdaaGreatDoorCards
import Derived.Test.YtdbeoigbkkdpdaaGreatDoorTie
import Derived.Lib.LaidTab
import Derived.Deep.DeepWitnessRowRef
import Derived.Lib.SmallJoins
import Derived.Test.YtdbeoigbkkdpdaaGreatDoorPStreamArgs
set_option linter.all false
set_option linter.unnecessarySimpa false
set_option linter.unusedSimpArgs false
set_option linter.unusedVariables false
/- The fixed fact that the streams' laws ask first. -/
namespace Go.Proofs.YtdbeoigbkkdpdaaGreatDoor
open Go.ChangeShapes Go.WideShapes Go.ChangeAt Go.RowKit
theorem sl_sub {k : Nat} {l l' : List (List IV)} (hl : l'.length = l.length) (h : ∀ (i : Nat) cs cs', l[i]? = some cs → l'[i]? = some cs' → cs'.length = cs.length ∧ ∀ (j : Nat) u u', cs[j]? = some u → cs'[j]? = some u' → ∀ (X : World) (v : Value), RepV X v u → RepV X v u') : Sub1 (.iv (.sl k l)) (.iv (.sl k l')) := fun E X v hv => by
  cases hv with
  | iv hv =>
    obtain ⟨A, c, rfl, h1, h3, h4⟩ := hv.to_sl
    refine .iv (RepV.of_sl ⟨A, c, by rw [hl], by rw [hl]; exact h1, h3, fun hne => ?_⟩)
    obtain ⟨b, off, rfl, hb, h5⟩ := h4 (fun e => hne (List.length_eq_zero_iff.1 (by rw [hl, e]; rfl)))
    refine ⟨b, off, rfl, hb, fun i cs' hi => ?_⟩
    have hi2 := (List.getElem?_eq_some_iff.1 hi).1
    rw [hl] at hi2
    obtain ⟨vs, a1, a2, a3⟩ := h5 i _ (List.getElem?_eq_getElem hi2)
    obtain ⟨g1, g2⟩ := h i _ cs' (List.getElem?_eq_getElem hi2) hi
    refine ⟨vs, RepVs.of (by rw [a1.len, g1]) fun j v u' e1 e2 => ?_, a2, a3⟩
    have hj := (List.getElem?_eq_some_iff.1 e1).1
    rw [a1.len] at hj
    exact g2 j _ u' (List.getElem?_eq_getElem hj) e2 X v (a1.get e1 (List.getElem?_eq_getElem hj))
theorem iv_nil (k : Nat) (X : World) (v : Value) (h : RepV X v (.val (.slice none 0 0))) : RepV X v (.sl k []) := by
  cases h; exact .nil (by unfold maxLen; omega)
def logX : Log := ⟨[], [⟨[], [⟨1, 0⟩], [], [⟨⟨1, 0⟩, 7, false⟩]⟩, ⟨[⟨1, 0⟩], [⟨2, 0⟩], [], [⟨⟨2, 0⟩, 8, false⟩]⟩], 2⟩
def noteX : Note := ⟨[], [⟨2, 0⟩], [⟨7, 8⟩], []⟩
theorem batchX : batchS logX 0 [⟨0, 3⟩] 8 = ([noteX], 2, 0) := by kernel_rfl
/-- the rows of the literal log, as its notes -/
theorem rowsX : Sub1 (.iv (.sl 4 [[.val (.slice none 0 0), .sl 2 [[.val (.int .i64 1), .val (.int .i64 0)]], .val (.slice none 0 0), .sl 4 [[.val (.int .i64 1), .val (.int .i64 0), .val (.int .i64 7), .val (.bool false)]]],
    [.sl 2 [[.val (.int .i64 1), .val (.int .i64 0)]], .sl 2 [[.val (.int .i64 2), .val (.int .i64 0)]], .val (.slice none 0 0), .sl 4 [[.val (.int .i64 2), .val (.int .i64 0), .val (.int .i64 8), .val (.bool false)]]]])) (.iv (noI logX.notes)) :=
  sl_sub rfl fun i cs cs' h1 h2 => by
    match i, h1, h2 with
    | 0, h1, h2 =>
      obtain rfl := Option.some.inj h1
      obtain rfl := Option.some.inj h2
      refine ⟨rfl, fun j u u' a b => ?_⟩
      match j, a, b with
      | 0, a, b => obtain rfl := Option.some.inj a; obtain rfl := Option.some.inj b; exact iv_nil 2
      | 1, a, b => obtain rfl := Option.some.inj a; obtain rfl := Option.some.inj b; exact fun _ _ h => h
      | 2, a, b => obtain rfl := Option.some.inj a; obtain rfl := Option.some.inj b; exact iv_nil 2
      | 3, a, b => obtain rfl := Option.some.inj a; obtain rfl := Option.some.inj b; exact fun _ _ h => h
      | j + 4, a, b => simp at a
    | 1, h1, h2 =>
      obtain rfl := Option.some.inj h1
      obtain rfl := Option.some.inj h2
      refine ⟨rfl, fun j u u' a b => ?_⟩
      match j, a, b with
      | 0, a, b => obtain rfl := Option.some.inj a; obtain rfl := Option.some.inj b; exact fun _ _ h => h
      | 1, a, b => obtain rfl := Option.some.inj a; obtain rfl := Option.some.inj b; exact fun _ _ h => h
      | 2, a, b => obtain rfl := Option.some.inj a; obtain rfl := Option.some.inj b; exact iv_nil 2
      | 3, a, b => obtain rfl := Option.some.inj a; obtain rfl := Option.some.inj b; exact fun _ _ h => h
      | j + 4, a, b => simp at a
    | i + 2, h1, _ => simp at h1
theorem noX : noI [noteX] = .sl 4 [[.sl 2 [], .sl 2 [[.val (.int .i64 2), .val (.int .i64 0)]], .sl 2 [[.val (.int .i64 7), .val (.int .i64 8)]], .sl 4 []]] := rfl
attribute [local irreducible] AW AWY vops vopsY vop vopL vdraw callW qop binQ lenQ storeQ appendQ callQ ACalls AIter
attribute [local go_sem] storeQ_bp storeQ_rp

theorem spanX (x y : Operand) (w : World) : (do eqGuard .eql 55 x y (.agg #[.int .i64 7, .int .i64 8]) (.agg #[.int .i64 7, .int .i64 8]); binOp .eql 55 (.agg #[.int .i64 7, .int .i64 8]) (.agg #[.int .i64 7, .int .i64 8]) : Sem Value).run Tryz.prog w = .ok (.bool true) w := by
  go_simp
set_option maxHeartbeats 1600000 in
set_option maxRecDepth 100000 in
theorem alive_call : ACalls Tryz.prog TzTab 13 [] (.val (.bool true)) [] := by
  have hbatch := batch_call logX 0 [⟨0, 3⟩] 8 rfl rfl rfl
  unfold batchR at hbatch
  rw [batchX] at hbatch
  simp only [noX] at hbatch
  refine ACalls.of (n := 73) (rs := [.tmp 0]) Tryz.func13 rfl (by kernel_rfl) Tryz.ntmps13 (by kernel_rfl) (by simp) (fun _ _ => TzTab.later) ?_
  intro hok V w0
  simp -implicitDefEqProofs (disch := first | with_unfolding_all exact Eq.trans rfl rfl | omega) only [go_sem, seval]
  try simp -implicitDefEqProofs (disch := first | with_unfolding_all exact Eq.trans rfl rfl | omega) only [go_sem, seval]
  repeat' ((first | refine st_ rfl ?_ | refine hold_ ?_ | refine cond_ (fun h => ?_) (fun h => ?_) | (refine hKD _ _ ⟨rfl, ?_⟩; clear hKD KD)) <;> try simp -implicitDefEqProofs (disch := first | with_unfolding_all exact Eq.trans rfl rfl | omega) only [go_sem, seval])
  refine bd1 (by omega) rfl rfl rfl ⟨rfl, rfl, trivial⟩ ?_
  try simp -implicitDefEqProofs (disch := first | with_unfolding_all exact Eq.trans rfl rfl | omega) only [go_sem, seval]
  repeat' ((first | refine st_ rfl ?_ | refine hold_ ?_ | refine cond_ (fun h => ?_) (fun h => ?_) | (refine hKD _ _ ⟨rfl, ?_⟩; clear hKD KD)) <;> try simp -implicitDefEqProofs (disch := first | with_unfolding_all exact Eq.trans rfl rfl | omega) only [go_sem, seval])
  refine bd1 (by omega) rfl rfl rfl ⟨rfl, rfl, trivial⟩ ?_
  try simp -implicitDefEqProofs (disch := first | with_unfolding_all exact Eq.trans rfl rfl | omega) only [go_sem, seval]
  repeat' ((first | refine st_ rfl ?_ | refine hold_ ?_ | refine cond_ (fun h => ?_) (fun h => ?_) | (refine hKD _ _ ⟨rfl, ?_⟩; clear hKD KD)) <;> try simp -implicitDefEqProofs (disch := first | with_unfolding_all exact Eq.trans rfl rfl | omega) only [go_sem, seval])
  refine AW.drawn (ds := [11, 12, 13, 14, 15, 16, 17, 18, 19, 20, 21, 22, 23, 24, 25, 26, 27, 3]) (fin := [1]) (bs := [0, 0, 0, 0, 0, 0, 0, 0, 0, 0, 0, 0, 0, 0, 0, 0, 0, 0, 1]) [⟨[], [], [], [], 0⟩, ⟨[], [], [], [], 0⟩, ⟨[(12, 1)], [], [], [], 0⟩, ⟨[(13, 2)], [], [], [], 0⟩, ⟨[(14, 3)], [], [], [], 0⟩, ⟨[(15, 4)], [], [], [], 0⟩, ⟨[(11, 0), (16, 5)], [], [], [], 0⟩, ⟨[], [], [], [], 0⟩, ⟨[], [], [], [], 0⟩, ⟨[], [], [], [], 0⟩, ⟨[(20, 9)], [], [], [], 0⟩, ⟨[(21, 10)], [], [], [], 0⟩, ⟨[(22, 11)], [], [], [], 0⟩, ⟨[(23, 12)], [], [], [], 0⟩, ⟨[(18, 7), (19, 8), (24, 13)], [], [], [], 0⟩, ⟨[(17, 6), (25, 14)], [], [], [], 0⟩, ⟨[(26, 15)], [], [], [], 0⟩, ⟨[], [], [], [], 1⟩, ⟨[(3, 17), (27, 16)], [], [], [0], 1⟩] (by kernel_rfl) rfl (by kernel_rfl) rfl rfl rfl fun KD hKD => ?_
  try simp -implicitDefEqProofs (disch := first | with_unfolding_all exact Eq.trans rfl rfl | omega) only [go_sem, seval]
  repeat' ((first | refine hold_ ?_ | (refine hKD _ _ ⟨rfl, ?_⟩; clear hKD KD)) <;> try simp -implicitDefEqProofs (disch := first | with_unfolding_all exact Eq.trans rfl rfl | omega) only [go_sem, seval])
  refine bd1 (by omega) rfl rfl rfl ⟨rfl, rfl, rfl, trivial, trivial⟩ ?_
  try simp -implicitDefEqProofs (disch := first | with_unfolding_all exact Eq.trans rfl rfl | omega) only [go_sem, seval]
  repeat' ((first | refine hold_ ?_ | (refine hKD _ _ ⟨rfl, ?_⟩; clear hKD KD)) <;> try simp -implicitDefEqProofs (disch := first | with_unfolding_all exact Eq.trans rfl rfl | omega) only [go_sem, seval])
  refine bd1 (by omega) rfl rfl rfl ⟨rfl, rfl, rfl, trivial, trivial⟩ ?_
  try simp -implicitDefEqProofs (disch := first | with_unfolding_all exact Eq.trans rfl rfl | omega) only [go_sem, seval]
  repeat' ((first | refine hold_ ?_ | (refine hKD _ _ ⟨rfl, ?_⟩; clear hKD KD)) <;> try simp -implicitDefEqProofs (disch := first | with_unfolding_all exact Eq.trans rfl rfl | omega) only [go_sem, seval])
  refine bd2 (by omega) rfl rfl rfl ⟨trivial, trivial, trivial, trivial, trivial⟩ rfl rfl rfl ⟨trivial, trivial, trivial, trivial, trivial⟩ ?_
  try simp -implicitDefEqProofs (disch := first | with_unfolding_all exact Eq.trans rfl rfl | omega) only [go_sem, seval]
  repeat' ((first | refine hold_ ?_ | (refine hKD _ _ ⟨rfl, ?_⟩; clear hKD KD)) <;> try simp -implicitDefEqProofs (disch := first | with_unfolding_all exact Eq.trans rfl rfl | omega) only [go_sem, seval])
  try simp -implicitDefEqProofs (disch := first | with_unfolding_all exact Eq.trans rfl rfl | omega) only [go_sem, seval]
  repeat' ((first | refine st_ rfl ?_ | refine hold_ ?_ | refine cond_ (fun h => ?_) (fun h => ?_) | (refine hKD _ _ ⟨rfl, ?_⟩; clear hKD KD)) <;> try simp -implicitDefEqProofs (disch := first | with_unfolding_all exact Eq.trans rfl rfl | omega) only [go_sem, seval])
  refine bd1 (by omega) rfl rfl rfl ⟨rfl, rfl, trivial⟩ ?_
  try simp -implicitDefEqProofs (disch := first | with_unfolding_all exact Eq.trans rfl rfl | omega) only [go_sem, seval]
  repeat' ((first | refine st_ rfl ?_ | refine hold_ ?_ | refine cond_ (fun h => ?_) (fun h => ?_) | (refine hKD _ _ ⟨rfl, ?_⟩; clear hKD KD)) <;> try simp -implicitDefEqProofs (disch := first | with_unfolding_all exact Eq.trans rfl rfl | omega) only [go_sem, seval])
  refine call_s hbatch ?_ rfl ?_
  · refine Sbs.of_ (agg_sub rfl fun p hp => ?_) (Sbs.rfl_ _)
    simp only [List.zip_cons_cons, List.zip_nil_right, List.mem_cons, List.not_mem_nil, or_false] at hp
    rcases hp with rfl | rfl | rfl
    · exact nil_sub 2
    · exact rowsX
    · exact Sub1.rfl_ _
  try simp -implicitDefEqProofs (disch := first | with_unfolding_all exact Eq.trans rfl rfl | omega) only [go_sem, seval]
  repeat' ((first | refine st_ rfl ?_ | refine hold_ ?_ | refine cond_ (fun h => ?_) (fun h => ?_) | (refine hKD _ _ ⟨rfl, ?_⟩; clear hKD KD)) <;> try simp -implicitDefEqProofs (disch := first | with_unfolding_all exact Eq.trans rfl rfl | omega) only [go_sem, seval])
  refine ⟨_, spanX _ _, ?_⟩
  try simp -implicitDefEqProofs (disch := first | with_unfolding_all exact Eq.trans rfl rfl | omega) only [go_sem, seval]
  repeat' ((first | refine st_ rfl ?_ | refine hold_ ?_ | refine cond_ (fun h => ?_) (fun h => ?_) | (refine hKD _ _ ⟨rfl, ?_⟩; clear hKD KD)) <;> try simp -implicitDefEqProofs (disch := first | with_unfolding_all exact Eq.trans rfl rfl | omega) only [go_sem, seval])
  first | exact ⟨.inl trivial, id, List.nodup_nil⟩ | exact ⟨.inl trivial, id, rfl, List.nodup_nil⟩
end Go.Proofs.YtdbeoigbkkdpdaaGreatDoor
/- The law StreamBatches: any part of any log, seen through any interest, is told as the reference says, or refused. -/
namespace Go.Proofs.YtdbeoigbkkdpdaaGreatDoor
open Go.ChangeShapes Go.WideShapes Go.ChangeAt Go.RowKit
attribute [local irreducible] AW AWY vops vopsY vop vopL vdraw callW qop binQ lenQ storeQ appendQ callQ ACalls AIter
attribute [local go_sem] logA_eq storeQ_bp storeQ_rp

set_option maxHeartbeats 1600000 in
set_option maxRecDepth 100000 in
theorem lawBatches (l : Log) (q : Ask) (it : List Span) (iS : I64 l.sure) (i1 : I64 q.at_) (i2 : I64 q.most) : ACalls Tryz.prog TzTab 4 [logA l, .agg [.val (.int .i64 q.at_), .val (.int .i64 q.most)], .iv (spI it)] (.val (.bool true)) [] := by
  refine ACalls.of (n := 58) (rs := [.tmp 6]) Tryz.func4 rfl (by kernel_rfl) Tryz.ntmps4 (by kernel_rfl) (by simp) (fun _ _ => TzTab.later) ?_
  intro hok V w0
  have hp := batch_call l q.at_ it q.most iS i1 i2
  have hr := rbatch_call l q.at_ it q.most iS i1 i2
  unfold batchR at hp hr
  generalize batchS l q.at_ it q.most = x at hp hr
  obtain ⟨O, k, e⟩ := x
  simp only at hp hr
  simp -implicitDefEqProofs (disch := first | with_unfolding_all exact Eq.trans rfl rfl | omega) only [go_sem, seval]
  refine AW.seq ?_
  refine AW.reg rfl fun KK hKK => ?_
  try simp -implicitDefEqProofs (disch := first | with_unfolding_all exact Eq.trans rfl rfl | omega) only [go_sem, seval]
  repeat' ((first | refine hold_ ?_ | (refine hKK _ ?_; clear hKK KK)) <;> try simp -implicitDefEqProofs (disch := first | with_unfolding_all exact Eq.trans rfl rfl | omega) only [go_sem, seval])
  refine AW.freeze 400 _ rfl ⟨trivial, trivial, iS, trivial⟩ ?_
  simp only [go_sem, reduceIte, Nat.reduceEqDiff]
  refine AW.freeze 500 _ rfl ⟨i1, i2, trivial⟩ ?_
  simp only [go_sem, reduceIte, Nat.reduceEqDiff]
  try simp -implicitDefEqProofs (disch := first | with_unfolding_all exact Eq.trans rfl rfl | omega) only [go_sem, seval]
  repeat' ((first | refine st_ rfl ?_ | refine hold_ ?_ | refine cond_ (fun h => ?_) (fun h => ?_) | (refine hKD _ _ ⟨rfl, ?_⟩; clear hKD KD)) <;> try simp -implicitDefEqProofs (disch := first | with_unfolding_all exact Eq.trans rfl rfl | omega) only [go_sem, seval])
  refine call_ alive_call rfl ?_
  try simp -implicitDefEqProofs (disch := first | with_unfolding_all exact Eq.trans rfl rfl | omega) only [go_sem, seval]
  repeat' ((first | refine st_ rfl ?_ | refine hold_ ?_ | refine cond_ (fun h => ?_) (fun h => ?_) | (refine hKD _ _ ⟨rfl, ?_⟩; clear hKD KD)) <;> try simp -implicitDefEqProofs (disch := first | with_unfolding_all exact Eq.trans rfl rfl | omega) only [go_sem, seval])
  refine call_ (rlcopy_call l iS) rfl ?_
  try simp -implicitDefEqProofs (disch := first | with_unfolding_all exact Eq.trans rfl rfl | omega) only [go_sem, seval]
  repeat' ((first | refine st_ rfl ?_ | refine hold_ ?_ | refine cond_ (fun h => ?_) (fun h => ?_) | (refine hKD _ _ ⟨rfl, ?_⟩; clear hKD KD)) <;> try simp -implicitDefEqProofs (disch := first | with_unfolding_all exact Eq.trans rfl rfl | omega) only [go_sem, seval])
  refine call_ hp rfl ?_
  try simp -implicitDefEqProofs (disch := first | with_unfolding_all exact Eq.trans rfl rfl | omega) only [go_sem, seval]
  repeat' ((first | refine st_ rfl ?_ | refine hold_ ?_ | refine cond_ (fun h => ?_) (fun h => ?_) | (refine hKD _ _ ⟨rfl, ?_⟩; clear hKD KD)) <;> try simp -implicitDefEqProofs (disch := first | with_unfolding_all exact Eq.trans rfl rfl | omega) only [go_sem, seval])
  refine call_ hr rfl ?_
  try simp -implicitDefEqProofs (disch := first | with_unfolding_all exact Eq.trans rfl rfl | omega) only [go_sem, seval]
  repeat' ((first | refine st_ rfl ?_ | refine hold_ ?_ | refine cond_ (fun h => ?_) (fun h => ?_) | (refine hKD _ _ ⟨rfl, ?_⟩; clear hKD KD)) <;> try simp -implicitDefEqProofs (disch := first | with_unfolding_all exact Eq.trans rfl rfl | omega) only [go_sem, seval])
  refine call_ (rall_call O) rfl ?_
  try simp -implicitDefEqProofs (disch := first | with_unfolding_all exact Eq.trans rfl rfl | omega) only [go_sem, seval]
  repeat' ((first | refine st_ rfl ?_ | refine hold_ ?_ | refine cond_ (fun h => ?_) (fun h => ?_) | (refine hKD _ _ ⟨rfl, ?_⟩; clear hKD KD)) <;> try simp -implicitDefEqProofs (disch := first | with_unfolding_all exact Eq.trans rfl rfl | omega) only [go_sem, seval])
  try simp only [decide_true]
  try simp -implicitDefEqProofs (disch := first | with_unfolding_all exact Eq.trans rfl rfl | omega) only [go_sem, seval]
  repeat' ((first | refine st_ rfl ?_ | refine hold_ ?_ | refine cond_ (fun h => ?_) (fun h => ?_) | (refine hKD _ _ ⟨rfl, ?_⟩; clear hKD KD)) <;> try simp -implicitDefEqProofs (disch := first | with_unfolding_all exact Eq.trans rfl rfl | omega) only [go_sem, seval])
  try simp only [decide_true]
  try simp -implicitDefEqProofs (disch := first | with_unfolding_all exact Eq.trans rfl rfl | omega) only [go_sem, seval]
  repeat' ((first | refine st_ rfl ?_ | refine hold_ ?_ | refine cond_ (fun h => ?_) (fun h => ?_) | (refine hKD _ _ ⟨rfl, ?_⟩; clear hKD KD)) <;> try simp -implicitDefEqProofs (disch := first | with_unfolding_all exact Eq.trans rfl rfl | omega) only [go_sem, seval])
  refine call_ (rlsame_call l iS) rfl ?_
  try simp -implicitDefEqProofs (disch := first | with_unfolding_all exact Eq.trans rfl rfl | omega) only [go_sem, seval]
  repeat' ((first | refine st_ rfl ?_ | refine hold_ ?_ | refine cond_ (fun h => ?_) (fun h => ?_) | (refine hKD _ _ ⟨rfl, ?_⟩; clear hKD KD)) <;> try simp -implicitDefEqProofs (disch := first | with_unfolding_all exact Eq.trans rfl rfl | omega) only [go_sem, seval])
  first | exact ⟨.inl trivial, id, List.nodup_nil⟩ | exact ⟨.inl trivial, id, rfl, List.nodup_nil⟩
end Go.Proofs.YtdbeoigbkkdpdaaGreatDoor
/- A world that holds math/bits.deBruijn64tab as it is laid; and what a row's list gives of it. -/
namespace Go.Proofs.YtdbeoigbkkdpdaaGreatDoor
open Go.ChangeShapes Go.WideShapes Go.ChangeAt Go.RowKit

def laying (cs : Array Value) : Obj → Obj
  | .cells _ t frozen => .cells cs t frozen
  | o => o
def tzCells : Array Value := #[.int .u8 0, .int .u8 1, .int .u8 56, .int .u8 2, .int .u8 57, .int .u8 49, .int .u8 28, .int .u8 3, .int .u8 61, .int .u8 58, .int .u8 42, .int .u8 50, .int .u8 38, .int .u8 29, .int .u8 17, .int .u8 4, .int .u8 62, .int .u8 47, .int .u8 59, .int .u8 36, .int .u8 45, .int .u8 43, .int .u8 51, .int .u8 22, .int .u8 53, .int .u8 39, .int .u8 33, .int .u8 30, .int .u8 24, .int .u8 18, .int .u8 12, .int .u8 5, .int .u8 63, .int .u8 55, .int .u8 48, .int .u8 27, .int .u8 60, .int .u8 41, .int .u8 37, .int .u8 16, .int .u8 46, .int .u8 35, .int .u8 44, .int .u8 21, .int .u8 52, .int .u8 32, .int .u8 23, .int .u8 11, .int .u8 54, .int .u8 26, .int .u8 40, .int .u8 15, .int .u8 34, .int .u8 20, .int .u8 31, .int .u8 10, .int .u8 25, .int .u8 14, .int .u8 19, .int .u8 9, .int .u8 13, .int .u8 8, .int .u8 7, .int .u8 6]
noncomputable def tzWorld (os : Os) : World :=
  { World.holding Tryz.prog os ⟨#[], #[], []⟩ with heap := (World.holding Tryz.prog os ⟨#[], #[], []⟩).heap.modify 0 (laying tzCells) }
theorem tzName : Tryz.prog.globalNamed "math/bits.deBruijn64tab" = some 0 := by kernel_rfl
theorem tzType : (Tryz.prog.globals[0]?).map (·.type) = some 209 := by kernel_rfl
theorem tz_of_laid {laid : List (String × DataW Unit)} {W : World} (e : (laid.filter fun x => x.1 == "math/bits.deBruijn64tab") = [("math/bits.deBruijn64tab", Lib.tabData .u8 (Lib.deBruijn64tab.map Int.ofNat))]) (h : laidMetH Tryz.prog laid W) : TzTab W := by
  have h1 := h.filter (fun x => x.1 == "math/bits.deBruijn64tab")
  rw [e] at h1
  have h2 := Lib.tabIs_of_head (rest := []) tzName tzType Tryz.underlying209 Tryz.underlying5 (by kernel_rfl) (by kernel_rfl) h1
  intro j hj
  have h3 := h2.cell tzName j (by simpa using hj)
  rw [h3]
  simp [List.getD, hj]
theorem small_part {H : Type} {l : List (DataW H)} (h : Rows.uptoSmall H l = true) : ∀ d, d ∈ l → Rows.uptoBulk d ≤ 1048576 := by
  have h2 : Rows.uptoBulkAll l ≤ 1048576 := of_decide_eq_true h
  intro d hd
  have := bulk_part hd
  omega
end Go.Proofs.YtdbeoigbkkdpdaaGreatDoor
namespace Go.Proofs.YtdbeoigbkkdpdaaGreatDoor
open Go.ChangeShapes Go.WideShapes Go.ChangeAt Go.RowKit

namespace cStreamBatches
set_option maxRecDepth 100000 in
theorem contract (H : Type) (enc : TypeId × Value → H) (W : World) (base : Nat) (args : Array Value) (ds gs : List (DataW H)) (before : List MemPlace)
    (hval : ∀ (j : Nat) t v, Tryz.f4.params[j]? = some t → args[j]? = some v → Value.okWide Tryz.prog W .any base t v)
    (hW : DataW.Whole enc Tryz.prog Tryz.f4.params.toList Rows.streamBatchesSpec.vars false W args.toList ds gs before) (hk : Rows.uptoSmall H (ds ++ gs) = true) (hL : laidMetH Tryz.prog Rows.streamBatchesRow.laid W) :
    Calls Tryz.prog 4 args W fun e W' => ∃ v, e = .returned v ∧ Rows.streamBatchesSpec.post enc Tryz.prog Tryz.f4 false true false false W args v W' := by
  have hW' := hW
  obtain ⟨p, q, hA0, hV, rfl, hfz, hnd⟩ := hW
  have hA : DataW.TrodAll enc Tryz.prog W 0 (fun _ => true) true Tryz.f4.params.toList args.toList ds p := hA0
  rw [Tryz.params4] at hA hval
  obtain ⟨v0, vs0, d0, ds0, p0, q0, hargs, rfl, rfl, h0, r0⟩ := trodAll_cons hA
  obtain ⟨v1, vs1, d1, ds1, p1, q1, rfl, rfl, rfl, h1, r1⟩ := trodAll_cons r0
  obtain ⟨v2, vs2, d2, ds2, p2, q2, rfl, rfl, rfl, h2, r2⟩ := trodAll_cons r1
  obtain ⟨rfl, rfl, rfl⟩ := trodAll_nil r2
  obtain rfl : args = #[v0, v1, v2] := by cases args; simp_all
  obtain ⟨rfl, rfl⟩ := trodVars_none hV
  have hpart := small_part hk
  obtain ⟨cs0, rfl, hs0⟩ := okWide_struct Tryz.underlying42 (hval 0 _ v0 rfl rfl)
  obtain ⟨n0, hn0⟩ := h0
  obtain ⟨_, x0, va, vb, e0, hB, hN, iS⟩ := opens_log (w := W) H enc n0 _ _ ⟨hn0, hpart d0 (by simp)⟩
  obtain rfl : cs0 = #[va, vb, .int .i64 x0.sure] := Array.toList_inj.1 (by simpa only [Value.cells] using e0)
  obtain ⟨cs1, rfl, hs1⟩ := okWide_struct Tryz.underlying44 (hval 1 _ v1 rfl rfl)
  obtain ⟨n1, hn1⟩ := h1
  obtain ⟨_, x1, e1, i1, i2⟩ := opens_ask (w := W) H enc n1 _ _ ⟨hn1, hpart d1 (by simp)⟩
  obtain rfl : cs1 = #[.int .i64 x1.at_, .int .i64 x1.most] := Array.toList_inj.1 (by simpa only [Value.cells] using e1)
  obtain ⟨_, _, _, rfl⟩ := okWide_slice Tryz.underlying45 (hval 2 _ v2 rfl rfl)
  obtain ⟨n2, hn2⟩ := h2
  obtain ⟨_, l2, u2, hv2, hl2⟩ := opens_spans (w := W) H enc n2 _ _ ⟨hn2, hpart d2 (by simp)⟩
  simp only [Value.cells, List.cons.injEq, and_true] at hv2
  subst hv2
  have hT : TzTab W := tz_of_laid (by kernel_rfl) hL
  clear hA0
  refine ((lawBatches x0 x1 l2 iS i1 i2).law hT (RepAs.cons (log_rep hB hN) (RepAs.cons ask_rep (RepAs.cons (.iv (spans_rep hl2 (Nat.le_refl _))) RepAs.nil)))).mono fun e W' ⟨he, hb⟩ => ?_
  subst he
  exact ⟨_, rfl, law_post laidOut (by kernel_rfl) (by kernel_rfl) Tryz.underlying4 rfl rfl rfl rfl hW' hb⟩

theorem laid_met (os : Os) : laidMet Tryz.prog Rows.streamBatchesRow.laid ((tzWorld os).forCall (fun _ _ => 0) ⟨#[], #[.agg #[.slice none 0 0, .slice none 0 0, .int .i64 0], .agg #[.int .i64 0, .int .i64 0], .slice none 0 0], []⟩).memory :=
  laidMet_of_run' 8 (by kernel_rfl) (by kernel_rfl)
theorem reads (os : Os) {H : Type} (enc : TypeId × Value → H) : ∃ places, DataW.whole enc Tryz.prog ((tzWorld os).forCall (fun _ _ => 0) ⟨#[], #[.agg #[.slice none 0 0, .slice none 0 0, .int .i64 0], .agg #[.int .i64 0, .int .i64 0], .slice none 0 0], []⟩).memory Tryz.f4.params.toList Rows.streamBatchesSpec.vars false (#[.agg #[.slice none 0 0, .slice none 0 0, .int .i64 0], .agg #[.int .i64 0, .int .i64 0], .slice none 0 0] : Array Value).toList 8 = some ([.agg [.nil, .nil, .lit (.int .i64 0)], .agg [.lit (.int .i64 0), .lit (.int .i64 0)], .nil], [], places) :=
  ⟨[], by kernel_rfl⟩

set_option maxRecDepth 100000 in
theorem lifted (os : Os) (started : os.Started) (H : Type) (enc : TypeId × Value → H) (F : Stop.Interp) :
    ReturnsInHanded {} Tryz.checked os 4 .any ((Rows.OpenSpec.upto Rows.streamBatchesSpec).preRow enc Tryz.prog Tryz.f4 Rows.streamBatchesUptoRow.domain false Rows.streamBatchesUptoRow.laid) (((Rows.OpenSpec.upto Rows.streamBatchesSpec).at F).post enc Tryz.prog Tryz.f4 false true false false) := by
  obtain ⟨places, hx⟩ := reads os enc
  refine returnsInHanded_of_row (C := Tryz.checked) (s := Rows.OpenSpec.upto Rows.streamBatchesSpec) own started (by kernel_rfl) Tryz.func4
    (witness_row_at (enc := enc) (C := Tryz.checked) false (tzWorld os) #[.agg #[.slice none 0 0, .slice none 0 0, .int .i64 0], .agg #[.int .i64 0, .int .i64 0], .slice none 0 0] rfl (by kernel_rfl) (by kernel_rfl) (by kernel_rfl)
      (OpenSpec.preRow_of_cond 8 hx (by kernel_rfl) (fun k hk => by cases hk; kernel_rfl) (by kernel_rfl) (laid_met os))) ?_
  intro W base args ds gs before hval hW _ hcond _ hL _ _
  exact contract H enc W base args ds gs before hval hW (hcond _ rfl) hL

theorem said : Rows.StreamBatchesUptoSaid :=
  OpenClaim.holds_of_cond 4 Tryz.f4 rfl rfl rfl rfl rfl rfl rfl ⟨rfl, rfl, rfl, rfl, rfl⟩ rfl rfl rfl rfl rfl (by kernel_rfl) Tryz.func4 (by kernel_rfl)
    (of_decide_eq_true (by kernel_rfl)) (by unfold Func.isWrapper; first | (rw [if_pos (by decide +kernel)]; kernel_rfl) | (rw [if_neg (by decide +kernel)]; exact ⟨rfl, rfl⟩))
    (fun os started H enc _ F => by rw [OpenClaim.pre_eq_preRow]; exact lifted os started H enc F)

theorem plain (f : FuncId) (fn : Func) (hf : Tryz.pinned.checked.prog.funcNamed "telltale/telltalelaw16.StreamBatches" = some f) (hfn : Tryz.pinned.checked.prog.funcs[f]? = some fn) :
    false = Tryz.pinned.checked.prog.looks [] ∧ ∀ (j : Nat) t, fn.params[j]? = some t → Tryz.pinned.checked.prog.wantsStandIn t = false := by
  obtain rfl : f = 4 := Option.some.inj ((show Tryz.prog.funcNamed "telltale/telltalelaw16.StreamBatches" = some 4 by kernel_rfl).symm.trans hf) |>.symm
  obtain rfl : fn = Tryz.f4 := (Option.some.inj (Tryz.func4.symm.trans hfn)).symm
  refine ⟨by kernel_rfl, fun j t ht => ?_⟩
  rw [Tryz.params4] at ht
  have hm := Array.mem_of_getElem? ht
  simp at hm
  rcases hm with rfl | rfl | rfl
  · exact (show Tryz.prog.wantsStandIn 42 = false by kernel_rfl)
  · exact (show Tryz.prog.wantsStandIn 44 = false by kernel_rfl)
  · exact (show Tryz.prog.wantsStandIn 45 = false by kernel_rfl)

theorem card : Rows.StreamBatchesUptoCardSaid :=
  Claim7.holds_tied_plain_at .later [] _ _ _ _ said (fun _ h => by cases h) (by kernel_rfl) (fun _ h => by cases h) streamBatchesUpto_row_tie rfl ⟨rfl, rfl⟩ (by kernel_rfl) rfl plain (by kernel_rfl)
#print axioms card
end cStreamBatches
end Go.Proofs.YtdbeoigbkkdpdaaGreatDoor
