/- The closed facts of a card, joined. -/
import Derived.Test.YtahgkllhbggmgaaGreatDoorKKnowsCardA
import Derived.Test.YtahgkllhbggmgaaGreatDoorKKnowsCardB
set_option linter.all false
namespace Go.Proofs.YtahgkllhbggmgaaGreatDoor
namespace cAuditKnows
set_option maxRecDepth 100000 in
set_option maxHeartbeats 6400000 in
theorem closed:joinedFacts Tryz.pinned.checked.prog 5 Tryz.f5 (Rows.OpenSpec.upto Rows.auditKnowsSpec).bare Rows.auditKnowsUptoRow=true:=by
  unfold joinedFacts
  rw [c1, c2, c3, c4, c5, c6]
  simp only [Bool.and_eq_true]
  repeat' apply And.intro
  all_goals first | exact True.intro | (as_aux_lemma => kernel_rfl)
end cAuditKnows
end Go.Proofs.YtahgkllhbggmgaaGreatDoor
