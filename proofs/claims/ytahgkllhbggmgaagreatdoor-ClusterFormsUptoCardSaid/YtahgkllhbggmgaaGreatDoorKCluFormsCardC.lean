/- The closed facts of a card, joined. -/
import Derived.Test.YtahgkllhbggmgaaGreatDoorKCluFormsCardA
import Derived.Test.YtahgkllhbggmgaaGreatDoorKCluFormsCardB
set_option linter.all false
namespace Go.Proofs.YtahgkllhbggmgaaGreatDoor
namespace cClusterForms
set_option maxRecDepth 100000 in
set_option maxHeartbeats 6400000 in
theorem closed:joinedFacts Tryz.pinned.checked.prog 3 Tryz.f3 (Rows.OpenSpec.upto Rows.clusterFormsSpec).bare Rows.clusterFormsUptoRow=true:=by
  unfold joinedFacts
  rw [c1, c2, c3, c4, c5, c6]
  simp only [Bool.and_eq_true]
  repeat' apply And.intro
  all_goals first | exact True.intro | (as_aux_lemma => kernel_rfl)
end cClusterForms
end Go.Proofs.YtahgkllhbggmgaaGreatDoor
