/- The closed facts of a card, joined. -/
import Derived.Test.YtahgkllhbggmgaaGreatDoorLLinksCardA
import Derived.Test.YtahgkllhbggmgaaGreatDoorLLinksCardB
set_option linter.all false
namespace Go.Proofs.YtahgkllhbggmgaaGreatDoor
namespace cCalmLinks
set_option maxRecDepth 100000 in
set_option maxHeartbeats 6400000 in
theorem closed:joinedFacts Tryz.pinned.checked.prog 6 Tryz.f6 (Rows.OpenSpec.upto Rows.calmLinksSpec).bare Rows.calmLinksUptoRow=true:=by
  unfold joinedFacts
  rw [c1, c2, c3, c4, c5, c6]
  simp only [Bool.and_eq_true]
  repeat' apply And.intro
  all_goals first | exact True.intro | (as_aux_lemma => kernel_rfl)
end cCalmLinks
end Go.Proofs.YtahgkllhbggmgaaGreatDoor
