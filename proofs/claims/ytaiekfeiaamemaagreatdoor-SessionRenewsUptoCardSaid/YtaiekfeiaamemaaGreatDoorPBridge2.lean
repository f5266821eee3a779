/- Contracts of the elder kind, told over abstract states: what sorts. -/
import Derived.Test.YtaiekfeiaamemaaGreatDoorPTidy
import Derived.Test.YtaiekfeiaamemaaGreatDoorPConcatSpan
import Derived.Test.YtaiekfeiaamemaaGreatDoorPBridge
set_option linter.all false
set_option linter.unnecessarySimpa false
set_option linter.unusedSimpArgs false
set_option linter.unusedVariables false
/- Contracts of the program's sets: of objects, joined, met, left out, touching. -/
namespace Go.Proofs.YtaiekfeiaamemaaGreatDoor
open Go.ChangeShapes Go.WideShapes Go.ChangeAt Go.RowKit

theorem spanJoinWalk (ls : List (List Span)) (v : Value) (w : World) (h : RowsSpan w w.heap.size v ls) (hsum : sumSpan ls ≤ 1073741824) :
    Calls Tryz.prog 142 #[v] w fun e w' => (∃ v', e = .returned v' ∧ OwnSl SpanR 2 w' w.heap.size 46 v' (tidyS ls.flatten)) ∧ Below w.heap.size w w' := by
  have HC := Lib.hid (concatSpan ls v w h hsum)
  obtain ⟨A, c, rfl, -⟩ := id h
  clear h
  go_enter Tryz.func142, Tryz.ntmps142
  go_wp2_with fail
  refine HC.out.mono ?_
  rintro e w1 ⟨⟨v1, rfl, hown⟩, hb1⟩
  have HT := Lib.hid (spanTidy _ _ _ hown.sl)
  have hbs := hb1.size
  clear hown HC
  go_wp2_with fail
  refine HT.out.mono ?_
  rintro e w2 ⟨⟨v2, rfl, hown2⟩, hb2⟩
  obtain ⟨A5, c5, rfl⟩ := hown2.form
  have HO := Lib.hid (hown2.base hbs)
  clear hown2
  go_wp2_with fail
  go_ret
  exact ⟨⟨_, rfl, HO.out⟩, bnext hb1 hb2⟩

end Go.Proofs.YtaiekfeiaamemaaGreatDoor
namespace Go.Proofs.YtaiekfeiaamemaaGreatDoor
open Go.ChangeShapes Go.WideShapes Go.ChangeAt Go.RowKit
theorem sjoin_call (ls : List (List Span)) (hs : sumSpan ls ≤ 1073741824) : ACalls Tryz.prog TzTab 142 [.iv (spsI ls)] (.own 0) [.row 0 46 2 ((tidyS ls.flatten).map enSp)] :=
  bridge_own (fun _ _ _ h => sp_rep h) Tryz.func142 rfl (by kernel_rfl) fun V w E vs hV hG hr => by
    obtain ⟨v0, rfl, h0⟩ := args1 hr
    exact spanJoinWalk ls _ w (iv_spanRows hV h0) hs
end Go.Proofs.YtaiekfeiaamemaaGreatDoor
