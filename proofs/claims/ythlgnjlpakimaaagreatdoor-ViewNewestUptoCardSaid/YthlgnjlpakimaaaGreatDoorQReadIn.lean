/- What is read of a view: whole numbers, and writes that are compared. -/
import Derived.Test.YthlgnjlpakimaaaGreatDoorQViewRead
set_option linter.all false
set_option linter.unnecessarySimpa false
set_option linter.unusedSimpArgs false
set_option linter.unusedVariables false
namespace Go.Proofs.YthlgnjlpakimaaaGreatDoor
open Go.ChangeShapes Go.WideShapes Go.ChangeAt Go.RowKit
theorem Ad2 (x y:Operand) (p q r:Int) (b:Bool) (w:World):(do eqGuard .eql 49 x y (.agg #[.int .i64 p,.int .i64 q,.int .i64 r,.bool b]) (.agg #[.int .i64 p,.int .i64 q,.int .i64 r,.bool b]);binOp .eql 49 (.agg #[.int .i64 p,.int .i64 q,.int .i64 r,.bool b]) (.agg #[.int .i64 p,.int .i64 q,.int .i64 r,.bool b]):Sem Value).run Tryz.prog w=.ok (.bool true) w:=by
 go_simp
theorem Ci9 {v:B8} {o:Int} (hI:∀ x∈v.held,I64 x.stamp.count/\I64 x.stamp.node/\I64 x.object):I64 (De v o).2.1.stamp.count/\I64 (De v o).2.1.stamp.node/\I64 (De v o).2.1.object:=by
 have h0:I64 noW.stamp.count/\I64 noW.stamp.node/\I64 noW.object:=⟨rfl,rfl,rfl⟩
 unfold De
 split
 ·split
  ·exact h0
  ·cases hg:D5 v.held o with
   | none=>exact h0
   | some w =>
    simp only
    split
    ·exact Bo3 hg hI
    ·exact Bo3 hg hI
 ·exact h0
end Go.Proofs.YthlgnjlpakimaaaGreatDoor
