/- Contracts of a stamp's right form, the program's and the reference's. -/
import Derived.Test.YtmdeokneablgaaaDoorLib
namespace Go.Proofs.YtmdeokneablgaaaDoor
open Go.ChangeShapes Go.WideShapes Go.ChangeAt Go.RowKit

def rightB (c n : Int) : Bool := decide (1 ≤ c ∧ 0 ≤ n ∧ n < 64)

theorem stampRight (c n : Int) (w : World) :
    Calls Tryd.prog 69 #[.agg #[.int .i64 c, .int .i64 n]] w fun e w' => e = .returned (.bool (rightB c n)) ∧ Below w.heap.size w w' := by
  go_enter Tryd.func69, Tryd.ntmps69
  go_wp2
  all_goals (go_ret; refine ⟨ret_bool (Bool.eq_iff_iff.2 ?_), (Below.refl _ _).alloc (Nat.le_refl _) _⟩; (simp [rightB] <;> omega))

theorem refRight (c n : Int) (w : World) :
    Calls Tryd.prog 48 #[.agg #[.int .i64 c, .int .i64 n]] w fun e w' => e = .returned (.bool (rightB c n)) ∧ Below w.heap.size w w' := by
  go_enter Tryd.func48, Tryd.ntmps48
  go_wp2
  all_goals (go_ret; refine ⟨ret_bool (Bool.eq_iff_iff.2 ?_), (Below.refl _ _).alloc (Nat.le_refl _) _⟩; (simp [rightB] <;> omega))

end Go.Proofs.YtmdeokneablgaaaDoor
