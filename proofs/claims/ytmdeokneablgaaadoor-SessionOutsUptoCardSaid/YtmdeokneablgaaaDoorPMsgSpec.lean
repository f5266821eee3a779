/- What a formed message is; small tests. -/
import Derived.Test.YtmdeokneablgaaaDoorPSubs
import Derived.Test.YtmdeokneablgaaaDoorPExt
namespace Go.Proofs.YtmdeokneablgaaaDoor
open Go.ChangeShapes Go.WideShapes Go.ChangeAt Go.RowKit

def bodyFormed (x : Body) : Bool := decide (0 ≤ x.object ∧ x.object ≤ 255) && rightB x.stamp.count x.stamp.node && decide (x.value.length ≤ 256)
def bodyEmpty (x : Body) : Bool := decide (x.stamp.count = 0 ∧ x.stamp.node = 0) && decide (x.value.length = 0)
def msgRest (m : Msg) : Bool := decide (m.interest.length = 0 ∧ m.vector.length = 0 ∧ m.notes.length = 0 ∧ m.session = 0 ∧ m.seq = 0)
def msgFormed (m : Msg) : Bool :=
  nodeB m.from_ && nodeB m.to_ &&
  (if m.kind = 1 then decide (0 ≤ m.session ∧ m.seq = 0 ∧ m.notes.length = 0 ∧ m.body.object = 0 ∧ 0 < m.interest.length) && bodyEmpty m.body && spanFormed m.interest && vecFormed m.vector
   else if m.kind = 3 then decide (m.notes.length ≤ 257 ∧ 0 ≤ m.session ∧ 0 ≤ m.seq ∧ m.interest.length = 0 ∧ m.vector.length = 0 ∧ m.body.object = 0) && bodyEmpty m.body && m.notes.all noteFormed
   else msgRest m && (if m.kind = 2 then decide (m.body.object = 0) && bodyEmpty m.body else if m.kind = 4 then decide (0 ≤ m.body.object ∧ m.body.object ≤ 255) && bodyEmpty m.body else if m.kind = 5 then bodyFormed m.body else false))

theorem wireNode (n : Int) (w : World) : Calls Tryd.prog 53 #[.int .i64 n] w fun e w' => e = .returned (.bool (nodeB n)) ∧ w = w' := by
  go_enter Tryd.func53, Tryd.ntmps53
  go_wp2_with fail
  all_goals (go_ret; refine ⟨ret_bool (Bool.eq_iff_iff.2 ?_), rfl⟩; (simp [nodeB] <;> omega))


theorem wireRight (o c n : Int) (A : Option Addr) (k cp : Nat) (w : World) (hk : k ≤ 1073741824) :
    Calls Tryd.prog 57 #[.agg #[.int .i64 o, .int .i64 c, .int .i64 n, .slice A k cp]] w fun e w' => e = .returned (.bool (decide (0 ≤ o ∧ o ≤ 255) && rightB c n && decide (k ≤ 256))) ∧ Below w.heap.size w w' := by
  generalize hr : rightB c n = r
  have HR := Lib.hid hr
  clear hr
  by_cases ho : 0 ≤ o ∧ o ≤ 255
  · rw [decide_eq_true ho]
    obtain ⟨h1, h2⟩ := ho
    have h3 : o < 256 := by omega
    go_enter Tryd.func57, Tryd.ntmps57
    go_wp2_with fail
    have kB := balloc (o := .cells #[.int .i64 o, .int .i64 c, .int .i64 n, .slice A k cp] 40) (Below.refl _ w)
    have B := Blk.new w 40 #[.int .i64 o, .int .i64 c, .int .i64 n, .slice A k cp]
    generalize hW : w.alloc _ = W at *
    have B3 := Lib.hid (B.cell 3)
    have q3 : ∀ z : BW W, z.val.cell? ⟨w.heap.size, 3, none⟩ = some (.slice A k cp) := fun z => z.cell B3.out
    clear hW B
    refine BW.start (w := W) ?_
    intro z
    refine BW.callR (z := z) (stampRight _ _ _) (congrArg Value.bool HR.out) ?_
    clear z
    intro z
    cases r
    · go_wp2_with fail
      go_ret
      exact ⟨rfl, bnext kB z.below⟩
    · go_wp2_with fail
      go_ret
      exact ⟨ret_bool (Bool.eq_iff_iff.2 (by simp <;> omega)), bnext kB z.below⟩
  · rw [decide_eq_false ho]
    go_enter Tryd.func57, Tryd.ntmps57
    go_wp2_with fail
    all_goals first | (go_ret; exact ⟨ret_bool (Bool.eq_iff_iff.2 (by simp <;> omega)), balloc (Below.refl _ _)⟩) | (exfalso; simp at *; omega)
end Go.Proofs.YtmdeokneablgaaaDoor
