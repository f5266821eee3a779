/- Contracts of the stamp's order (the program's and the reference's), of its right form and of its next one. -/
import Derived.Test.YtophbfnedglmdaaLib
namespace Go.Proofs.Ytophbfnedglmdaa
open Go.ChangeShapes Go.WideShapes Go.ChangeAt Go.RowKit

def cmpI (a b : Int) : Int := if a < b then -1 else if b < a then 1 else 0

theorem cmpCompare (a b : Int) (w : World) :
    Calls Try.prog 16 #[.int .i64 a, .int .i64 b] w fun e w' => e = .returned (.int .i64 (cmpI a b)) ∧ w = w' := by
  go_enter Try.func16, Try.ntmps16
  go_wp2
  all_goals (go_ret; exact ⟨by unfold cmpI; simp [*] <;> omega, rfl⟩)

def orI (a b : Int) : Int := if a = 0 then b else a

theorem cmpOr (a b : Int) (g : Nat) (w : World) (h0 : w.cell? ⟨g, 0, none⟩ = some (.int .i64 a)) (h1 : w.cell? ⟨g, 1, none⟩ = some (.int .i64 b)) :
    Calls Try.prog 15 #[.slice (some ⟨g, 0, none⟩) 2 2] w fun e w' => e = .returned (.int .i64 (orI a b)) ∧ w = w' := by
  go_enter Try.func15, Try.ntmps15
  go_wp2_with fail
  go_loop [5, 8] (fun _ i => ∃ k : Nat, k ≤ 2 ∧ i = .int .i64 k ∧ (0 < k → a = 0) ∧ (1 < k → b = 0)) (fun _ i => 2 - (intOf i).toNat)
  case atStart => exact ⟨0, by omega, rfl, by omega, by omega⟩
  case round =>
    obtain ⟨k, hk, rfl, ha, hb⟩ := hrel
    have hc : k = 0 ∨ k = 1 ∨ k = 2 := by omega
    rcases hc with rfl | rfl | rfl
    · clear ha hb
      go_wp2
      · go_ret; exact ⟨by unfold orI; simp_all, rfl⟩
      · go_round
        case rel => exact ⟨1, by omega, rfl, by simp_all, by omega⟩
        case measure => simp [intOf]
    · have ha' : a = 0 := ha (by omega)
      subst ha'
      clear ha hb
      go_wp2
      · go_ret; exact ⟨by unfold orI; simp_all, rfl⟩
      · go_round
        case rel => exact ⟨2, by omega, rfl, by simp_all, by simp_all⟩
        case measure => simp [intOf]
    · have ha' : a = 0 := ha (by omega)
      have hb' : b = 0 := hb (by omega)
      subst ha' hb'
      clear ha hb
      go_wp2
      go_ret; exact ⟨by unfold orI; simp, rfl⟩

def cmpS (a b c d : Int) : Int := orI (cmpI a c) (cmpI b d)

set_option maxHeartbeats 400000 in
theorem stampCompare (a b c d : Int) (w : World) :
    Calls Try.prog 9 #[.agg #[.int .i64 a, .int .i64 b], .agg #[.int .i64 c, .int .i64 d]] w fun e w' => e = .returned (.int .i64 (cmpS a b c d)) ∧ Below w.heap.size w w' := by
  go_enter Try.func9, Try.ntmps9
  go_wp2
  go_region_held3 (fun w' => w'.cell? ⟨w.heap.size, 0, none⟩ = some (.int .i64 a) ∧ w'.cell? ⟨w.heap.size, 1, none⟩ = some (.int .i64 b) ∧ w'.cell? ⟨w.heap.size + 1, 0, none⟩ = some (.int .i64 c) ∧ w'.cell? ⟨w.heap.size + 1, 1, none⟩ = some (.int .i64 d)) (go_keep)
    (first | (go_at_call 16; refine (cmpCompare _ _ _).mono ?_; rintro e w' ⟨rfl, rfl⟩) | (go_at_call 15; refine (cmpOr (cmpI a c) (cmpI b d) _ _ ?_ ?_).mono ?_; go_simp; go_simp; rintro e w' ⟨rfl, rfl⟩))
  go_wp2
  go_ret
  exact ⟨rfl, (((Below.refl _ _).alloc (Nat.le_refl _) _).alloc (by simp) _).alloc (by simp; omega) _ |>.drew⟩

theorem refCompare (a b c d : Int) (w : World) :
    Calls Try.prog 10 #[.agg #[.int .i64 a, .int .i64 b], .agg #[.int .i64 c, .int .i64 d]] w fun e w' => e = .returned (.int .i64 (cmpS a b c d)) ∧ Below w.heap.size w w' := by
  go_enter Try.func10, Try.ntmps10
  go_wp2
  all_goals
    go_ret
    refine ⟨?_, ((Below.refl _ _).alloc (Nat.le_refl _) _).alloc (by simp) _⟩
    refine ret_int ?_
    unfold cmpS orI cmpI
    (repeat' split) <;> omega

def rightB (c n : Int) : Bool := decide (1 ≤ c ∧ 0 ≤ n ∧ n < 64)

theorem stampRight (c n : Int) (w : World) :
    Calls Try.prog 11 #[.agg #[.int .i64 c, .int .i64 n]] w fun e w' => e = .returned (.bool (rightB c n)) ∧ Below w.heap.size w w' := by
  go_enter Try.func11, Try.ntmps11
  go_wp2
  all_goals (go_ret; refine ⟨ret_bool (Bool.eq_iff_iff.2 ?_), (Below.refl _ _).alloc (Nat.le_refl _) _⟩; (simp [rightB] <;> omega))

theorem refRight (c n : Int) (w : World) :
    Calls Try.prog 12 #[.agg #[.int .i64 c, .int .i64 n]] w fun e w' => e = .returned (.bool (rightB c n)) ∧ Below w.heap.size w w' := by
  go_enter Try.func12, Try.ntmps12
  go_wp2
  all_goals (go_ret; refine ⟨ret_bool (Bool.eq_iff_iff.2 ?_), (Below.refl _ _).alloc (Nat.le_refl _) _⟩; (simp [rightB] <;> omega))

/-- The next stamp, in three parts: refused, beyond the greatest count, there. -/
def nxV (c n s : Int) : Value :=
  if c < 0 ∨ n < 0 ∨ 64 ≤ n ∨ s < 0 then .tuple #[.agg #[.int .i64 0, .int .i64 0], .int .i64 1]
  else if 9223372036854775807 - c ≤ s then .tuple #[.agg #[.int .i64 0, .int .i64 0], .int .i64 2]
  else .tuple #[.agg #[.int .i64 (c + s + 1), .int .i64 n], .int .i64 0]

theorem stampNext (c n s : Int) (w : World) (hc : c ≤ 9223372036854775807) :
    Calls Try.prog 7 #[.int .i64 c, .int .i64 n, .int .i64 s] w fun e w' => e = .returned (nxV c n s) ∧ Below w.heap.size w w' := by
  go_enter Try.func7, Try.ntmps7
  go_wp2
  all_goals
    refine ⟨rfl, _, by simp [results, Try.results7, go_sem]; rfl, ?_, (Below.refl _ _).alloc (Nat.le_refl _) _⟩
    refine congrArg Ending.returned ?_
    unfold nxV
    try simp only [beq_iff_eq, beq_eq_false_iff_ne, ne_eq] at *
    (repeat' split) <;> first | rfl | (exfalso; omega) | exact congrArg (fun x => Value.tuple #[.agg #[.int .i64 x, .int .i64 n], .int .i64 0]) (by omega)

theorem refNext (c n s : Int) (w : World) (hc : c ≤ 9223372036854775807) :
    Calls Try.prog 8 #[.int .i64 c, .int .i64 n, .int .i64 s] w fun e w' => e = .returned (nxV c n s) ∧ Below w.heap.size w w' := by
  go_enter Try.func8, Try.ntmps8
  go_wp2
  all_goals
    refine ⟨rfl, _, by simp [results, Try.results8, go_sem]; rfl, ?_, (Below.refl _ _).alloc (Nat.le_refl _) _⟩
    refine congrArg Ending.returned ?_
    unfold nxV
    try simp only [beq_iff_eq, beq_eq_false_iff_ne, ne_eq] at *
    (repeat' split) <;> first | rfl | (exfalso; omega) | exact congrArg (fun x => Value.tuple #[.agg #[.int .i64 x, .int .i64 n], .int .i64 0]) (by omega)

theorem cmpS_bd (a b c d : Int) : cmpS a b c d = -1 ∨ cmpS a b c d = 0 ∨ cmpS a b c d = 1 := by
  unfold cmpS orI cmpI; (repeat' split) <;> omega
theorem cmpS_neg (a b c d : Int) : cmpS c d a b = - cmpS a b c d := by
  unfold cmpS orI cmpI; (repeat' split) <;> omega
theorem cmpS_eq (a b c d : Int) : cmpS a b c d = 0 ↔ a = c ∧ b = d := by
  unfold cmpS orI cmpI; (repeat' split) <;> omega
theorem cmpS_lt (a b c d : Int) : cmpS a b c d = -1 ↔ a < c ∨ a = c ∧ b < d := by
  unfold cmpS orI cmpI; (repeat' split) <;> omega
theorem cmpS_gt (a b c d : Int) : cmpS a b c d = 1 ↔ c < a ∨ a = c ∧ d < b := by
  unfold cmpS orI cmpI; (repeat' split) <;> omega
theorem cmpS_trans (a b c d e f : Int) (h1 : cmpS a b c d ≤ 0) (h2 : cmpS c d e f ≤ 0) : cmpS a b e f ≤ 0 := by
  have p1 := cmpS_gt a b c d
  have p2 := cmpS_gt c d e f
  have p3 := cmpS_gt a b e f
  have q1 := cmpS_bd a b c d
  have q2 := cmpS_bd c d e f
  have q3 := cmpS_bd a b e f
  omega
end Go.Proofs.Ytophbfnedglmdaa
