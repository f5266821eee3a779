/- Contracts of subscriptions: small tests, and their form: the program's. -/
import Derived.Test.YtaiekfeiaamemaaGreatDoorPMsg
set_option linter.all false
set_option linter.unnecessarySimpa false
set_option linter.unusedSimpArgs false
set_option linter.unusedVariables false
namespace Go.Proofs.YtaiekfeiaamemaaGreatDoor
open Go.ChangeShapes Go.WideShapes Go.ChangeAt Go.RowKit

def numB (n : Int) : Bool := decide (0 ≤ n ∧ n < 1099511627776)
def nodeB (n : Int) : Bool := decide (0 ≤ n ∧ n < 64)
def wantB (l : List Span) : Bool := decide (0 < l.length) && spanFormed l

theorem sessionNode (n : Int) (w : World) : Calls Tryz.prog 70 #[.int .i64 n] w fun e w' => e = .returned (.bool (nodeB n)) ∧ w = w' := by
  go_enter Tryz.func70, Tryz.ntmps70
  go_wp2_with fail
  all_goals (go_ret; refine ⟨ret_bool (Bool.eq_iff_iff.2 ?_), rfl⟩; (simp [nodeB] <;> omega))
theorem sessionNumber (n : Int) (w : World) : Calls Tryz.prog 71 #[.int .i64 n] w fun e w' => e = .returned (.bool (numB n)) ∧ w = w' := by
  go_enter Tryz.func71, Tryz.ntmps71
  go_wp2_with fail
  all_goals (go_ret; refine ⟨ret_bool (Bool.eq_iff_iff.2 ?_), rfl⟩; (simp [numB] <;> omega))
theorem refNumber17 (n : Int) (w : World) : Calls Tryz.prog 77 #[.int .i64 n] w fun e w' => e = .returned (.bool (numB n)) ∧ w = w' := by
  go_enter Tryz.func77, Tryz.ntmps77
  go_wp2_with fail
  all_goals (go_ret; refine ⟨ret_bool (Bool.eq_iff_iff.2 ?_), rfl⟩; (simp [numB] <;> omega))
def nextN (n : Int) : Int := (n + 1) % 1099511627776
theorem refNext17 (n : Int) (w : World) (h0 : 0 ≤ n) (h1 : n < 9223372036854775807) : Calls Tryz.prog 80 #[.int .i64 n] w fun e w' => e = .returned (.int .i64 (nextN n)) ∧ w = w' := by
  go_enter Tryz.func80, Tryz.ntmps80
  go_wp2_with fail
  go_ret
  exact ⟨rfl, rfl⟩

theorem sessionWanted (l : List Span) (v : Value) (w : World) (h : Spans w w.heap.size v l) :
    Calls Tryz.prog 83 #[v] w fun e w' => e = .returned (.bool (wantB l)) ∧ Below w.heap.size w w' := by
  obtain ⟨A, c, rfl, _⟩ := id h
  have HC := Lib.hid (spanFormedWalk l _ _ h)
  unfold wantB
  generalize spanFormed l = r at HC
  by_cases hp : 0 < l.length
  · have hi : (0 : Int) < (l.length : Int) := by omega
    rw [decide_eq_true hp, Bool.true_and]
    clear h
    go_enter Tryz.func83, Tryz.ntmps83
    go_wp2_with fail
    refine HC.out.mono ?_
    rintro e w1 ⟨rfl, hb1⟩
    go_wp2_with fail
    go_ret
    exact ⟨rfl, hb1⟩
  · have hi : (l.length : Int) ≤ 0 := by omega
    rw [decide_eq_false hp, Bool.false_and]
    clear h hp
    go_enter Tryz.func83, Tryz.ntmps83
    go_wp2_with fail
    go_ret
    exact ⟨rfl, Below.refl _ _⟩

theorem refRight17 (n : Int) (l : List Span) (v : Value) (w : World) (h : Spans w w.heap.size v l) :
    Calls Tryz.prog 156 #[.int .i64 n, v] w fun e w' => e = .returned (.bool (nodeB n && wantB l)) ∧ Below w.heap.size w w' := by
  obtain ⟨A, c, rfl, _⟩ := id h
  have HC := Lib.hid (refSpanFormed l _ _ h)
  unfold wantB
  generalize spanFormed l = r at HC
  by_cases hn : 0 ≤ n ∧ n < 64
  · have Hn := Lib.hid (show nodeB n = true from decide_eq_true hn)
    obtain ⟨n1, n2⟩ := hn
    rw [Hn.out, Bool.true_and]
    by_cases hp : 0 < l.length
    · have hi : (0 : Int) < (l.length : Int) := by omega
      rw [decide_eq_true hp, Bool.true_and]
      clear h
      go_enter Tryz.func156, Tryz.ntmps156
      go_wp2_with fail
      refine HC.out.mono ?_
      rintro e w1 ⟨rfl, hb1⟩
      go_wp2_with fail
      go_ret
      exact ⟨rfl, hb1⟩
    · have hi : (l.length : Int) ≤ 0 := by omega
      rw [decide_eq_false hp, Bool.false_and]
      clear h hp
      go_enter Tryz.func156, Tryz.ntmps156
      go_wp2_with fail
      go_ret
      exact ⟨rfl, Below.refl _ _⟩
  · have Hn := Lib.hid (show nodeB n = false from decide_eq_false hn)
    rw [Hn.out, Bool.false_and]
    have hc : n < 0 ∨ (0 ≤ n ∧ 63 < n) := by omega
    clear hn h
    rcases hc with h1 | ⟨h1, h2⟩
    all_goals
      go_enter Tryz.func156, Tryz.ntmps156
      go_wp2_with fail
      go_ret
      exact ⟨rfl, Below.refl _ _⟩
end Go.Proofs.YtaiekfeiaamemaaGreatDoor
