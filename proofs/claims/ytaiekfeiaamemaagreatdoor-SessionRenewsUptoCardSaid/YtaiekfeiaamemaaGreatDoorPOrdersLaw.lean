/- A REGION THAT DRAWS ITS ORDER, whose operations may make memory: a rule by an invariant over the set of operations that were carried out. No program is known here. -/
import Derived.Test.YtaiekfeiaamemaaGreatDoorPExt
import Derived.Orders
set_option linter.all false
set_option linter.unnecessarySimpa false
set_option linter.unusedSimpArgs false
set_option linter.unusedVariables false
namespace Go.Proofs.YtaiekfeiaamemaaGreatDoor
open Go.ChangeShapes Go.WideShapes Go.ChangeAt Go.RowKit

section
variable {P : Program}
/-- K where the step goes on, Q where it doesn't -/
def onward (K : Act → World → Prop) (Q : Exit → Act → World → Prop) : Exit → Act → World → Prop
  | .normal => K
  | e => Q e
def cntTo (f : Nat → Bool) : Nat → Nat
  | 0 => 0
  | n + 1 => cntTo f n + if f n then 1 else 0
theorem cntTo_le {f g : Nat → Bool} (h : ∀ i, f i = true → g i = true) : ∀ n, cntTo f n ≤ cntTo g n
  | 0 => Nat.le_refl _
  | n + 1 => by
    have := cntTo_le h n
    unfold cntTo
    by_cases hf : f n = true
    · rw [if_pos hf, if_pos (h n hf)]; omega
    · rw [if_neg hf]; split <;> omega
theorem cntTo_lt {f g : Nat → Bool} (h : ∀ i, f i = true → g i = true) {k : Nat} (h1 : f k = false) (h2 : g k = true) : ∀ n, k < n → cntTo f n < cntTo g n
  | 0, hk => by omega
  | n + 1, hk => by
    unfold cntTo
    by_cases e : k = n
    · subst e
      have := cntTo_le h k
      rw [h1, h2]
      simp
      omega
    · have := cntTo_lt h h1 h2 n (by omega)
      by_cases hf : f n = true
      · rw [if_pos hf, if_pos (h n hf)]; omega
      · rw [if_neg hf]; split <;> omega
theorem cntTo_zero {f : Nat → Bool} : ∀ {n : Nat}, cntTo f n = 0 → ∀ i, i < n → f i = false
  | 0, _, _, hi => by omega
  | n + 1, h, i, hi => by
    unfold cntTo at h
    by_cases e : i = n
    · subst e
      cases hf : f i with
      | false => rfl
      | true => rw [hf] at h; simp at h
    · exact cntTo_zero (n := n) (by omega) i (by omega)
theorem cntTo_pos {f : Nat → Bool} : ∀ {n : Nat}, (∃ i, i < n ∧ f i = true) → ∃ i, i < n ∧ f i = true ∧ ∀ j, j < i → f j = false
  | 0, ⟨i, hi, _⟩ => by omega
  | n + 1, ⟨i, hi, hf⟩ => by
    by_cases h : ∃ j, j < n ∧ f j = true
    · obtain ⟨k, h1, h2, h3⟩ := cntTo_pos (n := n) h
      exact ⟨k, by omega, h2, h3⟩
    · have : i = n := by
        rcases Nat.lt_or_ge i n with c | c
        · exact absurd ⟨i, c, hf⟩ h
        · omega
      subst this
      refine ⟨i, by omega, hf, fun j hj => ?_⟩
      cases hfj : f j with
      | false => rfl
      | true => exact absurd ⟨j, hj, hfj⟩ h

/-- the operations lean on earlier ones alone -/
def lexAfter (ops : Array Oper) : Bool := (List.range ops.size).all fun i => ((ops[i]?).map fun o => o.after.all fun e => !Region.binds .any e || decide (e.on < i)).getD false
end
end Go.Proofs.YtaiekfeiaamemaaGreatDoor
