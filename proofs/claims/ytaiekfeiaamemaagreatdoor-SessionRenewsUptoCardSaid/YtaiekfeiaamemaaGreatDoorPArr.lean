/- Arrays as one thing: a row of cells made by a function of the place. No program is known here. -/
import Derived.Test.YtaiekfeiaamemaaGreatDoorPCmp
import Derived.Test.YtaiekfeiaamemaaGreatDoorPRep
import Derived.Deep.WholeRow
set_option linter.all false
set_option linter.unnecessarySimpa false
set_option linter.unusedSimpArgs false
set_option linter.unusedVariables false
namespace Go.Proofs.YtaiekfeiaamemaaGreatDoor
open Go.ChangeShapes Go.WideShapes Go.ChangeAt Go.RowKit

/-- the cells of an array of n values -/
def rowOf (n : Nat) (f : Nat → Value) : Array Value := Array.ofFn (n := n) fun i => f i
theorem rowOf_size (n : Nat) (f : Nat → Value) : (rowOf n f).size = n := by simp [rowOf]
theorem rowOf_at {n : Nat} {f : Nat → Value} {i : Nat} (h : i < n) : (rowOf n f)[i]? = some (f i) := by simp [rowOf, h]
theorem rowOf_set {n : Nat} {f : Nat → Value} {i : Nat} (v : Value) : (rowOf n f).setIfInBounds i v = rowOf n fun k => if k = i then v else f k := by
  apply Array.ext
  · simp [rowOf]
  · intro k h1 h2
    simp only [rowOf, Array.size_setIfInBounds, Array.size_ofFn] at h1
    rw [Array.getElem_setIfInBounds (by simpa [rowOf] using h1)]
    simp only [rowOf, Array.getElem_ofFn, eq_comm (a := i)]
theorem rowOf_one {n : Nat} {f : Nat → Value} (h : ∀ i, (f i).oneCell' = true) : (rowOf n f).all (·.oneCell') = true := by
  rw [Array.all_eq_true]
  intro i hi
  simp only [rowOf, Array.getElem_ofFn]
  exact h _
theorem rowOf_congr {n : Nat} {f g : Nat → Value} (h : ∀ i, i < n → f i = g i) : rowOf n f = rowOf n g := by
  unfold rowOf
  congr 1
  funext i
  exact h i i.2
theorem Blk.setRow {w : World} {g : Nat} {t : TypeId} {cs cs' : Array Value} (h : Blk w g t cs) : Blk (w.setRow g cs') g t cs' := by
  unfold Blk at h ⊢
  simp [World.setRow, Array.getElem?_modify, h]
theorem Blk.farRow {w : World} {g g' : Nat} {t : TypeId} {cs cs' : Array Value} (h : Blk w g t cs) (hne : g ≠ g') : Blk (w.setRow g' cs') g t cs := by
  unfold Blk at h ⊢
  simp [World.setRow, Array.getElem?_modify, h, Ne.symm hne]
theorem bsetRow {w w1 : World} {g : Nat} {cs : Array Value} (h : Below w.heap.size w w1) (hg : w.heap.size ≤ g) : Below w.heap.size w (w1.setRow g cs) := by
  refine ⟨h.os, h.tape, h.output, ?_, fun i hi => ?_⟩
  · have := h.size; simpa [World.setRow] using this
  · rw [← h.block i hi]
    simp [World.setRow, Array.getElem?_modify, show ¬ g = i by omega]
theorem run_index_one {P : Program} {t e : TypeId} {n : Nat} {cs : Array Value} {k : IntKind} {i : Nat} {v : Value} {d : TypeDesc} (hu : P.underlying t = some (.array n e)) (he : P.underlying e = some d)
    (hd : (match d with | .struct _ | .array _ _ => true | _ => false) = false) (hs : (P.info? e).map (·.size) = some 1) (hi : i < n) (hc : cs[i]? = some v) (w : World) : (Instr.index t (.agg cs) (.int k i)).run P w = .ok v w := by
  cases hq : P.info? e with
  | none => simp [hq] at hs
  | some inf =>
    have h1 : inf.size = 1 := by simpa [hq] using hs
    have hagg : (isAgg e).run P w = .ok false w := by
      unfold isAgg
      rw [Sem.run_bind, run_underlying he w]
      cases d <;> simp_all
    simp [Instr.index, asIntOf, run_underlying hu, hi, sizeOf, typeInfo, hq, h1, part, hagg, hc]
end Go.Proofs.YtaiekfeiaamemaaGreatDoor
