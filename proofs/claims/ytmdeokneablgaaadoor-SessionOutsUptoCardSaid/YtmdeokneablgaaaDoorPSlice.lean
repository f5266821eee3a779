/- A piece of a slice that reads as a list. No program is known here. -/
import Derived.Test.YtmdeokneablgaaaDoorPExt
namespace Go.Proofs.YtmdeokneablgaaaDoor
open Go.ChangeShapes Go.WideShapes Go.ChangeAt Go.RowKit

theorem Sl.piece {α : Type} {R : List Value → α → Prop} {k : Nat} {w : World} {B : Nat} {b off c : Nat} {l : List α} (h : Sl R k w B (.slice (some ⟨b, off, none⟩) l.length c) l) {i j : Nat} (hij : i ≤ j) (hj : j ≤ l.length) :
    Sl R k w B (.slice (some ⟨b, off + i * k, none⟩) ((l.drop i).take (j - i)).length (c - i)) ((l.drop i).take (j - i)) := by
  obtain ⟨A, c', hv, ⟨h1, h2⟩, h3, h4⟩ := h
  injection hv with hv1 _ hv3
  subst hv1 hv3
  refine ⟨_, _, rfl, ⟨by simp; omega, by simp; omega⟩, by omega, fun hne => ?_⟩
  have hl : l ≠ [] := by
    rintro rfl
    simp at hne
  obtain ⟨b', off', hA, hb, h5⟩ := h4 hl
  injection hA with hA
  injection hA with h6 h7
  subst h6 h7
  refine ⟨_, _, rfl, hb, fun m x hx => ?_⟩
  rw [List.getElem?_take] at hx
  split at hx
  · rw [List.getElem?_drop] at hx
    obtain ⟨cs, h6, h7, h8⟩ := h5 _ x hx
    refine ⟨cs, h6, h7, fun q u hu => ?_⟩
    have := h8 q u hu
    rwa [show off + (i + m) * k + q = off + i * k + m * k + q by rw [Nat.add_mul]; omega] at this
  · cases hx

/-- what a call met later has made lies apart from a row of one's own that stood before it -/
theorem mix_apart {V W z w' : World} {v : Value} (h : Ext V W) (hz : W.heap.size ≤ z.heap.size) (hg : ∀ g, v.ownBlock = some g → W.heap.size ≤ g ∧ g < z.heap.size) : Ext (mixW V z w') (minusO (mixW V W w') v) := by
  have h1 := mix_later (w' := w') h hz
  refine ⟨by rw [minusO_size]; exact h1.size, fun p u hp => ?_⟩
  have h2 := h1.cell p u hp
  unfold minusO
  split
  · exact h2
  · rename_i g hv
    obtain ⟨h3, h4⟩ := hg g hv
    rw [minus_far _ (by
      rintro rfl
      rcases (mix_some hp).2 with ⟨_, h5⟩ | ⟨h5, _⟩
      · have := World.block_lt_of_cell? V p h5
        have := h.size
        omega
      · omega)]
    exact h2
end Go.Proofs.YtmdeokneablgaaaDoor
