/- Rows of one's own, told to the cell: copies inside them, what an insertion and a deletion leave. No program is known here. -/
import Derived.Test.YtaiekfeiaamemaaGreatDoorPExt
import Derived.Laws.CopyRow
import Derived.Laws.Externs
import Derived.Lib.Overlaps
import Derived.Lib.AppendZerosOnto
import Derived.Deep.RegionLaw
set_option linter.all false
set_option linter.unnecessarySimpa false
set_option linter.unusedSimpArgs false
set_option linter.unusedVariables false
namespace Go.Proofs.YtaiekfeiaamemaaGreatDoor
open Go.ChangeShapes Go.WideShapes Go.ChangeAt Go.RowKit

section
variable {P : Program}
end

section
variable {α : Type} {R : List Value → α → Prop} {k : Nat}
theorem Chunks.split : ∀ {xs : List Value} {l : List α}, Chunks R k xs l → ∀ i, i ≤ l.length → Chunks R k (xs.take (i * k)) (l.take i) ∧ Chunks R k (xs.drop (i * k)) (l.drop i)
  | xs, l, h, 0, _ => by simp only [Nat.zero_mul, List.take_zero, List.drop_zero]; exact ⟨rfl, h⟩
  | _, [], _, i + 1, hi => by simp at hi
  | _, y :: l, ⟨cs, rest, e, hk, h1, h⟩, i + 1, hi => by
    obtain ⟨a, b⟩ := h.split i (by simpa using hi)
    subst e
    have e1 : (i + 1) * k = cs.length + i * k := by rw [hk, Nat.add_mul]; omega
    rw [e1, List.take_length_add_append, List.drop_length_add_append]
    exact ⟨⟨cs, _, rfl, hk, h1, a⟩, b⟩
/-- a row that isn't nil, opened to its cells -/
theorem OwnSl.open_ {w : World} {base : Nat} {e : TypeId} {g n c : Nat} {l : List α} (h : OwnSl R k w base e (.slice (some ⟨g, 0, none⟩) n c) l) :
    ∃ cur : Array Value, n = l.length ∧ base ≤ g ∧ Blk w g e cur ∧ l.length ≤ c ∧ c ≤ maxLen ∧ cur.size = c * k ∧ l.length ≤ 1073741824 ∧ Chunks R k (cur.toList.take (l.length * k)) l := by
  obtain ⟨xs, hown, hch, hbig⟩ := h
  rcases hown.2 with ⟨h1, _⟩ | ⟨g', cap, cur, h1, hb, hg, hnc, hcm, hcs, ht⟩
  · cases h1
  · injection h1 with h1 h2 h3
    injection h1 with h1
    injection h1 with h1
    subst h1 h2 h3
    rw [← ht] at hch
    exact ⟨cur, rfl, hb, hg, hnc, hcm, hcs, hbig, hch⟩
theorem OwnSl.shut {w : World} {base : Nat} {e : TypeId} {g n c : Nat} {cur : Array Value} {l : List α} (hb : base ≤ g) (hg : Blk w g e cur) (hn : n = l.length) (hnc : l.length ≤ c) (hcm : c ≤ maxLen) (hcs : cur.size = c * k) (hbig : l.length ≤ 1073741824) (hch : Chunks R k (cur.toList.take (l.length * k)) l) :
    OwnSl R k w base e (.slice (some ⟨g, 0, none⟩) n c) l := by
  subst hn
  exact ⟨_, ⟨by rw [hch.length], .inr ⟨g, c, cur, rfl, hb, hg, hnc, hcm, hcs, rfl⟩⟩, hch, hbig⟩
end
end Go.Proofs.YtaiekfeiaamemaaGreatDoor
