/- Worlds in which all that could be read can be read ('Ext'); rows of the call's own whose elements hold slices ('OwnN'). No program is known here. -/
import Derived.Test.YtdbeoigbkkdpdaaGreatDoorPOwn
import Derived.Test.YtdbeoigbkkdpdaaGreatDoorPRegion
set_option linter.all false
set_option linter.unnecessarySimpa false
set_option linter.unusedSimpArgs false
set_option linter.unusedVariables false
namespace Go.Proofs.YtdbeoigbkkdpdaaGreatDoor
open Go.ChangeShapes Go.WideShapes Go.ChangeAt Go.RowKit

structure Ext (w w' : World) : Prop where
  size : w.heap.size ≤ w'.heap.size
  cell : ∀ p u, w.cell? p = some u → w'.cell? p = some u
theorem Ext.refl (w : World) : Ext w w := ⟨Nat.le_refl _, fun _ _ h => h⟩
theorem Ext.trans {a b c : World} (h : Ext a b) (k : Ext b c) : Ext a c := ⟨Nat.le_trans h.size k.size, fun p u hp => k.cell p u (h.cell p u hp)⟩
theorem Ext.of_below {w w' : World} (h : Below w.heap.size w w') : Ext w w' := ⟨h.size, fun _ _ hp => kept_cell h hp⟩
theorem BW.ext {w : World} (z : BW w) : Ext w z.val := Ext.of_below z.below
section
variable {α : Type} {R R' : List Value → α → Prop} {k : Nat} {w w' : World} {v : Value} {l : List α}
theorem Sl.ext (h : Sl R k w w.heap.size v l) (hR : ∀ cs x, R cs x → R' cs x) (he : Ext w w') : Sl R' k w' w'.heap.size v l := by
  obtain ⟨A, c, hv, h1, h2, h3⟩ := h
  refine ⟨A, c, hv, h1, h2, fun hne => ?_⟩
  obtain ⟨b, off, hA, hb, h4⟩ := h3 hne
  refine ⟨b, off, hA, Nat.lt_of_lt_of_le hb he.size, fun i x hx => ?_⟩
  obtain ⟨cs, h5, h6, h7⟩ := h4 i x hx
  exact ⟨cs, hR _ _ h5, h6, fun j u hu => he.cell _ _ (h7 j u hu)⟩
end

/-- the world less a block -/
def minus (w : World) (g : Nat) : World := { w with heap := w.heap.setIfInBounds g (.cells #[] 0) }
theorem minus_size (w : World) (g : Nat) : (minus w g).heap.size = w.heap.size := by simp [minus]
theorem minus_far (w : World) {g : Nat} {p : Addr} (h : p.block ≠ g) : (minus w g).cell? p = w.cell? p := by
  refine World.cell?_of_block ?_
  simp [minus, Ne.symm h]
theorem minus_near (w : World) {g : Nat} {p : Addr} {u : Value} (h : (minus w g).cell? p = some u) : p.block ≠ g := by
  intro e
  have hlt := World.block_lt_of_cell? _ p h
  rw [minus_size] at hlt
  unfold World.cell? minus at h
  subst e
  simp only [Array.getElem?_setIfInBounds, if_pos, if_pos hlt] at h
  split at h <;> simp_all
theorem minus_ext (w : World) (g : Nat) : Ext (minus w g) w := ⟨by rw [minus_size]; exact Nat.le_refl _, fun p u h => by rw [← minus_far w (minus_near w h)]; exact h⟩
theorem minus_new {w w' : World} {g' : Nat} (h : Ext w w') (hg : w.heap.size ≤ g') : Ext w (minus w' g') :=
  ⟨by rw [minus_size]; exact h.size, fun p u hp => by
    have hlt := World.block_lt_of_cell? _ p hp
    rw [minus_far w' (by omega)]
    exact h.cell p u hp⟩
def minusO (w : World) (v : Value) : World := match v.ownBlock with
  | none => w
  | some g => minus w g
theorem minusO_size (w : World) (v : Value) : (minusO w v).heap.size = w.heap.size := by
  unfold minusO; split
  · rfl
  · exact minus_size _ _
theorem minusO_ext (w : World) (v : Value) : Ext (minusO w v) w := by
  unfold minusO; split
  · exact Ext.refl _
  · exact minus_ext _ _
theorem minusO_base {W w : World} {v : Value} (h : Ext W w) (hg : ∀ g, v.ownBlock = some g → W.heap.size ≤ g) : Ext W (minusO w v) := by
  unfold minusO; split
  · exact h
  · exact minus_new h (hg _ ‹_›)
/-- what V shows of the blocks that w0 had, and what w shows of the others: V is a world that shows less than w0 (a block of one's own is hidden in it) -/
def mixW (V w0 w : World) : World := { w with heap := Array.ofFn (n := w.heap.size) fun i => if i.val < w0.heap.size then (V.heap[i.val]?).getD (.cells #[] 0) else w.heap[i.val] }
theorem mix_size (V w0 w : World) : (mixW V w0 w).heap.size = w.heap.size := by simp [mixW]
theorem mix_old {V w0 w : World} {p : Addr} (h : p.block < w0.heap.size) (h' : p.block < w.heap.size) : (mixW V w0 w).cell? p = V.cell? p := by
  unfold World.cell? mixW
  simp only [Array.getElem?_ofFn, dif_pos h', if_pos h]
  cases V.heap[p.block]? with
  | none => simp
  | some o => rfl
theorem mix_new {V w0 w : World} {p : Addr} (h : w0.heap.size ≤ p.block) : (mixW V w0 w).cell? p = w.cell? p := by
  unfold World.cell? mixW
  by_cases h' : p.block < w.heap.size
  · simp only [Array.getElem?_ofFn, dif_pos h', if_neg (Nat.not_lt.2 h)]
    rw [Array.getElem?_eq_getElem h']
  · rw [Array.getElem?_eq_none (by simpa using h'), Array.getElem?_eq_none (by simpa using h')]
theorem mix_some {V w0 w : World} {p : Addr} {u : Value} (h : (mixW V w0 w).cell? p = some u) : p.block < w.heap.size ∧ (p.block < w0.heap.size ∧ V.cell? p = some u ∨ w0.heap.size ≤ p.block ∧ w.cell? p = some u) := by
  have hlt := World.block_lt_of_cell? _ p h
  rw [mix_size] at hlt
  refine ⟨hlt, ?_⟩
  by_cases hp : p.block < w0.heap.size
  · exact .inl ⟨hp, by rw [← h, mix_old hp hlt]⟩
  · exact .inr ⟨Nat.not_lt.1 hp, by rw [← h, mix_new (Nat.not_lt.1 hp)]⟩
theorem mix_ext_v {V w0 w : World} (h : Ext V w0) (hw : w0.heap.size ≤ w.heap.size) : Ext V (mixW V w0 w) :=
  ⟨by rw [mix_size]; exact Nat.le_trans h.size hw, fun p u hp => by
    have hlt := Nat.lt_of_lt_of_le (World.block_lt_of_cell? V p hp) h.size
    rw [mix_old hlt (Nat.lt_of_lt_of_le hlt hw)]; exact hp⟩
theorem mix_below {V w0 w w' : World} (hb : Below w.heap.size w w') : Ext (mixW V w0 w) (mixW V w0 w') :=
  ⟨by rw [mix_size, mix_size]; exact hb.size, fun p u hp => by
    obtain ⟨h1, h2⟩ := mix_some hp
    have h3 : p.block < w'.heap.size := Nat.lt_of_lt_of_le h1 hb.size
    rcases h2 with ⟨h2, h4⟩ | ⟨h2, h4⟩
    · rw [mix_old h2 h3]; exact h4
    · rw [mix_new h2]; exact kept_cell hb h4⟩
/-- a call's result, met at a later world -/
theorem mix_later {V W z w' : World} (h : Ext V W) (hz : W.heap.size ≤ z.heap.size) : Ext (mixW V z w') (mixW V W w') :=
  ⟨by rw [mix_size, mix_size]; exact Nat.le_refl _, fun p u hp => by
    obtain ⟨h1, h2⟩ := mix_some hp
    rcases h2 with ⟨_, h4⟩ | ⟨h2, h4⟩
    · have hlt := Nat.lt_of_lt_of_le (World.block_lt_of_cell? V p h4) h.size
      rw [mix_old hlt h1]; exact h4
    · rw [mix_new (Nat.le_trans hz h2)]; exact h4⟩
theorem minusO_mix_below {V w0 w w' : World} (v : Value) (hb : Below w.heap.size w w') : Ext (minusO (mixW V w0 w) v) (minusO (mixW V w0 w') v) := by
  have h := mix_below (V := V) (w0 := w0) hb
  unfold minusO; split
  · exact h
  · refine ⟨by rw [minus_size, minus_size]; exact h.size, fun p u hp => ?_⟩
    have hne := minus_near _ hp
    rw [minus_far _ hne] at hp ⊢
    exact h.cell p u hp
theorem minusO_mix_set (V w0 w : World) (g i A n c : Nat) (u : Value) : minusO (mixW V w0 (w.setCell ⟨g, i, none⟩ u)) (.slice (some ⟨g, A, none⟩) n c) = minusO (mixW V w0 w) (.slice (some ⟨g, A, none⟩) n c) := by
  simp only [minusO, Value.ownBlock, minus, mixW, World.setCell]
  congr 1
  apply Array.ext_getElem?
  intro j
  by_cases e : g = j
  · subst e; simp [Array.getElem?_setIfInBounds]
  · simp only [Array.getElem?_setIfInBounds, if_neg e, Array.getElem?_ofFn, Array.size_modify]
    split
    · split
      · rfl
      · simp [Array.getElem_modify, e]
    · rfl
/-- a relation that may look into memory, and holds on where all can still be read -/
def ExtR {α : Type} (R : World → List Value → α → Prop) : Prop := ∀ w w' cs x, Ext w w' → R w cs x → R w' cs x
/-- a row of the call's own; what its elements hold lies elsewhere: in what V shows, or in new blocks (behind w0) -/
def OwnN {α : Type} (R : World → List Value → α → Prop) (k : Nat) (V w0 w : World) (base : Nat) (e : TypeId) (v : Value) (l : List α) : Prop := OwnSl (R (minusO (mixW V w0 w) v)) k w base e v l
section
variable {α : Type} {R : World → List Value → α → Prop} {k : Nat} {V w0 w w' : World} {base : Nat} {e : TypeId} {v : Value} {l : List α}
theorem OwnN.nil_ (V w0 w : World) (base : Nat) (e : TypeId) : OwnN R k V w0 w base e (.slice none 0 0) [] := OwnSl.nil_ _ _ _
theorem OwnN.next (h : OwnN R k V w0 w base e v l) (hR : ExtR R) (hb : Below w.heap.size w w') : OwnN R k V w0 w' base e v l :=
  (OwnSl.next h hb).mono fun cs x hx => hR _ _ cs x (minusO_mix_below v hb) hx
theorem OwnN.lt (h : OwnN R k V w0 w base e v l) : ∀ g, v.ownBlock = some g → base ≤ g ∧ g < w.heap.size := OwnSl.lt h
/-- read in what V shows and in new blocks alone -/
theorem OwnN.sl (h : OwnN R k V w0 w base e v l) (hR : ExtR R) (hb : w0.heap.size ≤ base) : Sl (R (mixW V w0 w)) k (mixW V w0 w) (mixW V w0 w).heap.size v l := by
  have hlt := h.lt
  obtain ⟨A, c, hv, h1, h2, h3⟩ := OwnSl.sl h
  refine ⟨A, c, hv, h1, h2, fun hne => ?_⟩
  obtain ⟨b, off, hA, hbb, h4⟩ := h3 hne
  subst hv hA
  have hbl := (hlt b rfl).1
  refine ⟨b, off, rfl, by rw [mix_size]; exact hbb, fun i x hx => ?_⟩
  obtain ⟨cs, h5, h6, h7⟩ := h4 i x hx
  exact ⟨cs, hR _ _ cs x (minusO_ext _ _) h5, h6, fun j u hu => by rw [mix_new (Nat.le_trans hb hbl)]; exact h7 j u hu⟩
theorem OwnN.of_sl (h : OwnSl (R V) k w base e v l) (hR : ExtR R) (hV : Ext V w0) (hw : w0.heap.size ≤ w.heap.size) (hb : w0.heap.size ≤ base) : OwnN R k V w0 w base e v l :=
  h.mono fun cs x hx => hR _ _ cs x (minusO_base (mix_ext_v hV hw) fun g hg => Nat.le_trans hV.size (Nat.le_trans hb (h.lt g hg).1)) hx
/-- a cell of one's own turned -/
theorem OwnN.set_ {g c i j : Nat} {u : Value} {x x' : α} (h : OwnN R k V w0 w base e (.slice (some ⟨g, 0, none⟩) l.length c) l) (hi : l[i]? = some x) (hj : j < k)
    (hR : ∀ cs, R (minus (mixW V w0 w) g) cs x → cs.length = k → R (minus (mixW V w0 w) g) (cs.set j u) x') : OwnN R k V w0 (w.setCell ⟨g, i * k + j, none⟩ u) base e (.slice (some ⟨g, 0, none⟩) (l.set i x').length c) (l.set i x') := by
  unfold OwnN
  rw [minusO_mix_set]
  have h2 := OwnSl.set_ (x' := x') h hi hj hR
  rw [List.length_set]
  exact h2
/-- a fresh row lies apart from an older one -/
theorem OwnSl.apart {β : Type} {S : List Value → β → Prop} {k' : Nat} {base' : Nat} {e' : TypeId} {v' : Value} {m : List β} (h : OwnSl S k' w base' e' v' m) (hw : w0.heap.size ≤ base') (hv : ∀ g, v.ownBlock = some g → g < base') : Sl S k' (minusO (mixW V w0 w) v) (minusO (mixW V w0 w) v).heap.size v' m := by
  obtain ⟨A, c, hv', h1, h2, h3⟩ := h.sl
  refine ⟨A, c, hv', h1, h2, fun hne => ?_⟩
  obtain ⟨b, off, hA, hb, h4⟩ := h3 hne
  subst hv' hA
  have hlt := (h.lt b rfl).1
  refine ⟨b, off, rfl, by rw [minusO_size, mix_size]; exact hb, fun i x hx => ?_⟩
  obtain ⟨cs, h5, h6, h7⟩ := h4 i x hx
  refine ⟨cs, h5, h6, fun j u hu => ?_⟩
  rw [← h7 j u hu, ← mix_new (V := V) (w0 := w0) (w := w) (p := ⟨b, off + i * k' + j, none⟩) (Nat.le_trans hw hlt)]
  unfold minusO
  split
  · rfl
  · refine minus_far _ ?_
    have := hv _ ‹_›
    show b ≠ _
    omega
end

section
variable {P : Program}
theorem info_of {e : TypeId} {size bytes : Nat} (h : (P.info? e).map (fun i => (i.zero.map (·.cells.size), i.size, i.bytes)) = some (some size, size, bytes)) :
    ∃ i z, P.info? e = some i ∧ i.zero = some z ∧ z.cells.size = size ∧ i.size = size ∧ i.bytes = bytes := by
  obtain ⟨i, hi, hzz⟩ := Option.map_eq_some_iff.1 h
  simp only [Prod.mk.injEq] at hzz
  obtain ⟨z, hz, hc⟩ := Option.map_eq_some_iff.1 hzz.1
  exact ⟨i, z, hi, hz, hc, hzz.2.1, hzz.2.2⟩

end
end Go.Proofs.YtdbeoigbkkdpdaaGreatDoor
