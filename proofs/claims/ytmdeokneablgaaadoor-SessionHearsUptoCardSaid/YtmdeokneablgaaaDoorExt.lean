/- Worlds in which all that could be read can be read ('Ext'); rows of the call's own whose elements hold slices ('OwnN'). No program is known here. -/
import Derived.Test.YtmdeokneablgaaaDoorOwn
import Derived.Test.YtmdeokneablgaaaDoorRegion
namespace Go.Proofs.YtmdeokneablgaaaDoor
open Go.ChangeShapes Go.WideShapes Go.ChangeAt Go.RowKit

structure Ext (w w' : World) : Prop where
  size : w.heap.size ≤ w'.heap.size
  cell : ∀ p u, w.cell? p = some u → w'.cell? p = some u
theorem Ext.refl (w : World) : Ext w w := ⟨Nat.le_refl _, fun _ _ h => h⟩
theorem Ext.trans {a b c : World} (h : Ext a b) (k : Ext b c) : Ext a c := ⟨Nat.le_trans h.size k.size, fun p u hp => k.cell p u (h.cell p u hp)⟩
theorem Ext.of_below {w w' : World} (h : Below w.heap.size w w') : Ext w w' := ⟨h.size, fun _ _ hp => kept_cell h hp⟩
theorem BW.ext {w : World} (z : BW w) : Ext w z.val := Ext.of_below z.below
theorem Ext.of_grown {w w' : World} (h : w.grownBy w' none) : Ext w w' :=
  ⟨h.size, fun p u hp => by rw [World.cell?_of_block (h.block p.block (World.block_lt_of_cell? w p hp) (by simp))]; exact hp⟩

section
variable {α : Type} {R R' : List Value → α → Prop} {k : Nat} {w w' : World} {v : Value} {l : List α}
theorem Sl.ext (h : Sl R k w w.heap.size v l) (hR : ∀ cs x, R cs x → R' cs x) (he : Ext w w') : Sl R' k w' w'.heap.size v l := by
  obtain ⟨A, c, hv, h1, h2, h3⟩ := h
  refine ⟨A, c, hv, h1, h2, fun hne => ?_⟩
  obtain ⟨b, off, hA, hb, h4⟩ := h3 hne
  refine ⟨b, off, hA, Nat.lt_of_lt_of_le hb he.size, fun i x hx => ?_⟩
  obtain ⟨cs, h5, h6, h7⟩ := h4 i x hx
  exact ⟨cs, hR _ _ h5, h6, fun j u hu => he.cell _ _ (h7 j u hu)⟩
end

/-- the world less a block -/
def minus (w : World) (g : Nat) : World := { w with heap := w.heap.setIfInBounds g (.cells #[] 0) }
theorem minus_size (w : World) (g : Nat) : (minus w g).heap.size = w.heap.size := by simp [minus]
theorem minus_far (w : World) {g : Nat} {p : Addr} (h : p.block ≠ g) : (minus w g).cell? p = w.cell? p := by
  refine World.cell?_of_block ?_
  simp [minus, Ne.symm h]
theorem minus_near (w : World) {g : Nat} {p : Addr} {u : Value} (h : (minus w g).cell? p = some u) : p.block ≠ g := by
  intro e
  have hlt := World.block_lt_of_cell? _ p h
  rw [minus_size] at hlt
  unfold World.cell? minus at h
  subst e
  simp only [Array.getElem?_setIfInBounds, if_pos, if_pos hlt] at h
  split at h <;> simp_all
theorem minus_ext (w : World) (g : Nat) : Ext (minus w g) w := ⟨by rw [minus_size]; exact Nat.le_refl _, fun p u h => by rw [← minus_far w (minus_near w h)]; exact h⟩
theorem minus_set (w : World) (g i : Nat) (u : Value) : minus (w.setCell ⟨g, i, none⟩ u) g = minus w g := by
  simp only [minus, World.setCell]
  congr 1
  apply Array.ext_getElem?
  intro j
  by_cases e : g = j
  · subst e; simp [Array.getElem?_setIfInBounds]
  · simp [Array.getElem?_modify, e]
/-- what a world, grown at the block alone, still shows apart from it -/
theorem minus_grown {w w' : World} {g g' : Nat} (h : w.grownBy w' (some g)) (hg : g' = g ∨ w.heap.size ≤ g') : Ext (minus w g) (minus w' g') := by
  refine ⟨by rw [minus_size, minus_size]; exact h.size, fun p u hp => ?_⟩
  have hne := minus_near w hp
  have hlt := World.block_lt_of_cell? _ p hp
  rw [minus_size] at hlt
  rw [minus_far w hne] at hp
  rw [minus_far w' (by rcases hg with rfl | hg; exact hne; omega), World.cell?_of_block (h.block _ hlt (by simpa using hne))]
  exact hp
theorem minus_new {w w' : World} {g' : Nat} (h : Ext w w') (hg : w.heap.size ≤ g') : Ext w (minus w' g') :=
  ⟨by rw [minus_size]; exact h.size, fun p u hp => by
    have hlt := World.block_lt_of_cell? _ p hp
    rw [minus_far w' (by omega)]
    exact h.cell p u hp⟩
def minusO (w : World) (v : Value) : World := match v.ownBlock with
  | none => w
  | some g => minus w g
theorem minusO_size (w : World) (v : Value) : (minusO w v).heap.size = w.heap.size := by
  unfold minusO; split
  · rfl
  · exact minus_size _ _
theorem minusO_ext (w : World) (v : Value) : Ext (minusO w v) w := by
  unfold minusO; split
  · exact Ext.refl _
  · exact minus_ext _ _
theorem minusO_below {w w' : World} (v : Value) (h : Below w.heap.size w w') : Ext (minusO w v) (minusO w' v) := by
  unfold minusO; split
  · exact Ext.of_below h
  · exact minus_grown ⟨h.os, h.tape, h.output, h.size, fun i hi _ => h.block i hi⟩ (.inl rfl)
theorem minusO_base {W w : World} {v : Value} (h : Ext W w) (hg : ∀ g, v.ownBlock = some g → W.heap.size ≤ g) : Ext W (minusO w v) := by
  unfold minusO; split
  · exact h
  · exact minus_new h (hg _ ‹_›)
theorem minusO_grown {w w' : World} {v v' : Value} (h : w.grownBy w' v.ownBlock) (hv : v'.ownBlock = v.ownBlock ∨ v'.ownBlock = some w.heap.size) : Ext (minusO w v) (minusO w' v') := by
  unfold minusO
  rcases hv with hv | hv
  · rw [hv]
    split
    · rw [‹v.ownBlock = none›] at h
      exact Ext.of_grown h
    · rw [‹v.ownBlock = _›] at h
      exact minus_grown h (.inl rfl)
  · rw [hv]
    cases hb : v.ownBlock with
    | none =>
      rw [hb] at h
      exact minus_new (Ext.of_grown h) (Nat.le_refl _)
    | some g =>
      rw [hb] at h
      exact minus_grown h (.inr (Nat.le_refl _))
theorem minusO_set (w : World) (g i n c : Nat) (A : Nat) (u : Value) : minusO (w.setCell ⟨g, i, none⟩ u) (.slice (some ⟨g, A, none⟩) n c) = minusO w (.slice (some ⟨g, A, none⟩) n c) := minus_set w g i u

/-- a relation that may look into memory, and holds on where all can still be read -/
def ExtR {α : Type} (R : World → List Value → α → Prop) : Prop := ∀ w w' cs x, Ext w w' → R w cs x → R w' cs x
/-- a row of the call's own; what its elements hold lies elsewhere -/
def OwnN {α : Type} (R : World → List Value → α → Prop) (k : Nat) (w : World) (base : Nat) (e : TypeId) (v : Value) (l : List α) : Prop := OwnSl (R (minusO w v)) k w base e v l
section
variable {α : Type} {R : World → List Value → α → Prop} {k : Nat} {w w' : World} {base : Nat} {e : TypeId} {v : Value} {l : List α}
theorem OwnN.nil_ (w : World) (base : Nat) (e : TypeId) : OwnN R k w base e (.slice none 0 0) [] := OwnSl.nil_ _ _ _
theorem OwnN.next (h : OwnN R k w base e v l) (hR : ExtR R) (hb : Below w.heap.size w w') : OwnN R k w' base e v l :=
  (OwnSl.next h hb).mono fun cs x hx => hR _ _ cs x (minusO_below v hb) hx
theorem OwnN.sl (h : OwnN R k w base e v l) (hR : ExtR R) : Sl (R w) k w w.heap.size v l :=
  (OwnSl.sl h).ext (fun cs x hx => hR _ _ cs x (minusO_ext w v) hx) (Ext.refl w)
theorem OwnN.lt (h : OwnN R k w base e v l) : ∀ g, v.ownBlock = some g → base ≤ g ∧ g < w.heap.size := OwnSl.lt h
theorem OwnN.big (h : OwnN R k w base e v l) : l.length ≤ 1073741824 := by obtain ⟨_, _, _, h⟩ := h; exact h
theorem OwnN.of_sl {W : World} (h : OwnSl (R W) k w base e v l) (hR : ExtR R) (he : Ext W w) (hW : W.heap.size ≤ base) : OwnN R k w base e v l :=
  h.mono fun cs x hx => hR _ _ cs x (minusO_base he fun g hg => Nat.le_trans hW (h.lt g hg).1) hx
theorem OwnN.base_ {base' : Nat} (h : OwnN R k w base e v l) (hb : base' ≤ base) : OwnN R k w base' e v l := OwnSl.base h hb
/-- a cell of one's own turned -/
theorem OwnN.set_ {g c i j : Nat} {u : Value} {x x' : α} (h : OwnN R k w base e (.slice (some ⟨g, 0, none⟩) l.length c) l) (hi : l[i]? = some x) (hj : j < k)
    (hR : ∀ cs, R (minus w g) cs x → cs.length = k → R (minus w g) (cs.set j u) x') : OwnN R k (w.setCell ⟨g, i * k + j, none⟩ u) base e (.slice (some ⟨g, 0, none⟩) (l.set i x').length c) (l.set i x') := by
  unfold OwnN
  rw [minusO_set]
  have h2 := OwnSl.set_ (x' := x') h hi hj hR
  rw [List.length_set]
  exact h2
/-- a fresh row lies apart from an older one -/
theorem OwnSl.apart {β : Type} {S : List Value → β → Prop} {k' : Nat} {base' : Nat} {e' : TypeId} {v' : Value} {m : List β} (h : OwnSl S k' w base' e' v' m) (hv : ∀ g, v.ownBlock = some g → g < base') : Sl S k' (minusO w v) (minusO w v).heap.size v' m := by
  obtain ⟨A, c, hv', h1, h2, h3⟩ := h.sl
  refine ⟨A, c, hv', h1, h2, fun hne => ?_⟩
  obtain ⟨b, off, hA, hb, h4⟩ := h3 hne
  subst hv' hA
  have hlt := (h.lt b rfl).1
  refine ⟨b, off, rfl, by rw [minusO_size]; exact hb, fun i x hx => ?_⟩
  obtain ⟨cs, h5, h6, h7⟩ := h4 i x hx
  refine ⟨cs, h5, h6, fun j u hu => ?_⟩
  rw [← h7 j u hu]
  unfold minusO
  split
  · rfl
  · refine minus_far w ?_
    have := hv _ ‹_›
    show b ≠ _
    omega
end

section
variable {P : Program}
theorem info_of {e : TypeId} {size bytes : Nat} (h : (P.info? e).map (fun i => (i.zero.map (·.cells.size), i.size, i.bytes)) = some (some size, size, bytes)) :
    ∃ i z, P.info? e = some i ∧ i.zero = some z ∧ z.cells.size = size ∧ i.size = size ∧ i.bytes = bytes := by
  obtain ⟨i, hi, hzz⟩ := Option.map_eq_some_iff.1 h
  simp only [Prod.mk.injEq] at hzz
  obtain ⟨z, hz, hc⟩ := Option.map_eq_some_iff.1 hzz.1
  exact ⟨i, z, hi, hz, hc, hzz.2.1, hzz.2.2⟩

/-- 'append(own, other...)' at elements that hold slices -/
theorem append_slN {α : Type} {R : World → List Value → α → Prop} {size bytes : Nat} {e t : TypeId} (hinfo : (P.info? e).map (fun i => (i.zero.map (·.cells.size), i.size, i.bytes)) = some (some size, size, bytes)) (ht : P.underlying t = some (.slice e)) (h0 : 0 < size) (hbb : bytes ≤ 131072)
    (hR : ExtR R) (h1 : ∀ w cs x, R w cs x → ∀ u ∈ cs, u.oneCell' = true) {ops : Array Oper} {rest : List Oper} {o : Oper} {a : Act} {Q : Exit → Act → World → Prop} {w : World} (hgd : o.guard = none) (s x : Operand)
    (ho : o.op = .call { callee := .builtin .append, args := #[s, x], argTypes := #[t, t] }) (base : Nat) (v : Value) (l : List α) (hs : a.eval s = v) (hown : OwnN R size w base e v l)
    (v2 : Value) (m : List α) (hx : a.eval x = v2) (hr : Sl (R (minusO w v)) size (minusO w v) (minusO w v).heap.size v2 m) (hbig : l.length + m.length ≤ 1073741824) (hbase : base ≤ w.heap.size)
    (h : ∀ v' w', OwnN R size w' base e v' (l ++ m) → w.grownBy w' v.ownBlock → wpList P ops Q rest (a.put o.dst v') w') : wpList P ops Q (o :: rest) a w := by
  obtain ⟨i, z, hi, hz, hzs, hsz, hby⟩ := info_of hinfo
  refine wpList_append_sl _ (fun cs x hx => h1 _ cs x hx) hgd s x t ho base e i z bytes ht hi hz hsz hby hzs h0 v l hs hown _ v2 m hx (hr.ext (fun _ _ h => h) (minusO_ext w v)) hbig hbb hbase ?_
  intro v' w' h2 h3 h4
  exact h v' w' (h2.mono fun cs x hx => hR _ _ cs x (minusO_grown h3 h4) hx) h3

/-- 'append(own, x)': the one element lies in a block just made -/
theorem append_oneN {α : Type} {R : World → List Value → α → Prop} {size bytes : Nat} {e t : TypeId} (hinfo : (P.info? e).map (fun i => (i.zero.map (·.cells.size), i.size, i.bytes)) = some (some size, size, bytes)) (ht : P.underlying t = some (.slice e)) (h0 : 0 < size) (hbb : bytes ≤ 131072)
    (hR : ExtR R) (h1 : ∀ w cs x, R w cs x → ∀ u ∈ cs, u.oneCell' = true) {ops : Array Oper} {rest : List Oper} {o : Oper} {a : Act} {Q : Exit → Act → World → Prop} {w : World} (hgd : o.guard = none) (s x : Operand)
    (ho : o.op = .call { callee := .builtin .append, args := #[s, x], argTypes := #[t, t] }) (base : Nat) (v : Value) (l : List α) (hs : a.eval s = v) (hown : OwnN R size w base e v l)
    (cs : Array Value) (y : α) (g : Nat) (hx : a.eval x = .slice (some ⟨g, 0, none⟩) 1 1) (hgs : g = w.heap.size) (hr : R (minusO w v) cs.toList y) (hc : cs.size = size) (hbig : l.length < 1073741824) (hbase : base ≤ w.heap.size)
    (h : ∀ v' w', OwnN R size w' base e v' (l ++ [y]) → (∀ g t' cs', Blk w g t' cs' → v.ownBlock ≠ some g → Blk w' g t' cs') → (∀ u : World, u.heap.size ≤ base → Below u.heap.size u w → Below u.heap.size u w') → Ext (minusO w v) w' → wpList P ops Q rest (a.put o.dst v') w') :
    wpList P ops Q (o :: rest) a (w.alloc (.cells cs e)) := by
  subst hgs
  have hB : Blk (w.alloc (.cells cs e)) w.heap.size e cs := Blk.new _ _ _
  have he : Ext (minusO w v) (minusO (w.alloc (.cells cs e)) v) := minusO_below v (balloc (Below.refl _ w))
  have hone : OwnSl (R (minusO (w.alloc (.cells cs e)) v)) size (w.alloc (.cells cs e)) w.heap.size e (.slice (some ⟨w.heap.size, 0, none⟩) 1 1) [y] :=
    OwnSl.of_blk (l := [y]) hB (Chunks.one (by simpa using hc) (hR _ _ _ _ he hr)) (by simp)
  have hlt := hown.lt
  refine append_slN hinfo ht h0 hbb hR h1 hgd s x ho base v l hs (hown.next hR (balloc (Below.refl _ w))) _ [y] hx (hone.apart fun g hg => (hlt g hg).2) (by simp only [List.length_singleton]; omega) (by simp; omega) ?_
  intro v' w' h2 h3
  refine h v' w' h2 (fun g t' cs' hg hne => (hg.alloc).grown h3 (fun e => hne e.symm)) (fun u hu hb => (balloc hb).grown h3 (balloc hb).size fun k hk => ?_) (he.trans ?_)
  · have := (hlt k hk).1; omega
  · cases hb : v.ownBlock with
    | none =>
      rw [hb] at h3
      unfold minusO
      rw [hb]
      exact Ext.of_grown h3
    | some g =>
      rw [hb] at h3
      unfold minusO
      rw [hb]
      exact (minus_grown h3 (.inl rfl)).trans (minus_ext _ _)
end
end Go.Proofs.YtmdeokneablgaaaDoor
