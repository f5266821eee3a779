/- Worlds in which all that could be read can be read ('Ext'); rows of the call's own whose elements hold slices ('OwnN'). No program is known here. -/
import Derived.Test.YtaiekfeiaamemaaGreatDoorPOwn
import Derived.Test.YtaiekfeiaamemaaGreatDoorPCmp
set_option linter.all false
set_option linter.unnecessarySimpa false
set_option linter.unusedSimpArgs false
set_option linter.unusedVariables false
namespace Go.Proofs.YtaiekfeiaamemaaGreatDoor
open Go.ChangeShapes Go.WideShapes Go.ChangeAt Go.RowKit

structure Ext (w w' : World) : Prop where
  size : w.heap.size ≤ w'.heap.size
  cell : ∀ p u, w.cell? p = some u → w'.cell? p = some u
theorem Ext.refl (w : World) : Ext w w := ⟨Nat.le_refl _, fun _ _ h => h⟩
theorem Ext.trans {a b c : World} (h : Ext a b) (k : Ext b c) : Ext a c := ⟨Nat.le_trans h.size k.size, fun p u hp => k.cell p u (h.cell p u hp)⟩
theorem Ext.of_below {w w' : World} (h : Below w.heap.size w w') : Ext w w' := ⟨h.size, fun _ _ hp => kept_cell h hp⟩
theorem BW.ext {w : World} (z : BW w) : Ext w z.val := Ext.of_below z.below
section
variable {α : Type} {R R' : List Value → α → Prop} {k : Nat} {w w' : World} {v : Value} {l : List α}
theorem Sl.ext (h : Sl R k w w.heap.size v l) (hR : ∀ cs x, R cs x → R' cs x) (he : Ext w w') : Sl R' k w' w'.heap.size v l := by
  obtain ⟨A, c, hv, h1, h2, h3⟩ := h
  refine ⟨A, c, hv, h1, h2, fun hne => ?_⟩
  obtain ⟨b, off, hA, hb, h4⟩ := h3 hne
  refine ⟨b, off, hA, Nat.lt_of_lt_of_le hb he.size, fun i x hx => ?_⟩
  obtain ⟨cs, h5, h6, h7⟩ := h4 i x hx
  exact ⟨cs, hR _ _ h5, h6, fun j u hu => he.cell _ _ (h7 j u hu)⟩
end

/-- the world less a block -/
def minus (w : World) (g : Nat) : World := { w with heap := w.heap.setIfInBounds g (.cells #[] 0) }
theorem minus_size (w : World) (g : Nat) : (minus w g).heap.size = w.heap.size := by simp [minus]
theorem minus_far (w : World) {g : Nat} {p : Addr} (h : p.block ≠ g) : (minus w g).cell? p = w.cell? p := by
  refine World.cell?_of_block ?_
  simp [minus, Ne.symm h]
theorem minus_near (w : World) {g : Nat} {p : Addr} {u : Value} (h : (minus w g).cell? p = some u) : p.block ≠ g := by
  intro e
  have hlt := World.block_lt_of_cell? _ p h
  rw [minus_size] at hlt
  unfold World.cell? minus at h
  subst e
  simp only [Array.getElem?_setIfInBounds, if_pos, if_pos hlt] at h
  split at h <;> simp_all
theorem minus_ext (w : World) (g : Nat) : Ext (minus w g) w := ⟨by rw [minus_size]; exact Nat.le_refl _, fun p u h => by rw [← minus_far w (minus_near w h)]; exact h⟩
theorem minus_new {w w' : World} {g' : Nat} (h : Ext w w') (hg : w.heap.size ≤ g') : Ext w (minus w' g') :=
  ⟨by rw [minus_size]; exact h.size, fun p u hp => by
    have hlt := World.block_lt_of_cell? _ p hp
    rw [minus_far w' (by omega)]
    exact h.cell p u hp⟩
def minusO (w : World) (v : Value) : World := match v.ownBlock with
  | none => w
  | some g => minus w g
theorem minusO_size (w : World) (v : Value) : (minusO w v).heap.size = w.heap.size := by
  unfold minusO; split
  · rfl
  · exact minus_size _ _
theorem minusO_ext (w : World) (v : Value) : Ext (minusO w v) w := by
  unfold minusO; split
  · exact Ext.refl _
  · exact minus_ext _ _
theorem minusO_base {W w : World} {v : Value} (h : Ext W w) (hg : ∀ g, v.ownBlock = some g → W.heap.size ≤ g) : Ext W (minusO w v) := by
  unfold minusO; split
  · exact h
  · exact minus_new h (hg _ ‹_›)
/-- what V shows of the blocks that w0 had, and what w shows of the others: V is a world that shows less than w0 (a block of one's own is hidden in it) -/
def mixW (V w0 w : World) : World := { w with heap := Array.ofFn (n := w.heap.size) fun i => if i.val < w0.heap.size then (V.heap[i.val]?).getD (.cells #[] 0) else w.heap[i.val] }
theorem mix_size (V w0 w : World) : (mixW V w0 w).heap.size = w.heap.size := by simp [mixW]
theorem mix_old {V w0 w : World} {p : Addr} (h : p.block < w0.heap.size) (h' : p.block < w.heap.size) : (mixW V w0 w).cell? p = V.cell? p := by
  unfold World.cell? mixW
  simp only [Array.getElem?_ofFn, dif_pos h', if_pos h]
  cases V.heap[p.block]? with
  | none => simp
  | some o => rfl
theorem mix_new {V w0 w : World} {p : Addr} (h : w0.heap.size ≤ p.block) : (mixW V w0 w).cell? p = w.cell? p := by
  unfold World.cell? mixW
  by_cases h' : p.block < w.heap.size
  · simp only [Array.getElem?_ofFn, dif_pos h', if_neg (Nat.not_lt.2 h)]
    rw [Array.getElem?_eq_getElem h']
  · rw [Array.getElem?_eq_none (by simpa using h'), Array.getElem?_eq_none (by simpa using h')]
theorem mix_some {V w0 w : World} {p : Addr} {u : Value} (h : (mixW V w0 w).cell? p = some u) : p.block < w.heap.size ∧ (p.block < w0.heap.size ∧ V.cell? p = some u ∨ w0.heap.size ≤ p.block ∧ w.cell? p = some u) := by
  have hlt := World.block_lt_of_cell? _ p h
  rw [mix_size] at hlt
  refine ⟨hlt, ?_⟩
  by_cases hp : p.block < w0.heap.size
  · exact .inl ⟨hp, by rw [← h, mix_old hp hlt]⟩
  · exact .inr ⟨Nat.not_lt.1 hp, by rw [← h, mix_new (Nat.not_lt.1 hp)]⟩
theorem mix_ext_v {V w0 w : World} (h : Ext V w0) (hw : w0.heap.size ≤ w.heap.size) : Ext V (mixW V w0 w) :=
  ⟨by rw [mix_size]; exact Nat.le_trans h.size hw, fun p u hp => by
    have hlt := Nat.lt_of_lt_of_le (World.block_lt_of_cell? V p hp) h.size
    rw [mix_old hlt (Nat.lt_of_lt_of_le hlt hw)]; exact hp⟩
theorem mix_ext_w {V w0 w : World} (h : Ext V w0) (hb : Below w0.heap.size w0 w) : Ext (mixW V w0 w) w :=
  ⟨by rw [mix_size]; exact Nat.le_refl _, fun p u hp => by
    rcases (mix_some hp).2 with ⟨_, h2⟩ | ⟨_, h2⟩
    · exact kept_cell hb (h.cell p u h2)
    · exact h2⟩
theorem mix_below {V w0 w w' : World} (hb : Below w.heap.size w w') : Ext (mixW V w0 w) (mixW V w0 w') :=
  ⟨by rw [mix_size, mix_size]; exact hb.size, fun p u hp => by
    obtain ⟨h1, h2⟩ := mix_some hp
    have h3 : p.block < w'.heap.size := Nat.lt_of_lt_of_le h1 hb.size
    rcases h2 with ⟨h2, h4⟩ | ⟨h2, h4⟩
    · rw [mix_old h2 h3]; exact h4
    · rw [mix_new h2]; exact kept_cell hb h4⟩
/-- a call's result, met at a later world -/
theorem mix_later {V W z w' : World} (h : Ext V W) (hz : W.heap.size ≤ z.heap.size) : Ext (mixW V z w') (mixW V W w') :=
  ⟨by rw [mix_size, mix_size]; exact Nat.le_refl _, fun p u hp => by
    obtain ⟨h1, h2⟩ := mix_some hp
    rcases h2 with ⟨_, h4⟩ | ⟨h2, h4⟩
    · have hlt := Nat.lt_of_lt_of_le (World.block_lt_of_cell? V p h4) h.size
      rw [mix_old hlt h1]; exact h4
    · rw [mix_new (Nat.le_trans hz h2)]; exact h4⟩
theorem minusO_mix_below {V w0 w w' : World} (v : Value) (hb : Below w.heap.size w w') : Ext (minusO (mixW V w0 w) v) (minusO (mixW V w0 w') v) := by
  have h := mix_below (V := V) (w0 := w0) hb
  unfold minusO; split
  · exact h
  · refine ⟨by rw [minus_size, minus_size]; exact h.size, fun p u hp => ?_⟩
    have hne := minus_near _ hp
    rw [minus_far _ hne] at hp ⊢
    exact h.cell p u hp
theorem minusO_mix_set (V w0 w : World) (g i A n c : Nat) (u : Value) : minusO (mixW V w0 (w.setCell ⟨g, i, none⟩ u)) (.slice (some ⟨g, A, none⟩) n c) = minusO (mixW V w0 w) (.slice (some ⟨g, A, none⟩) n c) := by
  simp only [minusO, Value.ownBlock, minus, mixW, World.setCell]
  congr 1
  apply Array.ext_getElem?
  intro j
  by_cases e : g = j
  · subst e; simp [Array.getElem?_setIfInBounds]
  · simp only [Array.getElem?_setIfInBounds, if_neg e, Array.getElem?_ofFn, Array.size_modify]
    split
    · split
      · rfl
      · simp [Array.getElem_modify, e]
    · rfl
theorem minusO_mix_grown {V w0 w w' : World} {v v' : Value} (h : w.grownBy w' v.ownBlock) (hv : v'.ownBlock = v.ownBlock ∨ v'.ownBlock = some w.heap.size) : Ext (minusO (mixW V w0 w) v) (minusO (mixW V w0 w') v') := by
  have key : ∀ p u, (minusO (mixW V w0 w) v).cell? p = some u → p.block < w.heap.size ∧ v.ownBlock ≠ some p.block ∧ (mixW V w0 w').cell? p = some u := by
    intro p u hp
    have hne : v.ownBlock ≠ some p.block ∧ (mixW V w0 w).cell? p = some u := by
      unfold minusO at hp
      cases hb : v.ownBlock with
      | none => rw [hb] at hp; exact ⟨by simp, hp⟩
      | some g =>
        rw [hb] at hp
        have hn := minus_near _ hp
        rw [minus_far _ hn] at hp
        exact ⟨fun e => hn (Option.some.inj e).symm, hp⟩
    obtain ⟨h1, h2⟩ := mix_some hne.2
    refine ⟨h1, hne.1, ?_⟩
    rcases h2 with ⟨h2, h4⟩ | ⟨h2, h4⟩
    · rw [mix_old h2 (Nat.lt_of_lt_of_le h1 h.size)]; exact h4
    · rw [mix_new h2, World.cell?_of_block (h.block p.block h1 (fun e => hne.1 e.symm))]; exact h4
  refine ⟨by rw [minusO_size, minusO_size, mix_size, mix_size]; exact h.size, fun p u hp => ?_⟩
  obtain ⟨h1, h2, h3⟩ := key p u hp
  unfold minusO
  split
  · exact h3
  · rename_i g hg
    rw [minus_far _ (by
      rintro rfl
      rcases hv with hv | hv
      · exact h2 (hv ▸ hg)
      · rw [hg] at hv
        have := Option.some.inj hv
        omega)]
    exact h3

/-- a relation that may look into memory, and holds on where all can still be read -/
def ExtR {α : Type} (R : World → List Value → α → Prop) : Prop := ∀ w w' cs x, Ext w w' → R w cs x → R w' cs x
/-- a row of the call's own; what its elements hold lies elsewhere: in what V shows, or in new blocks (behind w0) -/
def OwnN {α : Type} (R : World → List Value → α → Prop) (k : Nat) (V w0 w : World) (base : Nat) (e : TypeId) (v : Value) (l : List α) : Prop := OwnSl (R (minusO (mixW V w0 w) v)) k w base e v l
section
variable {α : Type} {R : World → List Value → α → Prop} {k : Nat} {V w0 w w' : World} {base : Nat} {e : TypeId} {v : Value} {l : List α}
theorem OwnN.nil_ (V w0 w : World) (base : Nat) (e : TypeId) : OwnN R k V w0 w base e (.slice none 0 0) [] := OwnSl.nil_ _ _ _
theorem OwnN.next (h : OwnN R k V w0 w base e v l) (hR : ExtR R) (hb : Below w.heap.size w w') : OwnN R k V w0 w' base e v l :=
  (OwnSl.next h hb).mono fun cs x hx => hR _ _ cs x (minusO_mix_below v hb) hx
theorem OwnN.lt (h : OwnN R k V w0 w base e v l) : ∀ g, v.ownBlock = some g → base ≤ g ∧ g < w.heap.size := OwnSl.lt h
/-- read in what V shows and in new blocks alone -/
theorem OwnN.sl (h : OwnN R k V w0 w base e v l) (hR : ExtR R) (hb : w0.heap.size ≤ base) : Sl (R (mixW V w0 w)) k (mixW V w0 w) (mixW V w0 w).heap.size v l := by
  have hlt := h.lt
  obtain ⟨A, c, hv, h1, h2, h3⟩ := OwnSl.sl h
  refine ⟨A, c, hv, h1, h2, fun hne => ?_⟩
  obtain ⟨b, off, hA, hbb, h4⟩ := h3 hne
  subst hv hA
  have hbl := (hlt b rfl).1
  refine ⟨b, off, rfl, by rw [mix_size]; exact hbb, fun i x hx => ?_⟩
  obtain ⟨cs, h5, h6, h7⟩ := h4 i x hx
  exact ⟨cs, hR _ _ cs x (minusO_ext _ _) h5, h6, fun j u hu => by rw [mix_new (Nat.le_trans hb hbl)]; exact h7 j u hu⟩
theorem OwnN.of_sl (h : OwnSl (R V) k w base e v l) (hR : ExtR R) (hV : Ext V w0) (hw : w0.heap.size ≤ w.heap.size) (hb : w0.heap.size ≤ base) : OwnN R k V w0 w base e v l :=
  h.mono fun cs x hx => hR _ _ cs x (minusO_base (mix_ext_v hV hw) fun g hg => Nat.le_trans hV.size (Nat.le_trans hb (h.lt g hg).1)) hx
/-- a cell of one's own turned -/
theorem OwnN.set_ {g c i j : Nat} {u : Value} {x x' : α} (h : OwnN R k V w0 w base e (.slice (some ⟨g, 0, none⟩) l.length c) l) (hi : l[i]? = some x) (hj : j < k)
    (hR : ∀ cs, R (minus (mixW V w0 w) g) cs x → cs.length = k → R (minus (mixW V w0 w) g) (cs.set j u) x') : OwnN R k V w0 (w.setCell ⟨g, i * k + j, none⟩ u) base e (.slice (some ⟨g, 0, none⟩) (l.set i x').length c) (l.set i x') := by
  unfold OwnN
  rw [minusO_mix_set]
  have h2 := OwnSl.set_ (x' := x') h hi hj hR
  rw [List.length_set]
  exact h2
/-- a fresh row lies apart from an older one -/
theorem OwnSl.apart {β : Type} {S : List Value → β → Prop} {k' : Nat} {base' : Nat} {e' : TypeId} {v' : Value} {m : List β} (h : OwnSl S k' w base' e' v' m) (hw : w0.heap.size ≤ base') (hv : ∀ g, v.ownBlock = some g → g < base') : Sl S k' (minusO (mixW V w0 w) v) (minusO (mixW V w0 w) v).heap.size v' m := by
  obtain ⟨A, c, hv', h1, h2, h3⟩ := h.sl
  refine ⟨A, c, hv', h1, h2, fun hne => ?_⟩
  obtain ⟨b, off, hA, hb, h4⟩ := h3 hne
  subst hv' hA
  have hlt := (h.lt b rfl).1
  refine ⟨b, off, rfl, by rw [minusO_size, mix_size]; exact hb, fun i x hx => ?_⟩
  obtain ⟨cs, h5, h6, h7⟩ := h4 i x hx
  refine ⟨cs, h5, h6, fun j u hu => ?_⟩
  rw [← h7 j u hu, ← mix_new (V := V) (w0 := w0) (w := w) (p := ⟨b, off + i * k' + j, none⟩) (Nat.le_trans hw hlt)]
  unfold minusO
  split
  · rfl
  · refine minus_far _ ?_
    have := hv _ ‹_›
    show b ≠ _
    omega
end

section
variable {P : Program}
theorem info_of {e : TypeId} {size bytes : Nat} (h : (P.info? e).map (fun i => (i.zero.map (·.cells.size), i.size, i.bytes)) = some (some size, size, bytes)) :
    ∃ i z, P.info? e = some i ∧ i.zero = some z ∧ z.cells.size = size ∧ i.size = size ∧ i.bytes = bytes := by
  obtain ⟨i, hi, hzz⟩ := Option.map_eq_some_iff.1 h
  simp only [Prod.mk.injEq] at hzz
  obtain ⟨z, hz, hc⟩ := Option.map_eq_some_iff.1 hzz.1
  exact ⟨i, z, hi, hz, hc, hzz.2.1, hzz.2.2⟩

/-- 'append(own, other...)' at elements that hold slices -/
theorem append_slN {α : Type} {R : World → List Value → α → Prop} {size bytes : Nat} {e t : TypeId} (hinfo : (P.info? e).map (fun i => (i.zero.map (·.cells.size), i.size, i.bytes)) = some (some size, size, bytes)) (ht : P.underlying t = some (.slice e)) (h0 : 0 < size) (hbb : bytes ≤ 131072)
    (hR : ExtR R) (h1 : ∀ w cs x, R w cs x → ∀ u ∈ cs, u.oneCell' = true) {ops : Array Oper} {rest : List Oper} {o : Oper} {a : Act} {Q : Exit → Act → World → Prop} {V w0 w : World} (hgd : o.guard = none) (s x : Operand)
    (ho : o.op = .call { callee := .builtin .append, args := #[s, x], argTypes := #[t, t] }) (base : Nat) (v : Value) (l : List α) (hs : a.eval s = v) (hown : OwnN R size V w0 w base e v l)
    (v2 : Value) (m : List α) (hx : a.eval x = v2) (X : World) (hr : Sl (R (minusO (mixW V w0 w) v)) size X X.heap.size v2 m) (hX : Ext X w) (hbig : l.length + m.length ≤ 1073741824) (hbase : base ≤ w.heap.size)
    (h : ∀ v' w', OwnN R size V w0 w' base e v' (l ++ m) → w.grownBy w' v.ownBlock → wpList P ops Q rest (a.put o.dst v') w') : wpList P ops Q (o :: rest) a w := by
  obtain ⟨i, z, hi, hz, hzs, hsz, hby⟩ := info_of hinfo
  refine wpList_append_sl _ (fun cs x hx => h1 _ cs x hx) hgd s x t ho base e i z bytes ht hi hz hsz hby hzs h0 v l hs hown _ v2 m hx (hr.ext (fun _ _ h => h) hX) hbig hbb hbase ?_
  intro v' w' h2 h3 h4
  exact h v' w' (h2.mono fun cs x hx => hR _ _ cs x (minusO_mix_grown h3 h4) hx) h3

/-- 'append(own, x)': the one element lies in a block just made -/
theorem append_oneN {α : Type} {R : World → List Value → α → Prop} {size bytes : Nat} {e t : TypeId} (hinfo : (P.info? e).map (fun i => (i.zero.map (·.cells.size), i.size, i.bytes)) = some (some size, size, bytes)) (ht : P.underlying t = some (.slice e)) (h0 : 0 < size) (hbb : bytes ≤ 131072)
    (hR : ExtR R) (h1 : ∀ w cs x, R w cs x → ∀ u ∈ cs, u.oneCell' = true) {ops : Array Oper} {rest : List Oper} {o : Oper} {a : Act} {Q : Exit → Act → World → Prop} {V w0 w : World} (hgd : o.guard = none) (s x : Operand)
    (ho : o.op = .call { callee := .builtin .append, args := #[s, x], argTypes := #[t, t] }) (base : Nat) (v : Value) (l : List α) (hs : a.eval s = v) (hown : OwnN R size V w0 w base e v l)
    (cs : Array Value) (y : α) (g : Nat) (hx : a.eval x = .slice (some ⟨g, 0, none⟩) 1 1) (hgs : g = w.heap.size) (hr : R (minusO (mixW V w0 w) v) cs.toList y) (hc : cs.size = size) (hbig : l.length < 1073741824) (hbase : base ≤ w.heap.size)
    (h : ∀ v' w', OwnN R size V w0 w' base e v' (l ++ [y]) → (∀ g t' cs', Blk w g t' cs' → v.ownBlock ≠ some g → Blk w' g t' cs') → (∀ u : World, u.heap.size ≤ base → Below u.heap.size u w → Below u.heap.size u w') → wpList P ops Q rest (a.put o.dst v') w') :
    wpList P ops Q (o :: rest) a (w.alloc (.cells cs e)) := by
  subst hgs
  have hB : Blk (w.alloc (.cells cs e)) w.heap.size e cs := Blk.new _ _ _
  have hbw : Below w.heap.size w (w.alloc (.cells cs e)) := balloc (Below.refl _ w)
  have he : Ext (minusO (mixW V w0 w) v) (minusO (mixW V w0 (w.alloc (.cells cs e))) v) := minusO_mix_below v hbw
  have hone : OwnSl (R (minusO (mixW V w0 (w.alloc (.cells cs e))) v)) size (w.alloc (.cells cs e)) w.heap.size e (.slice (some ⟨w.heap.size, 0, none⟩) 1 1) [y] :=
    OwnSl.of_blk (l := [y]) hB (Chunks.one (by simpa using hc) (hR _ _ _ _ he hr)) (by simp)
  have hlt := hown.lt
  refine append_slN hinfo ht h0 hbb hR h1 hgd s x ho base v l hs (hown.next hR hbw) _ [y] hx _ hone.sl (Ext.refl _) (by simp only [List.length_singleton]; omega) (by simp; omega) ?_
  intro v' w' h2 h3
  refine h v' w' h2 (fun g t' cs' hg hne => (hg.alloc).grown h3 (fun e => hne e.symm)) (fun u hu hb => (balloc hb).grown h3 (balloc hb).size fun k hk => ?_)
  have := (hlt k hk).1; omega
end
end Go.Proofs.YtaiekfeiaamemaaGreatDoor
