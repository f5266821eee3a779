/- Another one subscribed: the program's. -/
import Derived.Test.YtmdeokneablgaaaDoorPSlice
import Derived.Test.YtmdeokneablgaaaDoorPCloseRef
import Derived.Test.YtmdeokneablgaaaDoorPInsertOut
/- More of worlds that show less: a cell of a block that lay there turned. No program is known here. -/
namespace Go.Proofs.YtmdeokneablgaaaDoor
open Go.ChangeShapes Go.WideShapes Go.ChangeAt Go.RowKit

/-- what V and new blocks show can be read in w, if what V shows can be -/
theorem mix_ext_at {V w0 w : World} (h : Ext V w) : Ext (mixW V w0 w) w :=
  ⟨by rw [mix_size]; exact Nat.le_refl _, fun p u hp => by
    rcases (mix_some hp).2 with ⟨_, h2⟩ | ⟨_, h2⟩
    · exact h.cell p u h2
    · exact h2⟩
theorem mix_set_old {V w0 w : World} {p : Addr} (hp : p.block < w0.heap.size) (u : Value) : mixW V w0 (w.setCell p u) = mixW V w0 w := by
  simp only [mixW, World.setCell]
  congr 1
  apply Array.ext_getElem?
  intro j
  simp only [Array.getElem?_ofFn, Array.size_modify]
  split
  · split
    · rfl
    · simp only [Array.getElem_modify, Option.some.injEq]
      rw [if_neg (by omega)]
  · rfl
theorem OwnSl.set_other {α : Type} {R : List Value → α → Prop} {k : Nat} {w : World} {base : Nat} {e : TypeId} {v : Value} {l : List α} (h : OwnSl R k w base e v l) {p : Addr} (hp : v.ownBlock ≠ some p.block) (u : Value) : OwnSl R k (w.setCell p u) base e v l :=
  h.kept (row := some p.block) ⟨rfl, rfl, rfl, by simp, fun i _ hne => Below.heap_setCell w p u i (fun e => hne (by rw [e]))⟩ (.inr hp)
theorem OwnN.set_old {α : Type} {R : World → List Value → α → Prop} {k : Nat} {V w0 w : World} {base : Nat} {e : TypeId} {v : Value} {l : List α} (h : OwnN R k V w0 w base e v l) {p : Addr} (hp : p.block < w0.heap.size) (hb : w0.heap.size ≤ base) (u : Value) : OwnN R k V w0 (w.setCell p u) base e v l := by
  unfold OwnN
  rw [mix_set_old hp]
  exact OwnSl.set_other h (fun e => by have := (h.lt _ e).1; omega) u
/-- behind a step that leaves all but one hidden block as it was -/
theorem OwnN.later {α : Type} {R : World → List Value → α → Prop} {k : Nat} {V W z w : World} {base : Nat} {e : TypeId} {v : Value} {l : List α} (h : OwnN R k V z w base e v l) (hR : ExtR R) (hV : Ext V W) (hz : W.heap.size ≤ z.heap.size) : OwnN R k V W w base e v l :=
  h.mono fun cs x hx => hR _ _ cs x (by
    have h1 := mix_later (w' := w) hV hz
    unfold minusO
    split
    · exact h1
    · refine ⟨by rw [minus_size, minus_size]; exact h1.size, fun p u hp => ?_⟩
      have hne := minus_near _ hp
      rw [minus_far _ hne] at hp ⊢
      exact h1.cell p u hp) hx

/-- the cells from o on turned, one after the other: what a store of a struct does -/
def setAll (w : World) (g : Nat) : Nat → List Value → World
  | _, [] => w
  | o, u :: r => setAll (w.setCell ⟨g, o, none⟩ u) g (o + 1) r
def setAllL : List Value → Nat → List Value → List Value
  | xs, _, [] => xs
  | xs, o, u :: r => setAllL (xs.set o u) (o + 1) r
theorem setAllL_mid : ∀ (r cs p rest : List Value), cs.length = r.length → setAllL (p ++ (cs ++ rest)) p.length r = p ++ (r ++ rest)
  | [], cs, p, rest, h => by
    have : cs = [] := List.eq_nil_of_length_eq_zero (by simpa using h)
    subst this; rfl
  | u :: r, [], p, rest, h => by simp at h
  | u :: r, d :: cs, p, rest, h => by
    have e : (p ++ (d :: cs ++ rest)).set p.length u = (p ++ [u]) ++ (cs ++ rest) := by
      rw [List.set_append_right _ _ (Nat.le_refl _)]
      simp
    rw [setAllL, e, show p.length + 1 = (p ++ [u]).length by simp, setAllL_mid r cs (p ++ [u]) rest (by simpa using h)]
    simp
theorem setAllL_right : ∀ (r p q : List Value) (o : Nat), setAllL (p ++ q) (p.length + o) r = p ++ setAllL q o r
  | [], _, _, _ => rfl
  | u :: r, p, q, o => by
    rw [setAllL, setAllL, List.set_append_right _ _ (by omega), show p.length + o - p.length = o by omega, Nat.add_assoc]
    exact setAllL_right r p (q.set o u) (o + 1)
theorem setAllL_length : ∀ (r xs : List Value) (o : Nat), (setAllL xs o r).length = xs.length
  | [], _, _ => rfl
  | u :: r, xs, o => by rw [setAllL, setAllL_length r, List.length_set]
theorem Chunks.setAll {α : Type} {R : List Value → α → Prop} {k : Nat} {r : List Value} {x' : α} (hr : r.length = k) (hR : R r x') : ∀ {xs : List Value} {l : List α}, Chunks R k xs l → ∀ {i : Nat}, i < l.length → Chunks R k (setAllL xs (i * k) r) (l.set i x')
  | _, [], _, i, hx => by simp at hx
  | _, y :: l, ⟨cs, rest, e, hk, h1, h⟩, 0, hx => by
    subst e
    rw [Nat.zero_mul, List.set_cons_zero]
    have := setAllL_mid r cs [] rest (by omega)
    simp only [List.nil_append, List.length_nil] at this
    rw [this]
    exact ⟨r, rest, rfl, hr, hR, h⟩
  | _, y :: l, ⟨cs, rest, e, hk, h1, h⟩, i + 1, hx => by
    subst e
    rw [List.set_cons_succ, show (i + 1) * k = cs.length + i * k by rw [hk, Nat.add_mul]; omega, setAllL_right]
    exact ⟨cs, _, rfl, hk, h1, h.setAll hr hR (by simpa using hx)⟩
theorem ownsRow_setAll {base k : Nat} {e : TypeId} {g n c : Nat} : ∀ (r : List Value) (w : World) (xs : List Value) (o : Nat), w.ownsRow base e k (.slice (some ⟨g, 0, none⟩) n c) n xs → (setAll w g o r).ownsRow base e k (.slice (some ⟨g, 0, none⟩) n c) n (setAllL xs o r)
  | [], _, _, _, h => h
  | u :: r, w, xs, o, h => ownsRow_setAll r _ _ _ (h.stored o u).1
theorem OwnSl.setAll {α : Type} {R : List Value → α → Prop} {k : Nat} {w : World} {base : Nat} {e : TypeId} {g c : Nat} {l : List α} {i : Nat} {r : List Value} {x' : α} (h : OwnSl R k w base e (.slice (some ⟨g, 0, none⟩) l.length c) l) (hi : i < l.length) (hr : r.length = k) (hR : R r x') :
    OwnSl R k (setAll w g (i * k) r) base e (.slice (some ⟨g, 0, none⟩) l.length c) (l.set i x') := by
  obtain ⟨xs, hown, hch⟩ := h
  exact ⟨_, by rw [List.length_set]; exact ownsRow_setAll r w xs _ hown, hch.1.setAll hr hR hi, by rw [List.length_set]; exact hch.2⟩
theorem minusO_mix_setAll {V w0 : World} {g A n c : Nat} : ∀ (r : List Value) (w : World) (o : Nat), minusO (mixW V w0 (setAll w g o r)) (.slice (some ⟨g, A, none⟩) n c) = minusO (mixW V w0 w) (.slice (some ⟨g, A, none⟩) n c)
  | [], _, _ => rfl
  | u :: r, w, o => by rw [setAll, minusO_mix_setAll r, minusO_mix_set]
theorem OwnN.setAll {α : Type} {R : World → List Value → α → Prop} {k : Nat} {V w0 w : World} {base : Nat} {e : TypeId} {g c : Nat} {l : List α} {i : Nat} {r : List Value} {x' : α} (h : OwnN R k V w0 w base e (.slice (some ⟨g, 0, none⟩) l.length c) l) (hi : i < l.length) (hr : r.length = k) (hR : R (minus (mixW V w0 w) g) r x') :
    OwnN R k V w0 (setAll w g (i * k) r) base e (.slice (some ⟨g, 0, none⟩) (l.set i x').length c) (l.set i x') := by
  unfold OwnN
  rw [minusO_mix_setAll, List.length_set]
  exact OwnSl.setAll h hi hr hR
theorem setAll_below {W : World} {g B : Nat} (hg : B ≤ g) : ∀ (r : List Value) (w : World) (o : Nat), Below B W w → Below B W (setAll w g o r)
  | [], _, _, h => h
  | _ :: r, _, _, h => setAll_below hg r _ _ (h.setCell hg _)
theorem minusO_mix_grown2 {V w0 w w' : World} {v v' : Value} (h : w.grownBy w' v.ownBlock) (hv : v'.ownBlock = v.ownBlock ∨ ∃ g, v'.ownBlock = some g ∧ w.heap.size ≤ g) : Ext (minusO (mixW V w0 w) v) (minusO (mixW V w0 w') v') := by
  have key : ∀ p u, (minusO (mixW V w0 w) v).cell? p = some u → p.block < w.heap.size ∧ v.ownBlock ≠ some p.block ∧ (mixW V w0 w').cell? p = some u := by
    intro p u hp
    have hne : v.ownBlock ≠ some p.block ∧ (mixW V w0 w).cell? p = some u := by
      unfold minusO at hp
      cases hb : v.ownBlock with
      | none => rw [hb] at hp; exact ⟨by simp, hp⟩
      | some g =>
        rw [hb] at hp
        have hn := minus_near _ hp
        rw [minus_far _ hn] at hp
        exact ⟨fun e => hn (Option.some.inj e).symm, hp⟩
    obtain ⟨h1, h2⟩ := mix_some hne.2
    refine ⟨h1, hne.1, ?_⟩
    rcases h2 with ⟨h2, h4⟩ | ⟨h2, h4⟩
    · rw [mix_old h2 (Nat.lt_of_lt_of_le h1 h.size)]; exact h4
    · rw [mix_new h2, World.cell?_of_block (h.block p.block h1 (fun e => hne.1 e.symm))]; exact h4
  refine ⟨by rw [minusO_size, minusO_size, mix_size, mix_size]; exact h.size, fun p u hp => ?_⟩
  obtain ⟨h1, h2, h3⟩ := key p u hp
  unfold minusO
  split
  · exact h3
  · rename_i g hg
    rw [minus_far _ (by
      rintro rfl
      rcases hv with hv | ⟨g, hv, hge⟩
      · exact h2 (hv ▸ hg)
      · rw [hg] at hv
        have := Option.some.inj hv
        omega)]
    exact h3
/-- what a call has made that was given a world which shows less than V, new blocks, and no row of one's own: it lies apart from that row -/
theorem mix_apart2 {V2 V W z w' : World} {v : Value} (h : Ext V2 (minusO (mixW V W z) v)) (hb : Below z.heap.size z w') (hz : W.heap.size ≤ z.heap.size) (hg : ∀ g, v.ownBlock = some g → g < z.heap.size) : Ext (mixW V2 z w') (minusO (mixW V W w') v) := by
  have h1 := minusO_mix_below (V := V) (w0 := W) v hb
  refine ⟨by rw [minusO_size, mix_size, mix_size]; exact Nat.le_refl _, fun p u hp => ?_⟩
  rcases (mix_some hp).2 with ⟨_, h5⟩ | ⟨h5, h6⟩
  · exact h1.cell p u (h.cell p u h5)
  · have h2 : (mixW V W w').cell? p = some u := by rw [mix_new (Nat.le_trans hz h5)]; exact h6
    unfold minusO
    split
    · exact h2
    · rename_i g hv
      rw [minus_far _ (by rintro rfl; have := hg _ hv; omega)]
      exact h2
theorem ext_apart {V W z : World} {v : Value} (hV : Ext V W) (hz : W.heap.size ≤ z.heap.size) (hg : ∀ g, v.ownBlock = some g → W.heap.size ≤ g) : Ext V (minusO (mixW V W z) v) :=
  minusO_base (mix_ext_v hV hz) fun g h => Nat.le_trans hV.size (hg g h)
end Go.Proofs.YtmdeokneablgaaaDoor
/- What opening a subscription comes to. -/
namespace Go.Proofs.YtmdeokneablgaaaDoor
open Go.ChangeShapes Go.WideShapes Go.ChangeAt Go.RowKit

def toLess (n : Int) (x : Out) : Bool := decide (x.to_ < n)
def toMore (n : Int) (x : Out) : Bool := decide (n < x.to_)
def openS (l : List Out) (x : Out) : List Out × Int := if (outsFormed 9223372036854775807 l && outsFormed 9223372036854775807 [x]) = true then (l.filter (toLess x.to_) ++ x :: l.filter (toMore x.to_), 0) else ([], 1)
theorem filter_less {n : Int} {l : List Out} {i : Nat} (hi : i ≤ l.length) (h2 : ∀ k x, k < i → l[k]? = some x → x.to_ < n) (h3 : ∀ k x, i ≤ k → l[k]? = some x → n ≤ x.to_) : l.filter (toLess n) = l.take i := by
  conv => lhs; rw [← List.take_append_drop i l]
  rw [List.filter_append, List.filter_eq_self.2, List.filter_eq_nil_iff.2, List.append_nil]
  · intro x hx
    obtain ⟨j, hj⟩ := List.mem_iff_getElem?.1 hx
    rw [List.getElem?_drop] at hj
    have := h3 _ x (Nat.le_add_right _ _) hj
    simp [toLess]; omega
  · intro x hx
    obtain ⟨j, hj⟩ := List.mem_iff_getElem?.1 hx
    rw [List.getElem?_take] at hj
    split at hj
    · have := h2 _ x (by assumption) hj
      simp [toLess]; omega
    · cases hj
theorem filter_more {n : Int} {l : List Out} {i : Nat} (hi : i ≤ l.length) (h2 : ∀ k x, k < i → l[k]? = some x → x.to_ ≤ n) (h3 : ∀ k x, i ≤ k → l[k]? = some x → n < x.to_) : l.filter (toMore n) = l.drop i := by
  conv => lhs; rw [← List.take_append_drop i l]
  rw [List.filter_append, List.filter_eq_nil_iff.2, List.filter_eq_self.2, List.nil_append]
  · intro x hx
    obtain ⟨j, hj⟩ := List.mem_iff_getElem?.1 hx
    rw [List.getElem?_drop] at hj
    have := h3 _ x (Nat.le_add_right _ _) hj
    simp [toMore]; omega
  · intro x hx
    obtain ⟨j, hj⟩ := List.mem_iff_getElem?.1 hx
    rw [List.getElem?_take] at hj
    split at hj
    · have := h2 _ x (by assumption) hj
      simp [toMore]; omega
    · cases hj
/-- what place found -/
theorem open_found {l : List Out} {x y : Out} {i : Nat} (hr : RisesBy Out.to_ l) (hy : l[i]? = some y) (hx : y.to_ = x.to_) : l.filter (toLess x.to_) ++ x :: l.filter (toMore x.to_) = l.set i x := by
  have hi := (List.getElem?_eq_some_iff.1 hy).1
  rw [filter_less (i := i) (Nat.le_of_lt hi), filter_more (i := i + 1) hi, List.set_eq_take_append_cons_drop, if_pos hi]
  · intro k z hk hz
    by_cases e : k = i
    · subst e; rw [hy] at hz; injection hz with hz; subst hz; omega
    · have := hr k i z y (by omega) hz hy; omega
  · intro k z hk hz
    have := hr i k y z (by omega) hy hz; omega
  · intro k z hk hz
    have := hr k i z y hk hz hy; omega
  · intro k z hk hz
    by_cases e : k = i
    · subst e; rw [hy] at hz; injection hz with hz; subst hz; omega
    · have := hr i k y z (by omega) hy hz; omega
theorem open_not {l : List Out} {x : Out} {i : Nat} (hr : RisesBy Out.to_ l) (hi : i ≤ l.length) (h2 : ∀ (k : Nat) (z : Out), k < i → l[k]? = some z → z.to_ < x.to_) (h3 : ∀ (k : Nat) (z : Out), i ≤ k → l[k]? = some z → x.to_ ≤ z.to_) (hf : foundAt Out.to_ l i x.to_ = false) :
    l.filter (toLess x.to_) ++ x :: l.filter (toMore x.to_) = l.take i ++ x :: l.drop i := by
  have h4 : ∀ (k : Nat) (z : Out), i ≤ k → l[k]? = some z → x.to_ < z.to_ := by
    intro k z hk hz
    have := h3 k z hk hz
    rcases Nat.lt_or_ge i k with h | h
    · cases hi' : l[i]? with
      | none =>
        have := (List.getElem?_eq_some_iff.1 hz).1
        have := List.getElem?_eq_none_iff.1 hi'
        omega
      | some y =>
        have h5 := h3 i y (Nat.le_refl _) hi'
        have := hr i k y z h hi' hz
        omega
    · obtain rfl : k = i := by omega
      rw [foundAt, hz] at hf
      have : z.to_ ≠ x.to_ := by simpa using hf
      omega
  rw [filter_less hi h2 h3, filter_more hi (fun k z hk hz => Int.le_of_lt (h2 k z hk hz)) h4]

/-- the reference's loop -/
def openStep (x : Out) (s : List Out × Bool) (y : Out) : List Out × Bool :=
  let s1 := if (!s.2 && decide (y.to_ ≥ x.to_)) = true then (s.1 ++ [x], true) else s
  if y.to_ ≠ x.to_ then (s1.1 ++ [y], s1.2) else s1
def openUpto (x : Out) (l : List Out) (m : Nat) : List Out × Bool := (l.take m).foldl (openStep x) ([], false)
theorem openUpto_zero (x : Out) (l : List Out) : openUpto x l 0 = ([], false) := rfl
theorem openUpto_succ {x y : Out} {l : List Out} {m : Nat} (h : l[m]? = some y) : openUpto x l (m + 1) = openStep x (openUpto x l m) y := by
  unfold openUpto
  rw [take_snoc h, List.foldl_append]
  rfl
theorem openUpto_len (x : Out) (l : List Out) (m : Nat) : (openUpto x l m).1.length ≤ 2 * m := by
  unfold openUpto
  have key : ∀ (t : List Out) (s : List Out × Bool), (t.foldl (openStep x) s).1.length ≤ s.1.length + 2 * t.length := by
    intro t
    induction t with
    | nil => intro s; simp
    | cons y t ih =>
      intro s
      rw [List.foldl_cons]
      refine Nat.le_trans (ih _) ?_
      have : (openStep x s y).1.length ≤ s.1.length + 2 := by
        unfold openStep
        dsimp only
        split <;> split <;> simp
      simp only [List.length_cons]
      omega
  refine Nat.le_trans (key _ _) ?_
  have := List.length_take_le m l
  simp only [List.length_nil]
  omega
theorem openFold_true (x : Out) : ∀ (l : List Out) (o : List Out), (∀ y ∈ l, x.to_ < y.to_) → l.foldl (openStep x) (o, true) = (o ++ l, true)
  | [], o, _ => by simp
  | y :: l, o, h => by
    have h1 := h y (List.mem_cons_self ..)
    rw [List.foldl_cons, show openStep x (o, true) y = (o ++ [y], true) by simp [openStep]; omega, openFold_true x l _ (fun z hz => h z (List.mem_cons_of_mem _ hz))]
    simp
theorem openFold (x : Out) : ∀ (l : List Out) (o : List Out), RisesBy Out.to_ l → (let s := l.foldl (openStep x) (o, false); if s.2 = true then s.1 else s.1 ++ [x]) = o ++ (l.filter (toLess x.to_) ++ x :: l.filter (toMore x.to_))
  | [], o, _ => by simp
  | y :: l, o, hr => by
    have hr2 : RisesBy Out.to_ l := fun i j a b hij ha hb => hr (i + 1) (j + 1) a b (by omega) (by simpa using ha) (by simpa using hb)
    have hab : ∀ z ∈ l, y.to_ < z.to_ := fun z hz => by
      obtain ⟨j, hj⟩ := List.mem_iff_getElem?.1 hz
      exact hr 0 (j + 1) y z (by omega) rfl (by simpa using hj)
    by_cases h1 : y.to_ < x.to_
    · have := openFold x l (o ++ [y]) hr2
      rw [List.foldl_cons, show openStep x (o, false) y = (o ++ [y], false) by
        have e1 : ¬ (x.to_ ≤ y.to_) := by omega
        have e2 : ¬ (y.to_ = x.to_) := by omega
        simp [openStep, e1, e2]]
      rw [this, List.filter_cons_of_pos (by simp [toLess]; omega), List.filter_cons_of_neg (by simp [toMore]; omega)]
      simp
    · have hl : (y :: l).filter (toLess x.to_) = [] := List.filter_eq_nil_iff.2 fun z hz => by
        rcases List.mem_cons.1 hz with rfl | hz
        · simp [toLess]; omega
        · have := hab z hz; simp [toLess]; omega
      have hm : l.filter (toMore x.to_) = l := List.filter_eq_self.2 fun z hz => by
        have := hab z hz; simp [toMore]; omega
      have ht := fun o => openFold_true x l o (fun z hz => by have := hab z hz; omega)
      by_cases h2 : y.to_ = x.to_
      · rw [List.foldl_cons, show openStep x (o, false) y = (o ++ [x], true) by simp [openStep, h2], ht, hl, List.filter_cons_of_neg (by simp [toMore]; omega), hm]
        simp
      · rw [List.foldl_cons, show openStep x (o, false) y = (o ++ [x] ++ [y], true) by
          have e1 : x.to_ ≤ y.to_ := by omega
          simp [openStep, h2, e1], ht, hl, List.filter_cons_of_pos (by simp [toMore]; omega), hm]
        simp
theorem outsFrom_len {n : Int} : ∀ {l : List Out} {e : Int}, e ≤ 63 → outsFrom n e l = true → (l.length : Int) + e ≤ 63
  | [], e, he, _ => by simpa using he
  | y :: l, e, he, h => by
    simp only [outsFrom, Bool.and_eq_true, decide_eq_true_eq, nodeB] at h
    have := outsFrom_len (l := l) (e := y.to_) (by omega) h.2
    simp only [List.length_cons]
    omega
theorem outsFormed_len {n : Int} {l : List Out} (h : outsFormed n l = true) : l.length ≤ 64 := by
  have := outsFrom_len (by omega) (show outsFrom n (-1) l = true from h)
  omega
end Go.Proofs.YtmdeokneablgaaaDoor
namespace Go.Proofs.YtmdeokneablgaaaDoor
open Go.ChangeShapes Go.WideShapes Go.ChangeAt Go.RowKit

set_option maxRecDepth 100000 in
set_option maxHeartbeats 3200000 in
theorem sessionOpen (x : Out) (l : List Out) (v vi : Value) (V w : World) (hV : Ext V w) (h : Outs V V.heap.size v l) (hs : Spans V V.heap.size vi x.interest) (i1 : I64 x.to_) (i2 : I64 x.session) (i3 : I64 x.at_) (i4 : I64 x.seq) :
    Calls Tryd.prog 17 #[v, .agg #[.int .i64 x.to_, .int .i64 x.session, vi, .int .i64 x.at_, .int .i64 x.seq]] w fun e w' => RetOuts (openS l x) V w e w' := by
  have hle := h.len_le
  have HH0 := Lib.hid h
  have HH := Lib.hid (Outs.ext h hV)
  have HSx := Lib.hid (hs.ext (fun _ _ h => h) hV)
  obtain ⟨A, c, rfl, -⟩ := id h
  obtain ⟨A1, c1, rfl, -⟩ := id hs
  generalize hr : outsFormed 9223372036854775807 l = r
  have HR := Lib.hid hr
  generalize hr2 : outsFormed 9223372036854775807 [x] = r2
  have HR2 := Lib.hid hr2
  generalize hq : openS l x = res
  have HS := Lib.hid hq
  clear h hs hr hr2 hq
  go_enter Tryd.func17, Tryd.ntmps17
  go_wp2_with fail
  have kB := balloc (o := .cells #[.int .i64 x.to_, .int .i64 x.session, .slice A1 x.interest.length c1, .int .i64 x.at_, .int .i64 x.seq] 54) (Below.refl _ w)
  have B := Blk.new w 54 #[.int .i64 x.to_, .int .i64 x.session, .slice A1 x.interest.length c1, .int .i64 x.at_, .int .i64 x.seq]
  have hWs : (w.alloc (.cells #[.int .i64 x.to_, .int .i64 x.session, .slice A1 x.interest.length c1, .int .i64 x.at_, .int .i64 x.seq] 54)).heap.size = w.heap.size + 1 := by simp
  generalize hW : w.alloc _ = W at *
  have HB := Lib.hid B
  clear hW B
  have q0 : ∀ z : BW W, z.val.cell? ⟨w.heap.size, 0, none⟩ = some (.int .i64 x.to_) := fun z => z.cell (HB.out.cell 0)
  have q1 : ∀ z : BW W, z.val.cell? ⟨w.heap.size, 1, none⟩ = some (.int .i64 x.session) := fun z => z.cell (HB.out.cell 1)
  have q2 : ∀ z : BW W, z.val.cell? ⟨w.heap.size, 2, none⟩ = some (.slice A1 x.interest.length c1) := fun z => z.cell (HB.out.cell 2)
  have q3 : ∀ z : BW W, z.val.cell? ⟨w.heap.size, 3, none⟩ = some (.int .i64 x.at_) := fun z => z.cell (HB.out.cell 3)
  have q4 : ∀ z : BW W, z.val.cell? ⟨w.heap.size, 4, none⟩ = some (.int .i64 x.seq) := fun z => z.cell (HB.out.cell 4)
  refine BW.start (w := W) ?_
  intro z0
  refine BW.callR (z := z0) (sessionFormedOuts l _ _ _ ((HH.out.next kB).next z0.below)) (congrArg Value.bool HR.out) ?_
  intro z
  cases r
  · go_wp2_with fail
    go_ret2
    exact RetOuts.nil_ (by rw [← HS.out, openS, if_neg (by rw [HR.out]; simp)]) (bnext kB z.below)
  go_wp2_with fail
  have hone : ∀ z : BW W, Outs (z.val.alloc (.cells #[.int .i64 x.to_, .int .i64 x.session, .slice A1 x.interest.length c1, .int .i64 x.at_, .int .i64 x.seq] 54)) (z.val.alloc (.cells #[.int .i64 x.to_, .int .i64 x.session, .slice A1 x.interest.length c1, .int .i64 x.at_, .int .i64 x.seq] 54)).heap.size (.slice (some ⟨z.val.heap.size, 0, none⟩) 1 1) [x] := fun z =>
    (OwnSl.of_blk (R := OutR _ _) (k := 5) (l := [x]) (Blk.new z.val 54 #[.int .i64 x.to_, .int .i64 x.session, .slice A1 x.interest.length c1, .int .i64 x.at_, .int .i64 x.seq]) (Chunks.one rfl ⟨_, rfl, i1, i2, i3, i4, ((HSx.out.next kB).next z.below).next (balloc (Below.refl _ _))⟩) (by simp)).sl
  refine BW.callR (z := z.alloc _) (sessionFormedOuts [x] _ _ _ (hone z)) (congrArg Value.bool HR2.out) ?_
  clear hone
  intro z1
  cases r2
  · go_wp2_with fail
    go_ret2
    exact RetOuts.nil_ (by rw [← HS.out, openS, if_neg (by rw [HR.out, HR2.out]; simp)]) (bnext kB z1.below)
  have hbig : l.length < 268435456 := by have := outsFormed_len HR.out; omega
  have HRi := Lib.hid (outsFrom_rises (show outsFrom _ (-1) l = true from HR.out))
  have hz1 := z1.size
  have hVs := hV.size
  have hV1 : Ext V z1.val := hV.trans ((Ext.of_below kB).trans z1.ext)
  go_wp2_with fail
  refine (sessionOuts l _ V _ hV1 HH0.out).mono ?_
  rintro e w2 ⟨⟨v2, rfl, hown⟩, hb2⟩
  have hz2 := hb2.size
  have q2' : w2.cell? ⟨w.heap.size, 2, none⟩ = some (.slice A1 x.interest.length c1) := kept_cell hb2 (q2 z1)
  have hsx2 := ((HSx.out.next kB).next z1.below).next hb2
  have hl2 := hown.lt
  obtain ⟨A2, c2, rfl⟩ := hown.form
  have HO := Lib.hid hown
  have HC := Lib.hid (cloneSpans _ _ _ hsx2)
  clear hown hsx2
  go_wp2_with fail
  refine HC.out.mono ?_
  rintro e w3 ⟨⟨v3, rfl, hown3⟩, hb3⟩
  have hz3 := hb3.size
  obtain ⟨A3, c3, rfl⟩ := hown3.form
  have hbl : Blk w3 w.heap.size 54 #[.int .i64 x.to_, .int .i64 x.session, .slice A1 x.interest.length c1, .int .i64 x.at_, .int .i64 x.seq] := ((HB.out.next z1.below).next hb2).next hb3
  have f2 := hbl.frozen 2
  have g0 := hbl.cell 0
  have g1 := hbl.cell 1
  have g2 := hbl.cell 2
  have g3 := hbl.cell 3
  have g4 := hbl.cell 4
  simp only [List.getElem?_toArray, List.getElem?_cons_zero, List.getElem?_cons_succ] at g0 g1 g2 g3 g4
  have hO3 := (HO.out.next extOut hb3).set_old (p := ⟨w.heap.size, 2, none⟩) (by simp; omega) (Nat.le_refl _) (.slice A3 x.interest.length c3)
  have hs3 := OwnSl.set_other hown3 (p := ⟨w.heap.size, 2, none⟩) (fun e => by have := (hown3.lt _ e).1; simp at this; omega) (.slice A3 x.interest.length c3)
  have hbl4 := hbl.set_ 2 (.slice A3 x.interest.length c3)
  have kB4 : Below w.heap.size w (w3.setCell ⟨w.heap.size, 2, none⟩ (.slice A3 x.interest.length c3)) := bset (bnext (bnext (bnext kB z1.below) hb2) hb3) (by simp)
  clear HO HC hown3 hbl
  have HO := Lib.hid hO3
  have HS3 := Lib.hid hs3
  have HB4 := Lib.hid hbl4
  have HK4 := Lib.hid kB4
  clear hO3 hs3 hbl4 kB4 HB HSx
  go_wp2_with fail
  clear g0 g1 g2 g3 g4 f2 q0 q1 q2 q3 q4 q2'
  have hw4s : w3.heap.size ≤ (w3.setCell ⟨w.heap.size, 2, none⟩ (.slice A3 x.interest.length c3)).heap.size := by simp
  generalize hw4 : w3.setCell _ _ = w4 at *
  clear hw4
  have hsl4 : Outs w4 w4.heap.size (.slice A2 l.length c2) l := Outs.ext (OwnN.sl HO.out extOut (Nat.le_refl _)) (mix_ext_at (hV.trans (Ext.of_below HK4.out)))
  refine (sessionPlace l x.to_ _ _ hsl4 HRi.out).mono ?_
  rintro e w5 ⟨i, h1, h2, h3, rfl, hb5⟩
  have hO5 := HO.out.next extOut hb5
  have hB5 := HB4.out.next hb5
  have hS5 := HS3.out.next hb5
  have hK5 := bnext HK4.out hb5
  have hz5 := hb5.size
  have g0 := hB5.cell 0
  have g1 := hB5.cell 1
  have g2 := hB5.cell 2
  have g3 := hB5.cell 3
  have g4 := hB5.cell 4
  simp only [List.setIfInBounds_toArray, List.set_cons_succ, List.set_cons_zero, List.getElem?_toArray, List.getElem?_cons_zero, List.getElem?_cons_succ] at g0 g1 g2 g3 g4
  clear HO HB4 HS3 HK4 hsl4
  have HO := Lib.hid hO5
  have HS3 := Lib.hid hS5
  have HK5 := Lib.hid hK5
  clear hO5 hS5 hK5 hB5
  cases hf : foundAt Out.to_ l i x.to_ with
  | true =>
    obtain ⟨y, hy, hyn⟩ : ∃ y, l[i]? = some y ∧ y.to_ = x.to_ := by
      unfold foundAt at hf
      split at hf
      · exact ⟨_, by assumption, by simpa using hf⟩
      · cases hf
    have HX := Lib.hid (HS.out.symm.trans (show openS l x = (l.set i x, 0) by rw [openS, HR.out, HR2.out, ← open_found HRi.out hy hyn]; rfl))
    have hil := (List.getElem?_eq_some_iff.1 hy).1
    have HY := Lib.hid hy
    rcases OwnSl.forms HO.out with ⟨hv, rfl⟩ | ⟨g, c4, hv, hg1, hg2⟩
    · simp at hil
    injection hv with hv1 hv2 hv3
    subst hv1 hv3
    have hO : OwnOuts V z1.val w5 z1.val.heap.size 54 (.slice (some ⟨g, 0, none⟩) l.length c2) l := HO.out
    obtain ⟨cs, ⟨vi, rfl, -⟩, _, hc⟩ := OwnSl.at_ hO hy
    have e0 := hc 0 _ rfl
    have e1 := hc 1 _ rfl
    have e2 := hc 2 _ rfl
    have e3 := hc 3 _ rfl
    have e4 := hc 4 _ rfl
    have z0 := OwnSl.frozen hO (i * 5)
    have z1' := OwnSl.frozen hO (i * 5 + 1)
    have z2 := OwnSl.frozen hO (i * 5 + 2)
    have z3 := OwnSl.frozen hO (i * 5 + 3)
    have z4 := OwnSl.frozen hO (i * 5 + 4)
    simp only [Nat.add_zero] at e0
    have hn3 := OwnN.setAll (r := [.int .i64 x.to_, .int .i64 x.session, .slice A3 x.interest.length c3, .int .i64 x.at_, .int .i64 x.seq]) (x' := x) hO hil rfl ⟨_, rfl, i1, i2, i3, i4,
      OwnSl.apart (V := V) (w0 := z1.val) (v := .slice (some ⟨g, 0, none⟩) l.length c2) HS3.out (by omega) (fun g' hg' => by have := hl2 g' hg'; omega)⟩
    have hn4 := Outs.ext (OwnN.sl (OwnN.later hn3 extOut hV (by omega)) extOut (by omega)) (Ext.refl _)
    have HN := Lib.hid hn4
    have HB6 := Lib.hid (setAll_below (g := g) (B := w.heap.size) (by omega) [.int .i64 x.to_, .int .i64 x.session, .slice A3 x.interest.length c3, .int .i64 x.at_, .int .i64 x.seq] w5 (i * 5) HK5.out)
    clear h2 h3 hf hy hyn hv2 hc hO hn3 hn4
    rw [List.length_set] at HN
    go_wp2_with fail
    go_ret2
    exact ⟨.slice (some ⟨g, 0, none⟩) l.length c2, by rw [HX.out]; rfl, by rw [HX.out]; exact HN.out, HB6.out⟩
  | false =>
    have HX := Lib.hid (HS.out.symm.trans (show openS l x = (l.take i ++ x :: l.drop i, 0) by rw [openS, HR.out, HR2.out, ← open_not HRi.out h1 h2 h3 hf]; rfl))
    clear h2 h3 hf
    have ha6 := balloc (o := .cells #[.int .i64 x.to_, .int .i64 x.session, .slice A3 x.interest.length c3, .int .i64 x.at_, .int .i64 x.seq] 54) (Below.refl _ w5)
    have hB6 := Blk.new w5 54 #[.int .i64 x.to_, .int .i64 x.session, .slice A3 x.interest.length c3, .int .i64 x.at_, .int .i64 x.seq]
    have hO6 := HO.out.next extOut ha6
    have hl6 := HO.out.lt
    have hC := insertOut (fun cs x h => oneOutR _ cs x h) l i x _ _ z1.val.heap.size _ _ hO6 (by have := ha6.size; omega) hB6 rfl ⟨_, rfl, i1, i2, i3, i4,
      OwnSl.apart (V := V) (w0 := z1.val) (v := .slice A2 l.length c2) (HS3.out.next ha6) (by omega) (fun g' hg' => by have := hl2 g' hg'; omega)⟩ (fun e => by have := hl6 _ e; omega) h1 (by omega)
    have HC := Lib.hid hC
    have HK6 := Lib.hid (bnext HK5.out ha6)
    have hz6 : w5.heap.size ≤ (w5.alloc (.cells #[.int .i64 x.to_, .int .i64 x.session, .slice A3 x.interest.length c3, .int .i64 x.at_, .int .i64 x.seq] 54)).heap.size := ha6.size
    clear hC hO6 hB6 ha6
    go_wp2_with fail
    refine HC.out.mono ?_
    rintro e w7 ⟨v7, rfl, hown7, hgr, hob⟩
    have hn7 : OwnOuts V z1.val w7 z1.val.heap.size 54 v7 (l.take i ++ x :: l.drop i) := hown7.mono fun cs x hx => extOut _ _ cs x (minusO_mix_grown2 hgr hob) hx
    have HN := Lib.hid (Outs.ext (OwnN.sl (OwnN.later hn7 extOut hV (by omega)) extOut (by omega)) (Ext.refl _))
    have HB7 : Below w.heap.size w w7 := HK6.out.grown hgr (by omega) (fun k hk => by have := hl6 k hk; omega)
    obtain ⟨A7, c7, rfl⟩ := hown7.form
    clear hown7 hn7 hgr hob HC
    generalize l.take i ++ x :: l.drop i = L at *
    go_wp2_with fail
    go_ret2
    exact ⟨.slice A7 L.length c7, by rw [HX.out]; rfl, by rw [HX.out]; exact HN.out, HB7⟩
end Go.Proofs.YtmdeokneablgaaaDoor
