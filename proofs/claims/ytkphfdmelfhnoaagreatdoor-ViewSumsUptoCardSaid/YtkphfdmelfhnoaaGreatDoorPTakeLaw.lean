/- A note is taken: the pieces' zones are the objects' zones. No program is known here. -/
import Derived.Test.YtkphfdmelfhnoaaGreatDoorPSinceSame
set_option linter.all false
set_option linter.unnecessarySimpa false
set_option linter.unusedSimpArgs false
set_option linter.unusedVariables false
namespace Go.Proofs.YtkphfdmelfhnoaaGreatDoor
def InZ (l : List Zone) (o : Int) (v : List Stamp) : Prop := ∃ x ∈ l, x.span.lo ≤ o ∧ o ≤ x.span.hi ∧ x.vec = v
theorem inZ_append {l m : List Zone} {o : Int} {v : List Stamp} : InZ (l ++ m) o v ↔ InZ l o v ∨ InZ m o v := by
 unfold InZ
 constructor
 ·rintro ⟨x, hx, h⟩
  rcases List.mem_append.1 hx with hx | hx
  ·exact .inl ⟨x, hx, h⟩
  ·exact .inr ⟨x, hx, h⟩
 ·rintro (⟨x, hx, h⟩ | ⟨x, hx, h⟩)
  ·exact ⟨x, List.mem_append_left _ hx, h⟩
  ·exact ⟨x, List.mem_append_right _ hx, h⟩
theorem inZ_one {x : Zone} {o : Int} {v : List Stamp} : InZ [x] o v ↔ x.span.lo ≤ o ∧ o ≤ x.span.hi ∧ x.vec = v := by simp [InZ]
def joinStep (out : List Zone) (x : Zone) : List Zone :=
 match out.getLast? with
 | some y => if y.span.hi + 1 = x.span.lo ∧ y.vec = x.vec then out.dropLast ++ [⟨⟨y.span.lo, x.span.hi⟩, y.vec⟩] else out ++ [x]
 | none => out ++ [x]
def joinZ (l : List Zone) : List Zone := l.foldl joinStep []
theorem joinZ_snoc (l : List Zone) (x : Zone) : joinZ (l ++ [x]) = joinStep (joinZ l) x := by simp [joinZ]
structure JoinInv (s l : List Zone) : Prop where
 formed : zonesFrom none l = true
 mem : ∀ o v, InZ l o v ↔ InZ s o v
 last : zoneEnd l.getLast? = zoneEnd s.getLast?
 len : l.length ≤ s.length
theorem JoinInv.nil : JoinInv [] [] := ⟨rfl, fun _ _ => Iff.rfl, rfl, Nat.le_refl _⟩
theorem zonesFrom_snoc {l : List Zone} {x : Zone} : zonesFrom none (l ++ [x]) = (zonesFrom none l && (zoneNext l.getLast? x && zoneOk x)) := by
 rw [zonesFrom_append, zonesFrom, zonesFrom, Bool.and_true, Option.or_none]
theorem JoinInv.step {s l : List Zone} {x : Zone} (h : JoinInv s l) (h1 : zoneEnd s.getLast? < x.span.lo) (h2 : zoneOk x = true) : JoinInv (s ++ [x]) (joinStep l x) := by
 obtain ⟨a, b, c, d⟩ := h
 rw [← c] at h1
 have hplain : zoneTouch l.getLast? x = false → JoinInv (s ++ [x]) (l ++ [x]) := fun ht => by
  refine ⟨?_, fun o v => by rw [inZ_append, inZ_append, b], by rw [List.getLast?_concat, List.getLast?_concat], by simp; exact d⟩
  rw [zonesFrom_snoc, a, h2, zoneNext, ht]
  simp [h1]
 unfold joinStep
 split
 ·rename_i y hy
  split
  ·rename_i he
   obtain ⟨e1, e2⟩ := he
   have hl := list_last hy
   obtain ⟨D, hD⟩ : ∃ D, l.dropLast = D := ⟨_, rfl⟩
   rw [hD] at hl ⊢
   subst hl
   rw [zonesFrom_snoc, Bool.and_eq_true, Bool.and_eq_true] at a
   obtain ⟨a1, a2, a3⟩ := a
   simp only [zoneOk, Bool.and_eq_true, decide_eq_true_eq] at a3 h2
   refine ⟨?_, fun o v => ?_, by rw [List.getLast?_concat, List.getLast?_concat]; rfl, by simp at d ⊢; omega⟩
   ·rw [zonesFrom_snoc, a1, Bool.true_and, Bool.and_eq_true]
    refine ⟨a2, ?_⟩
    simp only [zoneOk, Bool.and_eq_true, decide_eq_true_eq]
    exact ⟨⟨by omega, h2.1.2⟩, a3.2⟩
   ·rw [inZ_append, inZ_append, ← b, inZ_append, inZ_one, inZ_one, inZ_one]
    refine Iff.trans ?_ or_assoc.symm
    refine or_congr Iff.rfl ?_
    rw [← e2]
    simp only
    constructor
    ·rintro ⟨p, q, r⟩
     rcases Int.lt_or_le y.span.hi o with h | h
     ·exact .inr ⟨by omega, q, r⟩
     ·exact .inl ⟨p, h, r⟩
    ·rintro (⟨p, q, r⟩ | ⟨p, q, r⟩)
     ·exact ⟨p, by omega, r⟩
     ·exact ⟨by omega, q, r⟩
  ·rename_i he
   refine hplain ?_
   rw [hy]
   simp only [zoneTouch, Bool.and_eq_false_iff, decide_eq_false_iff_not]
   exact Decidable.not_and_iff_or_not.1 he
 ·rename_i hn
  exact hplain (by rw [hn]; rfl)
def Apart (s : List Zone) : Prop := s.Pairwise (fun x y => x.span.hi < y.span.lo) ∧ ∀ x ∈ s, 0 ≤ x.span.lo ∧ zoneOk x = true
theorem apart_end {s : List Zone} {x : Zone} (h : Apart (s ++ [x])) : zoneEnd s.getLast? < x.span.lo := by
 cases hs : s.getLast? with
 | none => have := (h.2 x (by simp)).1; show (-1 : Int) < _; omega
 | some y => exact (List.pairwise_append.1 h.1).2.2 y (List.mem_of_getLast? hs) x (by simp)
theorem joinZ_inv {s : List Zone} (h : Apart s) : ∀ n, n ≤ s.length → JoinInv (s.take n) (joinZ (s.take n)) := by
 intro n
 induction n with
 | zero => exact fun _ => JoinInv.nil
 | succ n ih =>
  intro hn
  have hs := List.take_succ_eq_append_getElem (show n < s.length from hn)
  have hA : Apart (s.take (n + 1)) := ⟨h.1.sublist (List.take_sublist _ _), fun x hx => h.2 x (List.mem_of_mem_take hx)⟩
  rw [hs] at hA
  rw [hs, joinZ_snoc]
  exact (ih (by omega)).step (apart_end hA) (hA.2 _ (List.mem_append_right _ (List.mem_singleton.2 rfl))).2
theorem joinZ_formed {s : List Zone} (h : Apart s) : zonesFormed (joinZ s) = true ∧ ∀ o v, InZ (joinZ s) o v ↔ InZ s o v := by
 have := joinZ_inv h s.length (Nat.le_refl _)
 rw [List.take_length] at this
 exact ⟨this.formed, this.mem⟩
theorem zones_unique : ∀ {l m : List Zone} {p q : Option Zone}, zonesFrom p l = true → zonesFrom q m = true → (∀ o v, InZ l o v ↔ InZ m o v) → l = m
 | [], [], _, _, _, _, _ => rfl
 | x :: l, [], p, q, h1, _, h => by
  have := (zones_pair h1).2 x (by simp)
  obtain ⟨y, hy, _⟩ := (h x.span.lo x.vec).1 ⟨x, by simp, Int.le_refl _, this.2, rfl⟩
  cases hy
 | [], y :: m, p, q, _, h2, h => by
  have := (zones_pair h2).2 y (by simp)
  obtain ⟨x, hx, _⟩ := (h y.span.lo y.vec).2 ⟨y, by simp, Int.le_refl _, this.2, rfl⟩
  cases hx
 | x :: l, y :: m, p, q, h1, h2, h => by
  have a1 := zones_pair h1
  have a2 := zones_pair h2
  obtain ⟨b1, b2⟩ := List.pairwise_cons.1 a1.1
  obtain ⟨c1, c2⟩ := List.pairwise_cons.1 a2.1
  have hx := a1.2 x (by simp)
  have hy := a2.2 y (by simp)
  have go : ∀ {x y : Zone} {l m : List Zone} {p q : Option Zone}, zonesFrom p (x :: l) = true → zonesFrom q (y :: m) = true → (∀ o v, InZ (x :: l) o v ↔ InZ (y :: m) o v) → y.span.lo ≤ x.span.lo := by
   intro x y l m p q h1 h2 h
   have hx := (zones_pair h1).2 x (by simp)
   obtain ⟨z, hz, h3, _⟩ := (h x.span.lo x.vec).1 ⟨x, by simp, Int.le_refl _, hx.2, rfl⟩
   rcases List.mem_cons.1 hz with rfl | hz
   ·exact h3
   ·have := (List.pairwise_cons.1 (zones_pair h2).1).1 z hz
    have := (zones_pair h2).2 y (by simp)
    omega
  have e1 : x.span.lo = y.span.lo := Int.le_antisymm (go h2 h1 fun o v => (h o v).symm) (go h1 h2 h)
  have e2 : x.vec = y.vec := by
   obtain ⟨z, hz, h3, h4, h5⟩ := (h x.span.lo x.vec).1 ⟨x, by simp, Int.le_refl _, hx.2, rfl⟩
   rcases List.mem_cons.1 hz with rfl | hz
   ·exact h5.symm
   ·have := c1 z hz; omega
  have le : ∀ {x y : Zone} {l m : List Zone} {p q : Option Zone}, zonesFrom p (x :: l) = true → zonesFrom q (y :: m) = true → (∀ o v, InZ (x :: l) o v ↔ InZ (y :: m) o v) → x.span.lo = y.span.lo → x.vec = y.vec → y.span.hi ≤ x.span.hi := by
   intro x y l m p q h1 h2 h e1 e2
   rcases Int.lt_or_le x.span.hi y.span.hi with h3 | h3
   ·exfalso
    have hx := (zones_pair h1).2 x (by simp)
    obtain ⟨z, hz, h4, h5, h6⟩ := (h (x.span.hi + 1) y.vec).2 ⟨y, by simp, by omega, by omega, rfl⟩
    rcases List.mem_cons.1 hz with rfl | hz
    ·omega
    ·rw [zonesFrom, Bool.and_eq_true] at h1
     cases l with
     | nil => cases hz
     | cons w l =>
      have g1 := h1.2
      have g3 := zones_pair g1
      rw [zonesFrom, Bool.and_eq_true, Bool.and_eq_true, zoneNext, Bool.and_eq_true, decide_eq_true_eq] at g1
      have g2 : x.span.hi < w.span.lo := g1.1.1.1
      have g4 : ¬ (x.span.hi + 1 = w.span.lo ∧ x.vec = w.vec) := by
       have := g1.1.1.2
       simp only [zoneTouch, Bool.not_eq_true', Bool.and_eq_false_iff, decide_eq_false_iff_not] at this
       exact Decidable.not_and_iff_or_not.2 this
      rcases List.mem_cons.1 hz with rfl | hz
      ·exact g4 ⟨by omega, by rw [e2, h6]⟩
      ·have := (List.pairwise_cons.1 g3.1).1 z hz
       have := (g3.2 w (by simp)).2
       omega
   ·exact h3
  have e3 : x.span.hi = y.span.hi := Int.le_antisymm (le h2 h1 (fun o v => (h o v).symm) e1.symm e2.symm) (le h1 h2 h e1 e2)
  have e : x = y := by
   obtain ⟨⟨xl, xh⟩, xv⟩ := x
   obtain ⟨⟨yl, yh⟩, yv⟩ := y
   simp only at e1 e2 e3
   subst e1 e2 e3
   rfl
  subst e
  rw [zonesFrom, Bool.and_eq_true] at h1 h2
  congr 1
  refine zones_unique h1.2 h2.2 fun o v => ?_
  have hh := h o v
  rw [show x :: l = [x] ++ l from rfl, show x :: m = [x] ++ m from rfl, inZ_append, inZ_append, inZ_one] at hh
  constructor
  ·intro hi
   rcases hh.1 (.inr hi) with h7 | h7
   ·obtain ⟨z, hz, h8, _⟩ := hi
    have := b1 z hz; omega
   ·exact h7
  ·intro hi
   rcases hh.2 (.inr hi) with h7 | h7
   ·obtain ⟨z, hz, h8, _⟩ := hi
    have := c1 z hz; omega
   ·exact h7
def dotsZ (f : Nat → Option (List Stamp)) : Nat → List Zone
 | 0 => []
 | n + 1 => dotsZ f n ++ (match f n with | some v => [⟨⟨(n : Nat), (n : Nat)⟩, v⟩] | none => [])
theorem dotsZ_in {f : Nat → Option (List Stamp)} : ∀ {n : Nat} {o : Int} {v : List Stamp}, InZ (dotsZ f n) o v ↔ ∃ k : Nat, k < n ∧ o = k ∧ f k = some v
 | 0, o, v => by simp [dotsZ, InZ]
 | n + 1, o, v => by
  rw [dotsZ, inZ_append, dotsZ_in]
  constructor
  ·rintro (⟨k, h1, h2⟩ | h)
   ·exact ⟨k, by omega, h2⟩
   ·cases hf : f n with
    | none => rw [hf] at h; simp [InZ] at h
    | some u =>
     rw [hf, inZ_one] at h
     simp only at h
     exact ⟨n, by omega, by omega, by rw [hf, h.2.2]⟩
  ·rintro ⟨k, h1, h2, h3⟩
   rcases Nat.lt_or_ge k n with h | h
   ·exact .inl ⟨k, h, h2, h3⟩
   ·obtain rfl : k = n := by omega
    right
    rw [h3, inZ_one]
    exact ⟨by simp; omega, by simp; omega, rfl⟩
theorem dotsZ_apart {f : Nat → Option (List Stamp)} (hf : ∀ o v, f o = some v → vecFormed v = true) : ∀ n, n ≤ 256 → Apart (dotsZ f n) ∧ ∀ x ∈ dotsZ f n, x.span.hi < n := by
 intro n
 induction n with
 | zero => exact fun _ => ⟨⟨.nil, fun x hx => by cases hx⟩, fun x hx => by cases hx⟩
 | succ n ih =>
  intro hn
  obtain ⟨⟨h1, h2⟩, h3⟩ := ih (by omega)
  rw [dotsZ]
  cases h : f n with
  | none => rw [List.append_nil]; exact ⟨⟨h1, h2⟩, fun x hx => by have := h3 x hx; omega⟩
  | some v =>
   refine ⟨⟨List.pairwise_append.2 ⟨h1, by simp, fun x hx y hy => ?_⟩, fun x hx => ?_⟩, fun x hx => ?_⟩
   ·rw [List.mem_singleton.1 hy]; exact h3 x hx
   ·rcases List.mem_append.1 hx with hx | hx
    ·exact h2 x hx
    ·rw [List.mem_singleton.1 hx]
     simp only [zoneOk, Bool.and_eq_true, decide_eq_true_eq]
     exact ⟨by omega, ⟨Int.le_refl _, by omega⟩, hf n v h⟩
   ·rcases List.mem_append.1 hx with hx | hx
    ·have := h3 x hx; omega
    ·rw [List.mem_singleton.1 hx]; simp only; omega
def zonesOf (f : Nat → Option (List Stamp)) : List Zone := joinZ (dotsZ f 256)
theorem zones_dots {f : Nat → Option (List Stamp)} (hf : ∀ o v, f o = some v → vecFormed v = true) (n : Nat) (hn : n ≤ 256) : zonesFormed (joinZ (dotsZ f n)) = true ∧ ∀ o v, InZ (joinZ (dotsZ f n)) o v ↔ ∃ k : Nat, k < n ∧ o = k ∧ f k = some v := by
 obtain ⟨h1, h2⟩ := joinZ_formed (dotsZ_apart hf n hn).1
 exact ⟨h1, fun o v => (h2 o v).trans dotsZ_in⟩
theorem zonesOf_in {f : Nat → Option (List Stamp)} (hf : ∀ o v, f o = some v → vecFormed v = true) : zonesFormed (zonesOf f) = true ∧ ∀ o v, InZ (zonesOf f) o v ↔ ∃ k : Nat, k < 256 ∧ o = k ∧ f k = some v := zones_dots hf 256 (Nat.le_refl _)
theorem joinZ_of {f : Nat → Option (List Stamp)} (hf : ∀ o v, f o = some v → vecFormed v = true) {s : List Zone} (hs : Apart s) (h : ∀ o v, InZ s o v ↔ ∃ k : Nat, k < 256 ∧ o = k ∧ f k = some v) : joinZ s = zonesOf f := by
 obtain ⟨h1, h2⟩ := joinZ_formed hs
 obtain ⟨Z, hZ⟩ : ∃ Z, zonesOf f = Z := ⟨_, rfl⟩
 have hz := zonesOf_in hf
 rw [hZ] at hz ⊢
 exact zones_unique h1 hz.1 fun o v => ((h2 o v).trans (h o v)).trans (hz.2 o v).symm
-- what the document says, object by object
def stretchC (v : List Stamp) (n : Note) (k : Nat) : Int := if countOf n.start k ≤ countOf v k then max (countOf v k) (countOf n.end_ k) else countOf v k
def farS (v : List Stamp) (n : Note) : List Stamp := vecOf (stretchC v n)
def stretchS (v : List Stamp) (n : Note) (o : Int) : List Stamp := match getW n.writes o with
 | some w => if vecHas (farS v n) w.stamp = true then farS v n else v
 | none => farS v n
def reachThen (z : List Zone) (known : List Stamp) (n : Note) (o : Nat) : List Stamp := if memB n.blur o = true then reachOf z known o else stretchS (reachOf z known o) n o
def knownThen (known : List Stamp) (n : Note) : List Stamp := joinS [known, n.end_]
def zonesThen (z : List Zone) (known : List Stamp) (n : Note) (o : Nat) : Option (List Stamp) := if coversB (reachThen z known n o) (knownThen known n) = true then none else some (reachThen z known n o)
def takeOk (z : List Zone) (known : List Stamp) (n : Note) : Bool := zonesFormed z && vecFormed known && noteFormed n
def takeZ (z : List Zone) (known : List Stamp) (n : Note) : List Zone × List Stamp × Int :=
 if takeOk z known n = true then (if coversB known n.start = true then (zonesOf (zonesThen z known n), knownThen known n, 0) else ([], [], 3)) else ([], [], 1)
-- what the program does, piece by piece
def lessS2 (a b : List Span) : List Span := ofSet fun o => memB a o && !memB b o
def stayStep (far : List Stamp) (s : List Span) (w : Write) : List Span := if vecHas far w.stamp = true then s else tidyS (s ++ tidyS (dots [w.object]))
def staysS (n : Note) (far : List Stamp) : List Span := n.writes.foldl (stayStep far) n.blur
def cutZ (now : List Stamp) (l : List Span) (v : List Stamp) : List Zone := if coversB v now = true then [] else l.map fun s => ⟨s, v⟩
def pieceZ (n : Note) (now : List Stamp) (x : Zone) : List Zone := cutZ now (meetS2 [x.span] (staysS n (farS x.vec n))) x.vec ++ cutZ now (lessS2 [x.span] (staysS n (farS x.vec n))) (farS x.vec n)
def takeL (n : Note) (now : List Stamp) (l : List Zone) : List Zone := l.flatMap (pieceZ n now)
theorem takeL_snoc (n : Note) (now : List Stamp) (l : List Zone) (x : Zone) : takeL n now (l ++ [x]) = takeL n now l ++ pieceZ n now x := by simp [takeL]
theorem stay_mem {far : List Stamp} : ∀ (l : List Write) (s : List Span) {o : Nat}, o < 256 → memB (l.foldl (stayStep far) s) o = (memB s o || l.any fun w => !vecHas far w.stamp && decide (w.object = o))
 | [], s, o, _ => by simp
 | w :: l, s, o, ho => by
  rw [List.foldl_cons, stay_mem l _ ho, List.any_cons]
  unfold stayStep
  split
  ·rename_i h; simp [h]
  ·rename_i h
   rw [show tidyS (s ++ tidyS (dots [w.object])) = ofSet fun o => memB (s ++ tidyS (dots [w.object])) o from rfl, memB_ofSet _ ho, memB_append, show tidyS (dots [w.object]) = ofSet fun o => memB (dots [w.object]) o from rfl, memB_ofSet _ ho, memB_dots]
   simp [h, Bool.or_assoc]
theorem getW_iff {x : Note} (h : noteFormed x = true) {o : Int} {w : Write} : getW x.writes o = some w ↔ w ∈ x.writes ∧ w.object = o := by
 have hp := (writesFrom_iff.1 (noteFormed_iff.1 h).2.2.2.2).2
 unfold getW
 constructor
 ·intro hh
  exact ⟨List.mem_of_find?_eq_some hh, by simpa using List.find?_some hh⟩
 ·rintro ⟨h1, h2⟩
  cases hf : x.writes.find? (fun w => decide (w.object = o)) with
  | none => have := List.find?_eq_none.1 hf w h1; simp [h2] at this
  | some u =>
   have h3 := List.mem_of_find?_eq_some hf
   have h4 : u.object = o := by simpa using List.find?_some hf
   by_cases e : u = w
   ·rw [e]
   ·obtain ⟨i, hi, rfl⟩ := List.mem_iff_getElem.1 h1
    obtain ⟨j, hj, rfl⟩ := List.mem_iff_getElem.1 h3
    rcases Nat.lt_trichotomy i j with h5 | h5 | h5
    ·have := List.pairwise_iff_getElem.1 hp i j hi hj h5; omega
    ·subst h5; exact absurd rfl e
    ·have := List.pairwise_iff_getElem.1 hp j i hj hi h5; omega
theorem stays_at {n : Note} (h : noteFormed n = true) (v : List Stamp) {o : Nat} (ho : o < 256) : (if memB (staysS n (farS v n)) o = true then v else farS v n) = if memB n.blur o = true then v else stretchS v n o := by
 unfold staysS
 rw [stay_mem _ _ ho]
 cases hb : memB n.blur o with
 | true => simp
 | false =>
  simp only [Bool.false_or, Bool.false_eq_true, if_false]
  unfold stretchS
  cases hg : getW n.writes o with
  | none =>
   have : (n.writes.any fun w => !vecHas (farS v n) w.stamp && decide (w.object = (o : Int))) = false := by
    rw [List.any_eq_false]
    intro w hw hh
    simp only [Bool.and_eq_true, decide_eq_true_eq] at hh
    have := (getW_iff h).2 ⟨hw, hh.2⟩
    rw [hg] at this; cases this
   rw [this]; simp
  | some w =>
   obtain ⟨h1, h2⟩ := (getW_iff h).1 hg
   have : (n.writes.any fun w => !vecHas (farS v n) w.stamp && decide (w.object = (o : Int))) = !vecHas (farS v n) w.stamp := by
    rw [Bool.eq_iff_iff, List.any_eq_true]
    constructor
    ·rintro ⟨u, hu, hh⟩
     simp only [Bool.and_eq_true, decide_eq_true_eq] at hh
     have := (getW_iff h).2 ⟨hu, hh.2⟩
     rw [hg] at this
     cases this
     exact hh.1
    ·intro hh
     exact ⟨w, h1, by simp [hh, h2]⟩
   rw [this]
   simp only
   cases vecHas (farS v n) w.stamp <;> simp
theorem cutZ_in {now : List Stamp} {l : List Span} {v u : List Stamp} {o : Int} : InZ (cutZ now l v) o u ↔ memB l o = true ∧ v = u ∧ coversB v now = false := by
 unfold cutZ
 cases hc : coversB v now with
 | true => simp [InZ]
 | false =>
  simp only [Bool.false_eq_true, if_false, and_true]
  rw [memB_iff]
  unfold InZ
  constructor
  ·rintro ⟨x, hx, h1, h2, h3⟩
   obtain ⟨s, hs, rfl⟩ := List.mem_map.1 hx
   exact ⟨⟨s, hs, h1, h2⟩, h3⟩
  ·rintro ⟨⟨s, hs, h1, h2⟩, h3⟩
   exact ⟨⟨s, v⟩, List.mem_map_of_mem hs, h1, h2, h3⟩
theorem memB_one {s : Span} {o : Int} : memB [s] o = true ↔ s.lo ≤ o ∧ o ≤ s.hi := by simp [memB]
theorem mem_ofSet_in {f : Nat → Bool} {o : Int} (h : memB (ofSet f) o = true) : ∃ k : Nat, k < 256 ∧ o = k ∧ f k = true := by
 obtain ⟨h0, h1⟩ := formed_beyond (ofSet_formed f) h
 obtain ⟨k, rfl⟩ : ∃ k : Nat, o = k := ⟨o.toNat, by omega⟩
 have := (ofSet_mem f k).1 h
 exact ⟨k, this.1, rfl, this.2⟩
theorem pieceZ_in {n : Note} (h : noteFormed n = true) {now : List Stamp} {x : Zone} {o : Int} {u : List Stamp} : InZ (pieceZ n now x) o u ↔ ∃ k : Nat, k < 256 ∧ o = k ∧ (x.span.lo ≤ k ∧ (k : Int) ≤ x.span.hi) ∧ (if memB n.blur k = true then x.vec else stretchS x.vec n k) = u ∧ coversB u now = false := by
 unfold pieceZ
 rw [inZ_append, cutZ_in, cutZ_in]
 unfold meetS2 lessS2
 constructor
 ·rintro (⟨h1, rfl, h3⟩ | ⟨h1, rfl, h3⟩)
  ·obtain ⟨k, hk, rfl, h4⟩ := mem_ofSet_in h1
   simp only [Bool.and_eq_true, memB_one] at h4
   refine ⟨k, hk, rfl, h4.1, ?_, h3⟩
   rw [← stays_at h x.vec hk, if_pos h4.2]
  ·obtain ⟨k, hk, rfl, h4⟩ := mem_ofSet_in h1
   simp only [Bool.and_eq_true, memB_one, Bool.not_eq_true'] at h4
   refine ⟨k, hk, rfl, h4.1, ?_, h3⟩
   rw [← stays_at h x.vec hk, if_neg (by rw [h4.2]; simp)]
 ·rintro ⟨k, hk, rfl, h1, h2, h3⟩
  rw [← stays_at h x.vec hk] at h2
  cases hs : memB (staysS n (farS x.vec n)) k with
  | true =>
   rw [if_pos hs] at h2
   subst h2
   exact .inl ⟨by rw [memB_ofSet _ hk, Bool.and_eq_true]; exact ⟨memB_one.2 h1, hs⟩, rfl, h3⟩
  | false =>
   rw [if_neg (by rw [hs]; simp)] at h2
   subst h2
   exact .inr ⟨by rw [memB_ofSet _ hk, Bool.and_eq_true, hs]; exact ⟨memB_one.2 h1, rfl⟩, rfl, h3⟩
def Off (x y : Zone) : Prop := x.span.hi < y.span.lo ∨ y.span.hi < x.span.lo
theorem formed_pw : ∀ {l : List Span} {e : Int}, formedFrom e l = true → l.Pairwise fun a b => a.hi < b.lo
 | [], _, _ => .nil
 | s :: l, e, h => by
  obtain ⟨h1, h2⟩ := formedFrom_cons.1 h
  refine .cons (fun t ht => ?_) (formed_pw h2)
  have : memB l t.lo = true := memB_iff.2 ⟨t, ht, Int.le_refl _, (formed_all' h2 t ht)⟩
  have := (formed_beyond h2 this).1
  omega
where formed_all' : ∀ {l : List Span} {e : Int}, formedFrom e l = true → ∀ t ∈ l, t.lo ≤ t.hi
 | s :: l, e, h, t, ht => by
  obtain ⟨h1, h2⟩ := formedFrom_cons.1 h
  rcases List.mem_cons.1 ht with rfl | ht
  ·omega
  ·exact formed_all' h2 t ht
theorem cutZ_off {now : List Stamp} {f : Nat → Bool} {v : List Stamp} : (cutZ now (ofSet f) v).Pairwise Off := by
 unfold cutZ
 split
 ·exact .nil
 ·rw [List.pairwise_map]
  exact (formed_pw (ofSet_formed f)).imp fun h => .inl h
theorem cutZ_mem {now : List Stamp} {f : Nat → Bool} {v : List Stamp} {x : Zone} (h : x ∈ cutZ now (ofSet f) v) : 0 ≤ x.span.lo ∧ x.span.lo ≤ x.span.hi ∧ x.span.hi ≤ 255 ∧ x.vec = v ∧ ∀ o : Int, x.span.lo ≤ o → o ≤ x.span.hi → memB (ofSet f) o = true := by
 unfold cutZ at h
 split at h
 ·cases h
 ·obtain ⟨s, hs, rfl⟩ := List.mem_map.1 h
  have h2 : ∀ o : Int, s.lo ≤ o → o ≤ s.hi → memB (ofSet f) o = true := fun o h1 h2 => memB_iff.2 ⟨s, hs, h1, h2⟩
  have h3 := formed_pw.formed_all' (ofSet_formed f) s hs
  have h4 := formed_beyond (ofSet_formed f) (h2 s.lo (Int.le_refl _) h3)
  have h5 := formed_beyond (ofSet_formed f) (h2 s.hi h3 (Int.le_refl _))
  exact ⟨h4.2.1, h3, h5.2.2, rfl, h2⟩
theorem off_of {x y : Zone} (h1 : x.span.lo ≤ x.span.hi) (h2 : y.span.lo ≤ y.span.hi) (h : ∀ o : Int, x.span.lo ≤ o → o ≤ x.span.hi → y.span.lo ≤ o → o ≤ y.span.hi → False) : Off x y := by
 unfold Off
 by_cases a : x.span.hi < y.span.lo
 ·exact .inl a
 ·by_cases b : y.span.hi < x.span.lo
  ·exact .inr b
  ·exact (h (max x.span.lo y.span.lo) (by omega) (by omega) (by omega) (by omega)).elim
theorem pieceZ_mem {n : Note} {now : List Stamp} {x y : Zone} (hv : vecFormed x.vec = true) (h : y ∈ pieceZ n now x) : 0 ≤ y.span.lo ∧ zoneOk y = true ∧ ∀ o : Int, y.span.lo ≤ o → o ≤ y.span.hi → x.span.lo ≤ o ∧ o ≤ x.span.hi := by
 have go : ∀ {f : Nat → Bool} {v : List Stamp}, vecFormed v = true → (∀ k : Nat, f k = true → x.span.lo ≤ k ∧ (k : Int) ≤ x.span.hi) → y ∈ cutZ now (ofSet f) v → 0 ≤ y.span.lo ∧ zoneOk y = true ∧ ∀ o : Int, y.span.lo ≤ o → o ≤ y.span.hi → x.span.lo ≤ o ∧ o ≤ x.span.hi := by
  intro f v hv hf hy
  obtain ⟨h1, h2, h3, h4, h5⟩ := cutZ_mem hy
  refine ⟨h1, ?_, fun o a b => ?_⟩
  ·simp only [zoneOk, Bool.and_eq_true, decide_eq_true_eq]
   exact ⟨⟨h2, h3⟩, by rw [h4]; exact hv⟩
  ·obtain ⟨k, _, rfl, hk⟩ := mem_ofSet_in (h5 o a b)
   exact hf k hk
 unfold pieceZ meetS2 lessS2 at h
 rcases List.mem_append.1 h with h | h
 ·exact go hv (fun k hk => memB_one.1 (Bool.and_eq_true _ _ ▸ hk).1) h
 ·exact go (vecOf_formed _) (fun k hk => memB_one.1 (Bool.and_eq_true _ _ ▸ hk).1) h
theorem pieceZ_off {n : Note} {now : List Stamp} {x : Zone} : (pieceZ n now x).Pairwise Off := by
 unfold pieceZ meetS2 lessS2
 refine List.pairwise_append.2 ⟨cutZ_off, cutZ_off, fun a ha b hb => ?_⟩
 obtain ⟨_, a2, _, _, a5⟩ := cutZ_mem ha
 obtain ⟨_, b2, _, _, b5⟩ := cutZ_mem hb
 refine off_of a2 b2 fun o c1 c2 d1 d2 => ?_
 obtain ⟨k, hk, rfl, e1⟩ := mem_ofSet_in (a5 o c1 c2)
 obtain ⟨j, hj, e, e2⟩ := mem_ofSet_in (b5 _ d1 d2)
 obtain rfl : k = j := by omega
 simp only [Bool.and_eq_true, Bool.not_eq_true'] at e1 e2
 rw [e1.2] at e2
 exact absurd e2.2 (by simp)
theorem takeL_off {n : Note} {now : List Stamp} : ∀ {l : List Zone}, l.Pairwise (fun x y => x.span.hi < y.span.lo) → (∀ x ∈ l, vecFormed x.vec = true) → (takeL n now l).Pairwise Off
 | [], _, _ => .nil
 | x :: l, h, hv => by
  obtain ⟨h1, h2⟩ := List.pairwise_cons.1 h
  rw [takeL, List.flatMap_cons]
  refine List.pairwise_append.2 ⟨pieceZ_off, takeL_off h2 fun y hy => hv y (List.mem_cons_of_mem _ hy), fun a ha b hb => ?_⟩
  obtain ⟨y, hy, hb⟩ := List.mem_flatMap.1 hb
  obtain ⟨_, a2, a3⟩ := pieceZ_mem (hv x (by simp)) ha
  obtain ⟨_, b2, b3⟩ := pieceZ_mem (hv y (List.mem_cons_of_mem _ hy)) hb
  simp only [zoneOk, Bool.and_eq_true, decide_eq_true_eq] at a2 b2
  refine off_of a2.1.1 b2.1.1 fun o c1 c2 d1 d2 => ?_
  have := a3 o c1 c2
  have := b3 o d1 d2
  have := h1 y hy
  omega
theorem takeL_mem {n : Note} {now : List Stamp} {l : List Zone} (hv : ∀ x ∈ l, vecFormed x.vec = true) {y : Zone} (h : y ∈ takeL n now l) : 0 ≤ y.span.lo ∧ zoneOk y = true := by
 obtain ⟨x, hx, h⟩ := List.mem_flatMap.1 h
 have := pieceZ_mem (hv x hx) h
 exact ⟨this.1, this.2.1⟩
theorem sorted_apart {s l : List Zone} (hp : s.Perm l) (hs : s.Pairwise fun a b => a.span.lo ≤ b.span.lo) (ho : l.Pairwise Off) (hm : ∀ x ∈ l, 0 ≤ x.span.lo ∧ zoneOk x = true) : Apart s := by
 refine ⟨?_, fun x hx => hm x (hp.mem_iff.1 hx)⟩
 have h1 : s.Pairwise Off := ho.perm hp.symm fun h => h.symm
 refine (hs.and h1).imp_of_mem fun {a b} ha hb h => ?_
 have h3 := (hm a (hp.mem_iff.1 ha)).2
 have h4 := (hm b (hp.mem_iff.1 hb)).2
 simp only [zoneOk, Bool.and_eq_true, decide_eq_true_eq] at h3 h4
 rcases h.2 with h2 | h2
 ·exact h2
 ·have := h.1; omega
theorem inZ_perm {s l : List Zone} (hp : s.Perm l) {o : Int} {v : List Stamp} : InZ s o v ↔ InZ l o v := ⟨fun ⟨x, hx, h⟩ => ⟨x, hp.mem_iff.1 hx, h⟩, fun ⟨x, hx, h⟩ => ⟨x, hp.mem_iff.2 hx, h⟩⟩
theorem pieces_formed {z : List Zone} {known : List Stamp} (hz : zonesFormed z = true) (hk : vecFormed known = true) : (∀ x ∈ piecesZ z known, vecFormed x.vec = true) ∧ (piecesZ z known).Pairwise fun x y => x.span.hi < y.span.lo := by
 have hu : ∀ i, i ≤ z.length → ((∀ x ∈ uptoZ z known i, vecFormed x.vec = true ∧ x.span.hi ≤ zoneEnd (z.take i).getLast?) ∧ (uptoZ z known i).Pairwise fun x y => x.span.hi < y.span.lo) := by
  intro i
  induction i with
  | zero => exact fun _ => ⟨fun x hx => by simp [uptoZ] at hx, by simp [uptoZ]⟩
  | succ i ih =>
   intro hi
   obtain ⟨h1, h2⟩ := ih (by omega)
   have hlt := end_lt hz (i := i) (by omega)
   have hle := zone_le hz (i := i) (by omega)
   have hve : vecFormed z[i].vec = true := by
    have := zonesFrom_mem hz z[i] (List.getElem_mem (by omega))
    simp only [zoneOk, Bool.and_eq_true] at this
    exact this.2
   have he : zoneEnd (z.take (i + 1)).getLast? = z[i].span.hi := by rw [end_at' (l := z) (by omega) (by omega)]; rfl
   rw [upto_step (by omega)]
   have hgap : ∀ x ∈ gapZ known (z.take i).getLast? z[i], x.vec = known ∧ x.span.hi < z[i].span.lo ∧ zoneEnd (z.take i).getLast? < x.span.lo ∧ x.span.lo ≤ x.span.hi := by
    intro x hx
    unfold gapZ at hx
    split at hx
    ·rw [List.mem_singleton] at hx
     rw [hx]
     refine ⟨rfl, ?_, ?_, ?_⟩ <;> simp only <;> omega
    ·cases hx
   refine ⟨fun x hx => ?_, ?_⟩
   ·rw [he]
    rw [List.mem_append, List.mem_append, List.mem_singleton] at hx
    rcases hx with hx | hx | hx
    ·have := h1 x hx; exact ⟨this.1, by omega⟩
    ·have := hgap x hx; exact ⟨by rw [this.1]; exact hk, by omega⟩
    ·rw [hx]; exact ⟨hve, Int.le_refl _⟩
   ·refine List.pairwise_append.2 ⟨h2, List.pairwise_append.2 ⟨?_, by simp, fun a ha b hb => ?_⟩, fun a ha b hb => ?_⟩
    ·unfold gapZ; split <;> simp
    ·rw [List.mem_singleton.1 hb]; exact (hgap a ha).2.1
    ·have := (h1 a ha).2
     rcases List.mem_append.1 hb with hb | hb
     ·have := hgap b hb; omega
     ·rw [List.mem_singleton.1 hb]; omega
 obtain ⟨h1, h2⟩ := hu _ (Nat.le_refl _)
 rw [List.take_length] at h1
 unfold piecesZ
 refine ⟨fun x hx => ?_, List.pairwise_append.2 ⟨h2, ?_, fun a ha b hb => ?_⟩⟩
 ·rcases List.mem_append.1 hx with hx | hx
  ·exact (h1 x hx).1
  ·unfold tailZ at hx
   split at hx
   ·rw [List.mem_singleton] at hx; rw [hx]; exact hk
   ·cases hx
 ·unfold tailZ; split <;> simp
 ·have := (h1 a ha).2
  unfold tailZ at hb
  split at hb
  ·rw [List.mem_singleton] at hb; rw [hb]; simp only; omega
  ·cases hb
theorem reachThen_formed {z : List Zone} {known : List Stamp} (hz : zonesFormed z = true) (hk : vecFormed known = true) (n : Note) (o : Nat) : vecFormed (reachThen z known n o) = true := by
 have h1 : vecFormed (reachOf z known o) = true := by
  unfold reachOf
  split
  ·rename_i x hx
   have := zonesFrom_mem hz x (List.mem_of_find?_eq_some hx)
   simp only [zoneOk, Bool.and_eq_true] at this
   exact this.2
  ·exact hk
 unfold reachThen
 split
 ·exact h1
 ·unfold stretchS
  split
  ·split
   ·exact vecOf_formed _
   ·exact h1
  ·exact vecOf_formed _
theorem zonesThen_formed {z : List Zone} {known : List Stamp} (hz : zonesFormed z = true) (hk : vecFormed known = true) (n : Note) : ∀ o v, zonesThen z known n o = some v → vecFormed v = true := fun o v h => by
 unfold zonesThen at h
 split at h
 ·cases h
 ·rw [← Option.some.inj h]; exact reachThen_formed hz hk n o
theorem take_same {z : List Zone} {known : List Stamp} {n : Note} (h : takeOk z known n = true) {s : List Zone} (hp : s.Perm (takeL n (knownThen known n) (piecesZ z known))) (hs : s.Pairwise fun a b => a.span.lo ≤ b.span.lo) : joinZ s = zonesOf (zonesThen z known n) := by
 simp only [takeOk, Bool.and_eq_true] at h
 obtain ⟨⟨hz, hk⟩, hn⟩ := h
 obtain ⟨hv, hpw⟩ := pieces_formed hz hk
 refine joinZ_of (zonesThen_formed hz hk n) (sorted_apart hp hs (takeL_off hpw hv) fun x hx => takeL_mem hv hx) fun o v => ?_
 rw [inZ_perm hp]
 constructor
 ·rintro ⟨y, hy, h1⟩
  obtain ⟨x, hx, hy⟩ := List.mem_flatMap.1 hy
  obtain ⟨k, hk, rfl, h2, h3, h4⟩ := (pieceZ_in hn).1 ⟨y, hy, h1⟩
  refine ⟨k, hk, rfl, ?_⟩
  have := piece_reach hz known x hx k h2.1 h2.2
  unfold zonesThen reachThen
  rw [this, h3, h4]
  simp
 ·rintro ⟨k, hk, rfl, h1⟩
  obtain ⟨x, hx, h2⟩ := piece_of hz known (o := (k : Int)) (by omega) (by omega)
  have h3 := piece_reach hz known x hx k h2.1 h2.2
  unfold zonesThen at h1
  split at h1
  ·cases h1
  ·rename_i hc
   have h1 := Option.some.inj h1
   rw [← h1]
   unfold reachThen at hc ⊢
   rw [h3] at hc ⊢
   obtain ⟨y, hy, h4⟩ := (pieceZ_in (n := n) (now := knownThen known n) (x := x) (o := k) hn).2 ⟨k, hk, rfl, h2, rfl, by simpa using hc⟩
   exact ⟨y, List.mem_flatMap.2 ⟨x, hx, hy⟩, h4⟩
end Go.Proofs.YtkphfdmelfhnoaaGreatDoor
