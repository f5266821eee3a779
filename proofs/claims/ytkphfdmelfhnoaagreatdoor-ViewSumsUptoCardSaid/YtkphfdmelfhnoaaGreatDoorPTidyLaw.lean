/- Plain laws on spans put in order and together, met, and left out: each is the tidy list of a set. No program is known here. -/
import Derived.Test.YtkphfdmelfhnoaaGreatDoorPSpanLaw
set_option linter.all false
set_option linter.unnecessarySimpa false
set_option linter.unusedSimpArgs false
set_option linter.unusedVariables false
namespace Go.Proofs.YtkphfdmelfhnoaaGreatDoor
theorem formed_mono : ∀ {l : List Span} {e e' : Int}, e' ≤ e → formedFrom e l = true → formedFrom e' l = true
 | [], _, _, _, _ => rfl
 | s :: l, e, e', h, hf => by
  obtain ⟨h1, h2⟩ := formedFrom_cons.1 hf
  exact formedFrom_cons.2 ⟨⟨by omega, h1.2⟩, h2⟩
def tidyS (l : List Span) : List Span := ofSet fun o => memB l o
theorem ofSet_congr {f g : Nat → Bool} (h : ∀ o, o < 256 → f o = g o) : ofSet f = ofSet g := by
 refine formed_unique (e := -2) (ofSet_formed f) (ofSet_formed g) fun o => ?_
 have key : ∀ {f g : Nat → Bool}, (∀ o, o < 256 → f o = g o) → memB (ofSet f) o = true → memB (ofSet g) o = true := by
  intro f g h hm
  have b := formed_beyond (e := -2) (ofSet_formed f) hm
  obtain ⟨n, rfl⟩ : ∃ n : Nat, o = n := ⟨o.toNat, by omega⟩
  obtain ⟨h1, h2⟩ := (ofSet_mem f n).1 hm
  exact (ofSet_mem g n).2 ⟨h1, by rw [← h n h1]; exact h2⟩
 exact ⟨key h, key fun o ho => (h o ho).symm⟩
theorem memB_ofSet (f : Nat → Bool) {o : Nat} (ho : o < 256) : memB (ofSet f) o = f o := by
 rw [Bool.eq_iff_iff, ofSet_mem]
 exact ⟨fun h => h.2, fun h => ⟨ho, h⟩⟩
theorem formed_ofSet {l : List Span} {f : Nat → Bool} (hf : spanFormed l = true) (h : ∀ o : Nat, o < 256 → memB l o = f o) : l = ofSet f := by
 rw [((spanFormed_iff l).1 hf).2]
 exact ofSet_congr h
theorem ofSet_len (f : Nat → Bool) : (ofSet f).length ≤ 128 := ((spanFormed_iff _).1 (ofSet_formed f)).1
def cutOne (s : Span) : List Span := if max s.lo 0 ≤ min s.hi 255 then [⟨max s.lo 0, min s.hi 255⟩] else []
def cutL (l : List Span) : List Span := l.flatMap cutOne
theorem cutL_snoc (l : List Span) (s : Span) : cutL (l ++ [s]) = cutL l ++ cutOne s := by simp [cutL]
theorem cutL_len (l : List Span) : (cutL l).length ≤ l.length := by
 induction l with
 | nil => simp [cutL]
 | cons s l ih =>
  have : (cutOne s).length ≤ 1 := by unfold cutOne; split <;> simp
  simp only [cutL, List.flatMap_cons, List.length_append, List.length_cons] at ih ⊢
  omega
theorem cutL_right {l : List Span} {s : Span} (h : s ∈ cutL l) : 0 ≤ s.lo ∧ s.lo ≤ s.hi ∧ s.hi ≤ 255 := by
 obtain ⟨t, _, ht⟩ := List.mem_flatMap.1 h
 unfold cutOne at ht
 split at ht
 ·obtain rfl := List.mem_singleton.1 ht
  simp only
  omega
 ·cases ht
theorem memB_iff {l : List Span} {o : Int} : memB l o = true ↔ ∃ s ∈ l, s.lo ≤ o ∧ o ≤ s.hi := by simp [memB]
theorem cutL_mem (l : List Span) {o : Int} (h0 : 0 ≤ o) (h1 : o ≤ 255) : memB (cutL l) o = memB l o := by
 rw [Bool.eq_iff_iff, memB_iff, memB_iff]
 constructor
 ·rintro ⟨s, hs, a, b⟩
  obtain ⟨t, ht, ht2⟩ := List.mem_flatMap.1 hs
  unfold cutOne at ht2
  split at ht2
  ·obtain rfl := List.mem_singleton.1 ht2
   exact ⟨t, ht, by simp only at a; omega, by simp only at b; omega⟩
  ·cases ht2
 ·rintro ⟨s, hs, a, b⟩
  refine ⟨⟨max s.lo 0, min s.hi 255⟩, List.mem_flatMap.2 ⟨s, hs, ?_⟩, by simp only; omega, by simp only; omega⟩
  unfold cutOne
  rw [if_pos (by omega)]
  exact List.mem_singleton.2 rfl
def mergeStep (out : List Span) (s : Span) : List Span :=
 match out.getLast? with
 | some t => if s.lo ≤ t.hi + 1 then out.dropLast ++ [⟨t.lo, max t.hi s.hi⟩] else out ++ [s]
 | none => out ++ [s]
def mergeS (l : List Span) : List Span := l.foldl mergeStep []
theorem mergeS_snoc (l : List Span) (s : Span) : mergeS (l ++ [s]) = mergeStep (mergeS l) s := by simp [mergeS]
theorem list_last {α : Type} {l : List α} {t : α} (h : l.getLast? = some t) : l.dropLast ++ [t] = l := by
 cases l with
 | nil => simp at h
 | cons x l =>
  have h2 := List.dropLast_concat_getLast (l := x :: l) (by simp)
  rw [List.getLast?_eq_some_getLast (by simp)] at h
  injection h with h
  rw [← h]
  exact h2
structure MergeInv (pre out : List Span) : Prop where
 formed : formedFrom (-2) out = true
 mem : ∀ o : Int, memB out o = memB pre o
 low : ∀ out' t, out = out' ++ [t] → ∃ s ∈ pre, t.lo = s.lo
theorem merge_inv : ∀ (n : Nat) (l : List Span), n ≤ l.length → (∀ s ∈ l, 0 ≤ s.lo ∧ s.lo ≤ s.hi ∧ s.hi ≤ 255) → l.Pairwise (fun a b => a.lo ≤ b.lo) → MergeInv (l.take n) (mergeS (l.take n))
 | 0, l, _, _, _ => ⟨rfl, fun _ => by simp [mergeS], fun out' t h => by simp [mergeS] at h⟩
 | n + 1, l, hn, hr, hs => by
  have ih := merge_inv n l (by omega) hr hs
  obtain ⟨s, hx⟩ : ∃ s, l[n]? = some s := ⟨l[n], List.getElem?_eq_getElem (by omega)⟩
  have ht : l.take (n + 1) = l.take n ++ [s] := by rw [List.take_add_one, hx]; rfl
  have hle : ∀ x ∈ l.take n, x.lo ≤ s.lo := by
   intro x hxm
   obtain ⟨j, hj⟩ := List.mem_iff_getElem?.1 hxm
   rw [List.getElem?_take] at hj
   split at hj
   ·have hjl := (List.getElem?_eq_some_iff.1 hj)
    have hnl := (List.getElem?_eq_some_iff.1 hx)
    have := List.pairwise_iff_getElem.1 hs j n hjl.1 hnl.1 (by omega)
    rw [hjl.2, hnl.2] at this
    exact this
   ·cases hj
  have hsr := hr s (List.mem_of_getElem? hx)
  rw [ht, mergeS_snoc]
  generalize l.take n = pre at ih hle
  generalize mergeS pre = out at ih
  obtain ⟨i1, i2, i3⟩ := ih
  unfold mergeStep
  cases hg : out.getLast? with
  | none =>
   have hnil : out = [] := by simpa using hg
   subst hnil
   refine ⟨?_, fun o => ?_, fun out' t h => ?_⟩
   ·simp only [List.nil_append, formedFrom, Bool.and_true, decide_eq_true_eq]; omega
   ·have := i2 o
    simp only [List.nil_append, memB_append, ← this]
    simp [memB]
   ·have : t = s := by
     rw [List.nil_append] at h
     have := congrArg List.getLast? h
     simpa using this.symm
    subst this
    exact ⟨t, by simp, rfl⟩
  | some t =>
   have hout : out = out.dropLast ++ [t] := (list_last hg).symm
   generalize out.dropLast = od at hout
   subst hout
   simp only
   obtain ⟨u, hu, hul⟩ := i3 od t rfl
   have hts := hle u hu
   obtain ⟨b1, b2, b3, b4, b5⟩ := formed_snoc.1 i1
   have hmt : ∀ o : Int, memB (od ++ [t]) o = (memB od o || (decide (t.lo ≤ o) && decide (o ≤ t.hi))) := fun o => by rw [memB_append]; simp [memB]
   have hms : ∀ o : Int, memB (pre ++ [s]) o = (memB od o || (decide (t.lo ≤ o) && decide (o ≤ t.hi)) || (decide (s.lo ≤ o) && decide (o ≤ s.hi))) := fun o => by rw [memB_append, ← i2 o, hmt]; simp [memB]
   split
   ·rename_i hc
    refine ⟨formed_snoc.2 ⟨b1, b2, by simp only; omega, by simp only; omega, b5⟩, fun o => ?_, fun out' t' h => ?_⟩
    ·rw [hms, memB_append, Bool.or_assoc]
     congr 1
     simp only [memB, List.any_cons, List.any_nil, Bool.or_false]
     rw [Bool.eq_iff_iff]
     simp only [Bool.or_eq_true, Bool.and_eq_true, decide_eq_true_eq]
     omega
    ·have : t' = ⟨t.lo, max t.hi s.hi⟩ := by
      have := congrArg List.getLast? h
      simpa using this.symm
     subst this
     exact ⟨u, List.mem_append_left _ hu, hul⟩
   ·rename_i hc
    refine ⟨formed_snoc.2 ⟨i1, by simp only [List.getLast?_append, List.getLast?_singleton, Option.some_or, Option.map_some, Option.getD_some]; omega, by omega, by omega, by omega⟩, fun o => ?_, fun out' t' h => ?_⟩
    ·rw [hms, memB_append, hmt]
     simp [memB]
    ·have : t' = s := by
      have := congrArg List.getLast? h
      simpa using this.symm
     subst this
     exact ⟨t', List.mem_append_right _ (by simp), rfl⟩
theorem merge_tidy {l d : List Span} (hp : d.Perm (cutL l)) (hs : d.Pairwise fun a b => a.lo ≤ b.lo) : mergeS d = tidyS l := by
 have h := merge_inv d.length d (Nat.le_refl _) (fun s hs => cutL_right (hp.mem_iff.1 hs)) hs
 rw [List.take_length] at h
 refine formed_ofSet h.formed fun o ho => ?_
 rw [h.mem, ← cutL_mem l (by omega) (by omega), Bool.eq_iff_iff, memB_iff, memB_iff]
 exact ⟨fun ⟨s, h1, h2⟩ => ⟨s, hp.mem_iff.1 h1, h2⟩, fun ⟨s, h1, h2⟩ => ⟨s, hp.mem_iff.2 h1, h2⟩⟩
def meetL : List Span → List Span → List Span
 | [], _ => []
 | _ :: _, [] => []
 | s :: x, t :: y => (if max s.lo t.lo ≤ min s.hi t.hi then [⟨max s.lo t.lo, min s.hi t.hi⟩] else []) ++ (if s.hi < t.hi then meetL x (t :: y) else meetL (s :: x) y)
termination_by x y => x.length + y.length
theorem meetL_nil (x : List Span) : meetL x [] = [] := by cases x <;> simp [meetL]
theorem meetL_formed (x y : List Span) (e1 e2 : Int) (h1 : formedFrom e1 x = true) (h2 : formedFrom e2 y = true) : formedFrom (max e1 e2) (meetL x y) = true := by
 match x, y with
 | [], y => simp [meetL, formedFrom]
 | s :: x, [] => simp [meetL, formedFrom]
 | s :: x, t :: y =>
  obtain ⟨a1, a2⟩ := formedFrom_cons.1 h1
  obtain ⟨c1, c2⟩ := formedFrom_cons.1 h2
  rw [meetL]
  have hr : formedFrom (min s.hi t.hi) (if s.hi < t.hi then meetL x (t :: y) else meetL (s :: x) y) = true := by
   split
   ·exact formed_mono (by omega) (meetL_formed x (t :: y) s.hi e2 a2 h2)
   ·exact formed_mono (by omega) (meetL_formed (s :: x) y e1 t.hi h1 c2)
  have hr2 : formedFrom (max e1 e2) (if s.hi < t.hi then meetL x (t :: y) else meetL (s :: x) y) = true := by
   split
   ·exact formed_mono (by omega) (meetL_formed x (t :: y) s.hi e2 a2 h2)
   ·exact formed_mono (by omega) (meetL_formed (s :: x) y e1 t.hi h1 c2)
  split
  ·rw [List.singleton_append]
   exact formedFrom_cons.2 ⟨by simp only; omega, hr⟩
  ·exact hr2
termination_by x.length + y.length
theorem meetL_mem (x y : List Span) (e1 e2 : Int) (h1 : formedFrom e1 x = true) (h2 : formedFrom e2 y = true) (o : Int) : memB (meetL x y) o = (memB x o && memB y o) := by
 match x, y with
 | [], y => simp [meetL, memB]
 | s :: x, [] => simp [meetL, memB]
 | s :: x, t :: y =>
  obtain ⟨a1, a2⟩ := formedFrom_cons.1 h1
  obtain ⟨c1, c2⟩ := formedFrom_cons.1 h2
  rw [meetL, memB_append]
  have hx : memB x o = true → s.hi + 1 < o := fun h => (formed_beyond a2 h).1
  have hy : memB y o = true → t.hi + 1 < o := fun h => (formed_beyond c2 h).1
  have e0 : memB (if max s.lo t.lo ≤ min s.hi t.hi then [(⟨max s.lo t.lo, min s.hi t.hi⟩ : Span)] else []) o = (decide (s.lo ≤ o ∧ o ≤ s.hi) && decide (t.lo ≤ o ∧ o ≤ t.hi)) := by
   rw [Bool.eq_iff_iff]
   split
   ·simp only [memB, List.any_cons, List.any_nil, Bool.or_false, Bool.and_eq_true, decide_eq_true_eq]; omega
   ·simp only [memB, List.any_nil, Bool.false_eq_true, Bool.and_eq_true, decide_eq_true_eq, false_iff]; omega
  have es : memB (s :: x) o = (decide (s.lo ≤ o ∧ o ≤ s.hi) || memB x o) := by simp [memB]
  have et : memB (t :: y) o = (decide (t.lo ≤ o ∧ o ≤ t.hi) || memB y o) := by simp [memB]
  rw [e0, Bool.eq_iff_iff]
  split
  ·rw [meetL_mem x (t :: y) s.hi e2 a2 h2 o, es, et]
   simp only [Bool.or_eq_true, Bool.and_eq_true, decide_eq_true_eq]
   constructor
   ·rintro (⟨p, q⟩ | ⟨p, q⟩)
    ·exact ⟨.inl p, .inl q⟩
    ·exact ⟨.inr p, q⟩
   ·rintro ⟨p | p, q | q⟩
    ·exact .inl ⟨p, q⟩
    ·have := hy q; omega
    ·exact .inr ⟨p, .inl q⟩
    ·exact .inr ⟨p, .inr q⟩
  ·rw [meetL_mem (s :: x) y e1 t.hi h1 c2 o, es, et]
   simp only [Bool.or_eq_true, Bool.and_eq_true, decide_eq_true_eq]
   constructor
   ·rintro (⟨p, q⟩ | ⟨p, q⟩)
    ·exact ⟨.inl p, .inl q⟩
    ·exact ⟨p, .inr q⟩
   ·rintro ⟨p | p, q | q⟩
    ·exact .inl ⟨p, q⟩
    ·exact .inr ⟨.inl p, q⟩
    ·have := hx p; omega
    ·exact .inr ⟨.inr p, q⟩
termination_by x.length + y.length
theorem meetL_tidy (a b : List Span) : meetL (tidyS a) (tidyS b) = ofSet fun o => memB a o && memB b o := by
 refine formed_ofSet (meetL_formed _ _ (-2) (-2) (ofSet_formed _) (ofSet_formed _)) fun o ho => ?_
 rw [meetL_mem (tidyS a) (tidyS b) (-2) (-2) (ofSet_formed _) (ofSet_formed _), tidyS, tidyS, memB_ofSet _ ho, memB_ofSet _ ho]
def restL : Int → List Span → List Span
 | n, [] => if n ≤ 255 then [⟨n, 255⟩] else []
 | n, s :: l => (if n < s.lo then [⟨n, s.lo - 1⟩] else []) ++ restL (s.hi + 1) l
theorem restL_formed : ∀ (l : List Span) (n e : Int), 0 ≤ n → n ≤ e + 2 → formedFrom e l = true → formedFrom (n - 2) (restL n l) = true
 | [], n, e, h0, _, _ => by
  unfold restL
  split
  ·exact formedFrom_cons.2 ⟨by simp only; omega, rfl⟩
  ·rfl
 | s :: l, n, e, h0, h1, h => by
  obtain ⟨a1, a2⟩ := formedFrom_cons.1 h
  have ih := restL_formed l (s.hi + 1) s.hi (by omega) (by omega) a2
  unfold restL
  split
  ·rw [List.singleton_append]
   exact formedFrom_cons.2 ⟨by simp only; omega, formed_mono (by simp only; omega) ih⟩
  ·exact formed_mono (by omega) ih
theorem restL_mem : ∀ (l : List Span) (n e : Int), n ≤ e + 2 → formedFrom e l = true → ∀ o : Int, memB (restL n l) o = (decide (n ≤ o ∧ o ≤ 255) && !memB l o)
 | [], n, e, h1, _, o => by
  unfold restL
  rw [Bool.eq_iff_iff]
  split
  ·simp [memB]
  ·simp only [memB, List.any_nil, Bool.false_eq_true, Bool.not_false, Bool.and_true, decide_eq_true_eq, false_iff]; omega
 | s :: l, n, e, h1, h, o => by
  obtain ⟨a1, a2⟩ := formedFrom_cons.1 h
  have ih := restL_mem l (s.hi + 1) s.hi (by omega) a2 o
  have hb : memB l o = true → s.hi + 1 < o := fun h => (formed_beyond a2 h).1
  have es : memB (s :: l) o = (decide (s.lo ≤ o ∧ o ≤ s.hi) || memB l o) := by simp [memB]
  have e0 : memB (if n < s.lo then [(⟨n, s.lo - 1⟩ : Span)] else []) o = decide (n ≤ o ∧ o < s.lo) := by
   rw [Bool.eq_iff_iff]
   split
   ·simp only [memB, List.any_cons, List.any_nil, Bool.or_false, Bool.and_eq_true, decide_eq_true_eq]; omega
   ·simp only [memB, List.any_nil, Bool.false_eq_true, decide_eq_true_eq, false_iff]; omega
  rw [restL, memB_append, ih, es, e0]
  cases hm : memB l o with
  | true =>
   have := hb hm
   simp only [Bool.not_true, Bool.and_false, Bool.or_false, Bool.or_true]
   exact decide_eq_false (by omega)
  | false =>
   rw [Bool.eq_iff_iff]
   simp only [Bool.not_false, Bool.and_true, Bool.or_false, Bool.or_eq_true, Bool.and_eq_true, decide_eq_true_eq, Bool.not_eq_true', decide_eq_false_iff_not]
   omega
theorem restL_tidy (a : List Span) : restL 0 (tidyS a) = ofSet fun o => !memB a o := by
 refine formed_ofSet (formed_mono (by omega) (restL_formed _ 0 (-2) (by omega) (by omega) (ofSet_formed _))) fun o ho => ?_
 rw [restL_mem (tidyS a) 0 (-2) (by omega) (ofSet_formed _), tidyS, memB_ofSet _ ho, decide_eq_true (by omega), Bool.true_and]
def dots (os : List Int) : List Span := os.map fun o => ⟨o, o⟩
end Go.Proofs.YtkphfdmelfhnoaaGreatDoor
