/- Plain laws on vectors as counts: the list of counts, and what is joined. -/
import Derived.Test.YtkphfdmelfhnoaaGreatDoorPRead
set_option linter.all false
set_option linter.unnecessarySimpa false
set_option linter.unusedSimpArgs false
set_option linter.unusedVariables false
namespace Go.Proofs.YtkphfdmelfhnoaaGreatDoor
open Go.ChangeShapes Go.WideShapes Go.ChangeAt Go.RowKit
theorem countOf_nonneg (l : List Stamp) (n : Int) : 0 ≤ countOf l n := by
 by_cases h : countOf l n = 0
 ·omega
 ·have := countOf_pos h; omega
def vecUpto (c : Nat → Int) : Nat → List Stamp
 | 0 => []
 | k + 1 => if 0 < c k then vecUpto c k ++ [⟨c k, k⟩] else vecUpto c k
def vecOf (c : Nat → Int) : List Stamp := vecUpto c 64
theorem vecUpto_len (c : Nat → Int) : ∀ k, (vecUpto c k).length ≤ k
 | 0 => by simp [vecUpto]
 | k + 1 => by
  have := vecUpto_len c k
  unfold vecUpto
  split
  ·simp; omega
  ·omega
theorem vecUpto_congr {c d : Nat → Int} : ∀ {k : Nat}, (∀ n, n < k → c n = d n) → vecUpto c k = vecUpto d k
 | 0, _ => rfl
 | k + 1, h => by rw [vecUpto, vecUpto, vecUpto_congr (k := k) (fun n hn => h n (by omega)), h k (by omega)]
theorem vecOf_congr {c d : Nat → Int} (h : ∀ n, n < 64 → c n = d n) : vecOf c = vecOf d := vecUpto_congr h
theorem countOf_append (l m : List Stamp) (n : Int) : countOf (l ++ m) n = if countOf l n = 0 then countOf m n else countOf l n := by
 induction l with
 | nil => simp [countOf]
 | cons s l ih =>
  rw [List.cons_append, countOf, countOf, ih]
  by_cases hs : s.node = n ∧ rightB s.count s.node = true
  ·rw [if_pos hs, if_pos hs, if_neg]
   have := hs.2
   simp only [rightB, decide_eq_true_eq] at this
   omega
  ·rw [if_neg hs, if_neg hs]
theorem countOf_upto (c : Nat → Int) : ∀ (k : Nat), k ≤ 64 → ∀ n : Nat, countOf (vecUpto c k) n = if n < k ∧ 0 < c n then c n else 0
 | 0, _, n => by simp [vecUpto, countOf]
 | k + 1, hk, n => by
  have ih := countOf_upto c k (by omega) n
  unfold vecUpto
  by_cases h0 : 0 < c k
  ·rw [if_pos h0, countOf_append, ih]
   by_cases hn : n < k ∧ 0 < c n
   ·rw [if_pos hn, if_neg (by omega), if_pos ⟨by omega, hn.2⟩]
   ·rw [if_neg hn, if_pos rfl, countOf]
    by_cases he : n = k
    ·subst he
     rw [if_pos ⟨rfl, by simp only [rightB, decide_eq_true_eq]; omega⟩, if_pos ⟨by omega, h0⟩]
    ·rw [if_neg (by simp only; omega), if_neg (by omega)]
     rfl
  ·rw [if_neg h0, ih]
   by_cases he : n = k
   ·subst he
    rw [if_neg (by omega), if_neg (by omega)]
   ·by_cases hn : n < k ∧ 0 < c n
    ·rw [if_pos hn, if_pos ⟨by omega, hn.2⟩]
    ·rw [if_neg hn, if_neg (by omega)]
theorem countOf_vecOf (c : Nat → Int) {n : Nat} (hn : n < 64) (h0 : 0 ≤ c n) : countOf (vecOf c) n = c n := by
 rw [vecOf, countOf_upto c 64 (by omega)]
 split <;> omega
theorem vecFrom_snoc : ∀ {l : List Stamp} {e : Int} {s : Stamp}, vecFrom e (l ++ [s]) = (vecFrom e l && (rightB s.count s.node && decide ((l.getLast?.map (·.node)).getD e < s.node)))
 | [], e, s => by
  show ((rightB s.count s.node && decide (e < s.node)) && true) = (true && (rightB s.count s.node && decide (e < s.node)))
  rw [Bool.and_true, Bool.true_and]
 | x :: l, e, s => by
  have : ((x :: l).getLast?.map (·.node)).getD e = (l.getLast?.map (·.node)).getD x.node := by
   cases l with
   | nil => rfl
   | cons y l => simp [List.getLast?_cons]
  rw [this]
  show ((rightB x.count x.node && decide (e < x.node)) && vecFrom x.node (l ++ [s])) = (((rightB x.count x.node && decide (e < x.node)) && vecFrom x.node l) && _)
  rw [vecFrom_snoc, Bool.and_assoc, Bool.and_assoc, Bool.and_assoc]
theorem vecUpto_from (c : Nat → Int) : ∀ k, k ≤ 64 → vecFrom (-1) (vecUpto c k) = true ∧ ((vecUpto c k).getLast?.map (·.node)).getD (-1) < (k : Int)
 | 0, _ => ⟨rfl, by simp [vecUpto]⟩
 | k + 1, hk => by
  obtain ⟨h1, h2⟩ := vecUpto_from c k (by omega)
  unfold vecUpto
  split
  ·rename_i h0
   refine ⟨?_, by simp; omega⟩
   rw [vecFrom_snoc, h1, Bool.true_and, Bool.and_eq_true, decide_eq_true_eq]
   exact ⟨by simp only [rightB, decide_eq_true_eq]; omega, h2⟩
  ·exact ⟨h1, by omega⟩
theorem vecOf_formed (c : Nat → Int) : vecFormed (vecOf c) = true := (vecUpto_from c 64 (by omega)).1
theorem vecFrom_count {e : Int} : ∀ {l : List Stamp}, vecFrom e l = true → ∀ n : Int, n ≤ e → countOf l n = 0
 | [], _, _, _ => rfl
 | s :: l, h, n, hn => by
  simp only [vecFrom, Bool.and_eq_true, decide_eq_true_eq] at h
  rw [countOf, if_neg (by omega)]
  exact vecFrom_count h.2 n (by omega)
theorem vec_unique : ∀ {l m : List Stamp} {e : Int}, -1 ≤ e → vecFrom e l = true → vecFrom e m = true → (∀ n : Nat, n < 64 → countOf l n = countOf m n) → l = m
 | [], [], _, _, _, _, _ => rfl
 | [], s :: m, e, he, _, h', h => by
  simp only [vecFrom, Bool.and_eq_true, decide_eq_true_eq, rightB] at h'
  have := h s.node.toNat (by omega)
  rw [countOf, countOf, show ((s.node.toNat : Nat) : Int) = s.node by omega, if_pos ⟨rfl, by simp only [rightB, decide_eq_true_eq]; omega⟩] at this
  omega
 | s :: l, [], e, he, h', _, h => by
  simp only [vecFrom, Bool.and_eq_true, decide_eq_true_eq, rightB] at h'
  have := h s.node.toNat (by omega)
  rw [countOf, countOf, show ((s.node.toNat : Nat) : Int) = s.node by omega, if_pos ⟨rfl, by simp only [rightB, decide_eq_true_eq]; omega⟩] at this
  omega
 | s :: l, t :: m, e, he, hl, hm, h => by
  have h1 := hl
  have h2 := hm
  simp only [vecFrom, Bool.and_eq_true, decide_eq_true_eq, rightB] at h1 h2
  have hs := h s.node.toNat (by omega)
  have ht := h t.node.toNat (by omega)
  rw [show ((s.node.toNat : Nat) : Int) = s.node by omega] at hs
  rw [show ((t.node.toNat : Nat) : Int) = t.node by omega] at ht
  have cs : countOf (s :: l) s.node = s.count := by rw [countOf, if_pos ⟨rfl, by simp only [rightB, decide_eq_true_eq]; omega⟩]
  have ct : countOf (t :: m) t.node = t.count := by rw [countOf, if_pos ⟨rfl, by simp only [rightB, decide_eq_true_eq]; omega⟩]
  have hn : s.node = t.node := by
   rcases Int.lt_trichotomy s.node t.node with c | c | c
   ·exfalso
    rw [cs, countOf, if_neg (by omega), vecFrom_count h2.2 _ (by omega)] at hs
    omega
   ·exact c
   ·exfalso
    rw [ct, countOf, if_neg (by omega), vecFrom_count h1.2 _ (by omega)] at ht
    omega
  rw [cs, hn, ct] at hs
  obtain ⟨sc, sn⟩ := s
  obtain ⟨tc, tn⟩ := t
  simp only at hn hs h1 h2
  subst hn hs
  have : l = m := by
   refine vec_unique (e := sn) (by omega) h1.2 h2.2 fun n hn' => ?_
   have := h n hn'
   rw [countOf, countOf] at this
   by_cases he' : sn = n
   ·rw [vecFrom_count h1.2 _ (by omega), vecFrom_count h2.2 _ (by omega)]
   ·rw [if_neg (by simp only; omega), if_neg (by simp only; omega)] at this
    exact this
  rw [this]
theorem vecOf_count {l : List Stamp} (h : vecFormed l = true) : vecOf (fun n => countOf l n) = l :=
 vec_unique (e := -1) (by omega) (vecOf_formed _) h fun n hn => by rw [countOf_vecOf _ hn (countOf_nonneg _ _)]
def joinC (ls : List (List Stamp)) (n : Nat) : Int := ls.foldl (fun a l => max a (countOf l n)) 0
theorem joinC_snoc (ls : List (List Stamp)) (l : List Stamp) (n : Nat) : joinC (ls ++ [l]) n = max (joinC ls n) (countOf l n) := by simp [joinC]
theorem joinC_nonneg (ls : List (List Stamp)) (n : Nat) : 0 ≤ joinC ls n := by
 have key : ∀ (ls : List (List Stamp)) (a : Int), 0 ≤ a → 0 ≤ ls.foldl (fun a l => max a (countOf l n)) a := by
  intro ls
  induction ls with
  | nil => exact fun a h => h
  | cons l ls ih => exact fun a h => ih _ (by show 0 ≤ max _ _; omega)
 exact key ls 0 (by omega)
def joinS (ls : List (List Stamp)) : List Stamp := vecOf (joinC ls)
theorem joinC_two (a b : List Stamp) (n : Nat) : joinC [a, b] n = max (countOf a n) (countOf b n) := by
 have := countOf_nonneg a n
 simp only [joinC, List.foldl_cons, List.foldl_nil]
 omega
theorem countOf_joinS (ls : List (List Stamp)) {n : Nat} (hn : n < 64) : countOf (joinS ls) n = joinC ls n := countOf_vecOf _ hn (joinC_nonneg _ _)
def meetC : List (List Stamp) → Nat → Int
 | [], _ => 0
 | l :: ls, n => ls.foldl (fun a l => min a (countOf l n)) (countOf l n)
def meetS (ls : List (List Stamp)) : List Stamp := vecOf (meetC ls)
end Go.Proofs.YtkphfdmelfhnoaaGreatDoor
