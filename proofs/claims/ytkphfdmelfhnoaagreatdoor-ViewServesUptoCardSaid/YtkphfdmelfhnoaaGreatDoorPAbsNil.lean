/- What is known of a value may be told weaker: of slots, of boxes' cells, of results. No program is known here. -/
import Derived.Test.YtkphfdmelfhnoaaGreatDoorPAbsIter
set_option linter.all false
set_option linter.unnecessarySimpa false
set_option linter.unusedSimpArgs false
set_option linter.unusedVariables false
namespace Go.Proofs.YtkphfdmelfhnoaaGreatDoor
open Go.ChangeShapes Go.WideShapes Go.ChangeAt Go.RowKit
def Calm (G : World → Prop) : Prop := ∀ w r (o' : Obj), G w → (∃ o : Obj, w.heap[r]? = some o ∧ idleO o = true) → G (w.putObj r o')
section
variable {P : Program} {G : World → Prop} {α : Type} {encs : α → List AV} {Sp : List α → Prop} {Y : YC P G encs Sp} {n : Nat} {K : Exit → Ys α → AState → Prop}
def ypost (K : Exit → Ys α → AState → Prop) (pu : List (Nat × AV)) (I : List α → Prop) : Exit → Ys α → AState → Prop
 | .normal, .going q, _ => I q
 | .ret, .going q, _ => K .ret (.over (some q)) ⟨pu, []⟩
 | .ret, .left, _ => K .ret (.over none) ⟨pu, []⟩
 | .exit id, .going q, _ => K (.exit id) (.over (some q)) ⟨pu, []⟩
 | .exit id, .left, _ => K (.exit id) (.over none) ⟨pu, []⟩
 | _, _, _ => False
end
def Sub1 (x y : AV) : Prop := ∀ (E : Env) (X : World) (v : Value), RepA E X v x → RepA E X v y
theorem Sub1.rfl_ (x : AV) : Sub1 x x := fun _ _ _ h => h
theorem nil_sub (k : Nat) : Sub1 (.val (.slice none 0 0)) (.iv (.sl k [])) := rep_nil
theorem Subs.get {xs ys : List AV} (h : xs.length = ys.length) (hs : ∀ p ∈ xs.zip ys, Sub1 p.1 p.2) (j : Nat) (x y : AV) (hx : xs[j]? = some x) (hy : ys[j]? = some y) : Sub1 x y :=
 hs (x, y) (List.mem_iff_getElem?.2 ⟨j, by rw [List.getElem?_zip_eq_some]; exact ⟨hx, hy⟩⟩)
theorem tup_sub {xs ys : List AV} (h : xs.length = ys.length) (hs : ∀ p ∈ xs.zip ys, Sub1 p.1 p.2) : Sub1 (.tup xs) (.tup ys) := fun E X v hv => by
 cases hv with
 | @tup vs _ h1 h2 =>
  refine .tup (h1.trans h) fun j v c a b => ?_
  have hj := (List.getElem?_eq_some_iff.1 b).1
  rw [← h] at hj
  exact Subs.get h hs j _ c (List.getElem?_eq_getElem hj) b _ _ _ (h2 j v _ a (List.getElem?_eq_getElem hj))
theorem agg_sub {xs ys : List AV} (h : xs.length = ys.length) (hs : ∀ p ∈ xs.zip ys, Sub1 p.1 p.2) : Sub1 (.agg xs) (.agg ys) := fun E X v hv => by
 cases hv with
 | @agg vs _ h1 h2 =>
  refine .agg (h1.trans h) fun j v c a b => ?_
  have hj := (List.getElem?_eq_some_iff.1 b).1
  rw [← h] at hj
  exact Subs.get h hs j _ c (List.getElem?_eq_getElem hj) b _ _ _ (h2 j v _ a (List.getElem?_eq_getElem hj))
section
variable {P : Program} {G : World → Prop} {ro : Option Nat} {V w0 : World} {n : Nd} {σ : AState} {K : Exit → AState → Prop}
end
-- slices of none, one and two elements: rows of one's own (bs), or data (bd)
section
variable {k : Nat} {L : Operand → AV} {K K' : List (List IV) → Prop} {x0 x1 : Operand} {c0 c1 : List IV}
theorem bs0 (hk : 0 < k ∧ 0 * k ≤ 16777216) (hK : K []) : bsQ L k 0 #[] K K' := ⟨[], rfl, hk.1, hk.2, fun i cs h => by simp at h, rfl, .inl hK⟩
theorem bg1 (hk : 0 < k ∧ 1 * k ≤ 16777216) (h2 : okC (L x0) = true) (h3 : toIs (cellsA (L x0)) = some c0) (h1 : c0.length = k) (h4 : okAs (cellsA (L x0))) (hK : K [c0] ∨ K' [c0]) : bsQ L k 1 #[(0, x0)] K K' :=
 ⟨[c0], rfl, hk.1, hk.2, fun i cs h => by
  match i, h with
  | 0, h => simp at h; subst h; exact ⟨h1, x0, rfl, h2, .of h3 h4⟩
  | i + 1, h => simp at h, rfl, hK⟩
theorem bs1 (hk : 0 < k ∧ 1 * k ≤ 16777216) (h2 : okC (L x0) = true) (h3 : toIs (cellsA (L x0)) = some c0) (h1 : c0.length = k) (h4 : okAs (cellsA (L x0))) (hK : K [c0]) : bsQ L k 1 #[(0, x0)] K K' := bg1 hk h2 h3 h1 h4 (.inl hK)
theorem bd1 (hk : 0 < k ∧ 1 * k ≤ 16777216) (h2 : okC (L x0) = true) (h3 : toIs (cellsA (L x0)) = some c0) (h1 : c0.length = k) (h4 : okAs (cellsA (L x0))) (hK : K' [c0]) : bsQ L k 1 #[(0, x0)] K K' := bg1 hk h2 h3 h1 h4 (.inr hK)
theorem bg2 {d1 : List IV} (hk : 0 < k ∧ 2 * k ≤ 16777216) (h2 : okC (L x0) = true) (h3 : toIs (cellsA (L x0)) = some c0) (h1 : c0.length = k) (h4 : okAs (cellsA (L x0))) (g2 : okC (L x1) = true) (g3 : toIs (cellsA (L x1)) = some d1) (g1 : d1.length = k) (g4 : okAs (cellsA (L x1))) (hK : K [c0, d1] ∨ K' [c0, d1]) : bsQ L k 2 #[(0, x0), (1, x1)] K K' :=
 ⟨[c0, d1], rfl, hk.1, hk.2, fun i cs h => by
  match i, h with
  | 0, h => simp at h; subst h; exact ⟨h1, x0, rfl, h2, .of h3 h4⟩
  | 1, h => simp at h; subst h; exact ⟨g1, x1, rfl, g2, .of g3 g4⟩
  | i + 2, h => simp at h, rfl, hK⟩
theorem bs2 {d1 : List IV} (hk : 0 < k ∧ 2 * k ≤ 16777216) (h2 : okC (L x0) = true) (h3 : toIs (cellsA (L x0)) = some c0) (h1 : c0.length = k) (h4 : okAs (cellsA (L x0))) (g2 : okC (L x1) = true) (g3 : toIs (cellsA (L x1)) = some d1) (g1 : d1.length = k) (g4 : okAs (cellsA (L x1))) (hK : K [c0, d1]) : bsQ L k 2 #[(0, x0), (1, x1)] K K' := bg2 hk h2 h3 h1 h4 g2 g3 g1 g4 (.inl hK)
theorem bd2 {d1 : List IV} (hk : 0 < k ∧ 2 * k ≤ 16777216) (h2 : okC (L x0) = true) (h3 : toIs (cellsA (L x0)) = some c0) (h1 : c0.length = k) (h4 : okAs (cellsA (L x0))) (g2 : okC (L x1) = true) (g3 : toIs (cellsA (L x1)) = some d1) (g1 : d1.length = k) (g4 : okAs (cellsA (L x1))) (hK : K' [c0, d1]) : bsQ L k 2 #[(0, x0), (1, x1)] K K' := bg2 hk h2 h3 h1 h4 g2 g3 g1 g4 (.inr hK)
end
@[go_sem] theorem toI_val {v : Value} : toI (.val v) = some (.val v) := rfl
@[go_sem] theorem toI_iv {i : IV} : toI (.iv i) = some i := rfl
@[go_sem] theorem toI_ip {cs : List IV} : toI (.ip cs) = some (.pt cs) := rfl
@[go_sem] theorem toIs_nil : toIs [] = some [] := rfl
@[go_sem] theorem toIs_cons {c : AV} {cs : List AV} : toIs (c :: cs) = (match toI c, toIs cs with
  | some i, some is => some (i :: is)
  | _, _ => none) := rfl
-- stores, by what they are put to
theorem storeQ_bp {P : Program} {t : TypeId} {b p : Nat} {y : AV} {bk : List BA} {K : List BA → Prop} : storeQ P t (.bp b p) y bk K = (match tyK P t with
  | some (_, s) => okC y = true ∧ (cellsA y).length = s ∧ match findB b bk with
   | some (.box _ cs) => p + s ≤ cs.length ∧ K (replB b [.box b (setsL cs p (cellsA y))] bk)
   | some (.arr _ cs) => ∃ is, toIs (cellsA y) = some is ∧ okAs (cellsA y) ∧ p + s ≤ cs.length ∧ Hold (K (replB b [.arr b (setsL cs p is)] bk))
   | _ => False
  | none => False) := by unfold storeQ Hold; rfl
theorem storeQ_rp {P : Program} {t : TypeId} {b k i j : Nat} {y : AV} {bk : List BA} {K : List BA → Prop} : storeQ P t (.rp b k i j) y bk K = (match tyK P t with
  | some (_, s) => okC y = true ∧ (cellsA y).length = s ∧ match findB b bk with
   | some (.row _ e k' l) => k' = k ∧ ∃ is cs, toIs (cellsA y) = some is ∧ okAs (cellsA y) ∧ l[i]? = some cs ∧ j + s ≤ k ∧ Hold (K (replB b [.row b e k (l.set i (setsL cs j is))] bk))
   | _ => False
  | none => False) := by unfold storeQ Hold; rfl
end Go.Proofs.YtkphfdmelfhnoaaGreatDoor
