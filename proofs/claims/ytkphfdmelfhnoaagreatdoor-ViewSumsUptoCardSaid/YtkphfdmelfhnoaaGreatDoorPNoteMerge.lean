/- One note for two dull ones of which the second goes on where the first ends (the program's). -/
import Derived.Test.YtkphfdmelfhnoaaGreatDoorPAbsIter
import Derived.Test.YtkphfdmelfhnoaaGreatDoorPEnc
import Derived.Test.YtkphfdmelfhnoaaGreatDoorPStreamSpec
import Derived.Test.YtkphfdmelfhnoaaGreatDoorPBridge
import Derived.Test.YtkphfdmelfhnoaaGreatDoorPBridge2
set_option linter.all false
set_option linter.unnecessarySimpa false
set_option linter.unusedSimpArgs false
set_option linter.unusedVariables false
namespace Go.Proofs.YtkphfdmelfhnoaaGreatDoor
open Go.ChangeShapes Go.WideShapes Go.ChangeAt Go.RowKit
def Calm (G : World → Prop) : Prop := ∀ w r (o' : Obj), G w → (∃ o : Obj, w.heap[r]? = some o ∧ idleO o = true) → G (w.putObj r o')
section
variable {P : Program} {G : World → Prop} {α : Type} {encs : α → List AV} {Sp : List α → Prop} {Y : YC P G encs Sp} {n : Nat} {K : Exit → Ys α → AState → Prop}
def ypost (K : Exit → Ys α → AState → Prop) (pu : List (Nat × AV)) (I : List α → Prop) : Exit → Ys α → AState → Prop
 | .normal, .going q, _ => I q
 | .ret, .going q, _ => K .ret (.over (some q)) ⟨pu, []⟩
 | .ret, .left, _ => K .ret (.over none) ⟨pu, []⟩
 | .exit id, .going q, _ => K (.exit id) (.over (some q)) ⟨pu, []⟩
 | .exit id, .left, _ => K (.exit id) (.over none) ⟨pu, []⟩
 | _, _, _ => False
end
def Sub1 (x y : AV) : Prop := ∀ (E : Env) (X : World) (v : Value), RepA E X v x → RepA E X v y
theorem Sub1.rfl_ (x : AV) : Sub1 x x := fun _ _ _ h => h
theorem nil_sub (k : Nat) : Sub1 (.val (.slice none 0 0)) (.iv (.sl k [])) := rep_nil
theorem Subs.get {xs ys : List AV} (h : xs.length = ys.length) (hs : ∀ p ∈ xs.zip ys, Sub1 p.1 p.2) (j : Nat) (x y : AV) (hx : xs[j]? = some x) (hy : ys[j]? = some y) : Sub1 x y :=
 hs (x, y) (List.mem_iff_getElem?.2 ⟨j, by rw [List.getElem?_zip_eq_some]; exact ⟨hx, hy⟩⟩)
theorem tup_sub {xs ys : List AV} (h : xs.length = ys.length) (hs : ∀ p ∈ xs.zip ys, Sub1 p.1 p.2) : Sub1 (.tup xs) (.tup ys) := fun E X v hv => by
 cases hv with
 | @tup vs _ h1 h2 =>
  refine .tup (h1.trans h) fun j v c a b => ?_
  have hj := (List.getElem?_eq_some_iff.1 b).1
  rw [← h] at hj
  exact Subs.get h hs j _ c (List.getElem?_eq_getElem hj) b _ _ _ (h2 j v _ a (List.getElem?_eq_getElem hj))
theorem agg_sub {xs ys : List AV} (h : xs.length = ys.length) (hs : ∀ p ∈ xs.zip ys, Sub1 p.1 p.2) : Sub1 (.agg xs) (.agg ys) := fun E X v hv => by
 cases hv with
 | @agg vs _ h1 h2 =>
  refine .agg (h1.trans h) fun j v c a b => ?_
  have hj := (List.getElem?_eq_some_iff.1 b).1
  rw [← h] at hj
  exact Subs.get h hs j _ c (List.getElem?_eq_getElem hj) b _ _ _ (h2 j v _ a (List.getElem?_eq_getElem hj))
section
variable {P : Program} {G : World → Prop} {ro : Option Nat} {V w0 : World} {n : Nd} {σ : AState} {K : Exit → AState → Prop}
theorem AW.sub {c : Code} (i : Nat) (x y : AV) (hi : look σ.fr i = x) (hxy : Sub1 x y) (h : AW P G ro V w0 n c ⟨(i, y) :: σ.fr, σ.bk⟩ K) : AW P G ro V w0 n c σ K := fun hG m0 E a w hn hs => by
 refine h hG m0 E a w hn ⟨hs.ext, hs.low, hs.apart, hs.base, hs.holds, fun j => ?_, hs.size, hs.defers, hs.hold⟩
 simp only [look]
 split
 ·rename_i e1
  subst e1
  have := hs.slots j
  rw [hi] at this
  exact hxy _ _ _ this
 ·exact hs.slots j
end
-- slices of none, one and two elements: rows of one's own (bs), or data (bd)
section
variable {k : Nat} {L : Operand → AV} {K K' : List (List IV) → Prop} {x0 x1 : Operand} {c0 c1 : List IV}
theorem bg1 (hk : 0 < k ∧ 1 * k ≤ 16777216) (h2 : okC (L x0) = true) (h3 : toIs (cellsA (L x0)) = some c0) (h1 : c0.length = k) (h4 : okAs (cellsA (L x0))) (hK : K [c0] ∨ K' [c0]) : bsQ L k 1 #[(0, x0)] K K' :=
 ⟨[c0], rfl, hk.1, hk.2, fun i cs h => by
  match i, h with
  | 0, h => simp at h; subst h; exact ⟨h1, x0, rfl, h2, .of h3 h4⟩
  | i + 1, h => simp at h, rfl, hK⟩
theorem bs1 (hk : 0 < k ∧ 1 * k ≤ 16777216) (h2 : okC (L x0) = true) (h3 : toIs (cellsA (L x0)) = some c0) (h1 : c0.length = k) (h4 : okAs (cellsA (L x0))) (hK : K [c0]) : bsQ L k 1 #[(0, x0)] K K' := bg1 hk h2 h3 h1 h4 (.inl hK)
theorem bd1 (hk : 0 < k ∧ 1 * k ≤ 16777216) (h2 : okC (L x0) = true) (h3 : toIs (cellsA (L x0)) = some c0) (h1 : c0.length = k) (h4 : okAs (cellsA (L x0))) (hK : K' [c0]) : bsQ L k 1 #[(0, x0)] K K' := bg1 hk h2 h3 h1 h4 (.inr hK)
theorem bg2 {d1 : List IV} (hk : 0 < k ∧ 2 * k ≤ 16777216) (h2 : okC (L x0) = true) (h3 : toIs (cellsA (L x0)) = some c0) (h1 : c0.length = k) (h4 : okAs (cellsA (L x0))) (g2 : okC (L x1) = true) (g3 : toIs (cellsA (L x1)) = some d1) (g1 : d1.length = k) (g4 : okAs (cellsA (L x1))) (hK : K [c0, d1] ∨ K' [c0, d1]) : bsQ L k 2 #[(0, x0), (1, x1)] K K' :=
 ⟨[c0, d1], rfl, hk.1, hk.2, fun i cs h => by
  match i, h with
  | 0, h => simp at h; subst h; exact ⟨h1, x0, rfl, h2, .of h3 h4⟩
  | 1, h => simp at h; subst h; exact ⟨g1, x1, rfl, g2, .of g3 g4⟩
  | i + 2, h => simp at h, rfl, hK⟩
theorem bs2 {d1 : List IV} (hk : 0 < k ∧ 2 * k ≤ 16777216) (h2 : okC (L x0) = true) (h3 : toIs (cellsA (L x0)) = some c0) (h1 : c0.length = k) (h4 : okAs (cellsA (L x0))) (g2 : okC (L x1) = true) (g3 : toIs (cellsA (L x1)) = some d1) (g1 : d1.length = k) (g4 : okAs (cellsA (L x1))) (hK : K [c0, d1]) : bsQ L k 2 #[(0, x0), (1, x1)] K K' := bg2 hk h2 h3 h1 h4 g2 g3 g1 g4 (.inl hK)
theorem bd2 {d1 : List IV} (hk : 0 < k ∧ 2 * k ≤ 16777216) (h2 : okC (L x0) = true) (h3 : toIs (cellsA (L x0)) = some c0) (h1 : c0.length = k) (h4 : okAs (cellsA (L x0))) (g2 : okC (L x1) = true) (g3 : toIs (cellsA (L x1)) = some d1) (g1 : d1.length = k) (g4 : okAs (cellsA (L x1))) (hK : K' [c0, d1]) : bsQ L k 2 #[(0, x0), (1, x1)] K K' := bg2 hk h2 h3 h1 h4 g2 g3 g1 g4 (.inr hK)
end
@[go_sem] theorem toI_val {v : Value} : toI (.val v) = some (.val v) := rfl
@[go_sem] theorem toI_iv {i : IV} : toI (.iv i) = some i := rfl
@[go_sem] theorem toI_ip {cs : List IV} : toI (.ip cs) = some (.pt cs) := rfl
@[go_sem] theorem toIs_nil : toIs [] = some [] := rfl
@[go_sem] theorem toIs_cons {c : AV} {cs : List AV} : toIs (c :: cs) = (match toI c, toIs cs with
  | some i, some is => some (i :: is)
  | _, _ => none) := rfl
-- stores, by what they are put to
theorem storeQ_bp {P : Program} {t : TypeId} {b p : Nat} {y : AV} {bk : List BA} {K : List BA → Prop} : storeQ P t (.bp b p) y bk K = (match tyK P t with
  | some (_, s) => okC y = true ∧ (cellsA y).length = s ∧ match findB b bk with
   | some (.box _ cs) => p + s ≤ cs.length ∧ K (replB b [.box b (setsL cs p (cellsA y))] bk)
   | some (.arr _ cs) => ∃ is, toIs (cellsA y) = some is ∧ okAs (cellsA y) ∧ p + s ≤ cs.length ∧ Hold (K (replB b [.arr b (setsL cs p is)] bk))
   | _ => False
  | none => False) := by unfold storeQ Hold; rfl
theorem storeQ_rp {P : Program} {t : TypeId} {b k i j : Nat} {y : AV} {bk : List BA} {K : List BA → Prop} : storeQ P t (.rp b k i j) y bk K = (match tyK P t with
  | some (_, s) => okC y = true ∧ (cellsA y).length = s ∧ match findB b bk with
   | some (.row _ e k' l) => k' = k ∧ ∃ is cs, toIs (cellsA y) = some is ∧ okAs (cellsA y) ∧ l[i]? = some cs ∧ j + s ≤ k ∧ Hold (K (replB b [.row b e k (l.set i (setsL cs j is))] bk))
   | _ => False
  | none => False) := by unfold storeQ Hold; rfl
def LogR (w : World) (B : Nat) (cs : List Value) (l : Log) : Prop := ∃ v0 v1, cs = [v0, v1, .int .i64 l.sure] ∧ Stamps w B v0 l.base ∧ Notes w B v1 l.notes ∧ I64 l.sure
structure Ask where
 at_ : Int
 most : Int
def AskR (cs : List Value) (a : Ask) : Prop := cs = [.int .i64 a.at_, .int .i64 a.most] ∧ I64 a.at_ ∧ I64 a.most
def logA (l : Log) : AV := .agg [.iv (stI l.base), .iv (noI l.notes), .val (.int .i64 l.sure)]
theorem logA_eq (l : Log) : logA l = .agg [.iv (stI l.base), .iv (noI l.notes), .val (.int .i64 l.sure)] := rfl
theorem ACalls.law {P : Program} {G : World → Prop} {f : FuncId} {args : List AV} {r : Value} (h : ACalls P G f args (.val r) []) {W : World} {vs : Array Value} (hG : G W) (hr : RepAs ⟨fun _ => 0, fun _ => undef⟩ W vs.toList args) :
  Calls P f vs W fun e w' => e = .returned r ∧ Below W.heap.size W w' :=
 (h.2 W W _ vs (Ext.refl W) hG hr).mono fun _ _ ⟨v, E', h1, h2, _, _, _, h6⟩ => by
  cases h6
  exact ⟨h1, h2⟩
section
variable {P : Program} {t : TypeId} {e k c b : Nat} {l m : List (List IV)} {y : AV} {bk : List BA} {K : AV → List BA → Prop}
theorem append_own (hb : findB b bk = some (.row b e k l)) (ht : (tySl P t).map (fun q => (q.1, q.2.1, Nat.ble q.2.2 131072)) = some (e, k, true)) (hk : 0 < k) (hz : (tyZ P e).map (fun z => z.2.length) = some k)
  (hs : srcQ bk k (nrm y) = some m) (hlen : l.length + m.length ≤ 1073741824) (hK : K (.own c) (.row c e k (l ++ m) :: replB b [] bk)) : appendQ P t (.own b) y c bk K := by
 unfold appendQ
 obtain ⟨⟨e', k', yb⟩, h1, h2⟩ := Option.map_eq_some_iff.1 ht
 simp only [Prod.mk.injEq] at h2
 obtain ⟨rfl, rfl, h3⟩ := h2
 rw [h1]
 refine ⟨hk, Nat.le_of_ble_eq_true h3, hz, ?_⟩
 rw [show nrm (.own b) = .own b from rfl, hs]
 simp only [hb]
 exact ⟨trivial, trivial, hlen, hK⟩
theorem append_nil (ht : (tySl P t).map (fun q => (q.1, q.2.1, Nat.ble q.2.2 131072)) = some (e, k, true)) (hk : 0 < k) (hz : (tyZ P e).map (fun z => z.2.length) = some k)
  (hs : srcQ bk k (nrm y) = some m) (hlen : m.length ≤ 1073741824) (hK : K (.own c) (.row c e k m :: bk)) : appendQ P t (.val (.slice none 0 0)) y c bk K := by
 unfold appendQ
 obtain ⟨⟨e', k', yb⟩, h1, h2⟩ := Option.map_eq_some_iff.1 ht
 simp only [Prod.mk.injEq] at h2
 obtain ⟨rfl, rfl, h3⟩ := h2
 rw [h1]
 refine ⟨hk, Nat.le_of_ble_eq_true h3, hz, ?_⟩
 rw [show nrm (.val (.slice none 0 0)) = .val (.slice none 0 0) from rfl, hs]
 exact ⟨hlen, hK⟩
end
section
variable {P : Program} {G : World → Prop} {α : Type} {encs : α → List AV} {Sp : List α → Prop} {Y : YC P G encs Sp} {n : Nat} {y : Ys α} {σ : AState} {K : Exit → Ys α → AState → Prop} {c : Code}
end
section
variable {V w0 : World} {m : Fm} {E : Env} {a : Act} {w : World} {fr : List (Nat × AV)} {pre post : List BA} {b : Nat} {cs cs' : List AV}
theorem St.rebox (h : St V w0 m E ⟨fr, pre ++ .box b cs :: post⟩ a w) (hs : ∀ vs : List Value, RepAs E (vis V w0 w (owns E (pre ++ .box b cs :: post))) vs cs → RepAs E (vis V w0 w (owns E (pre ++ .box b cs :: post))) vs cs') : St V w0 m E ⟨fr, pre ++ .box b cs' :: post⟩ a w := by
 have ho : owns E (pre ++ .box b cs' :: post) = owns E (pre ++ .box b cs :: post) := by simp [owns_append, owns, BA.owned]
 refine ⟨h.ext, h.low, by rw [ho]; exact h.apart, by rw [ho]; exact h.base, fun x hx => ?_, fun i => by rw [ho]; exact h.slots i, h.size, h.defers, ?_⟩
 ·rw [ho]
  rcases List.mem_append.1 hx with hx | hx
  ·exact h.holds x (List.mem_append_left _ hx)
  ·rcases List.mem_cons.1 hx with rfl | hx
   ·obtain ⟨C, t, h1, h2⟩ := h.holds (.box b cs) (by simp)
    exact ⟨C, t, h1, hs _ h2⟩
   ·exact h.holds x (List.mem_append_right _ (List.mem_cons_of_mem _ hx))
 ·have := h.hold
  simp only [ho]
  exact this
end
section
variable {P : Program} {G : World → Prop} {ro : Option Nat} {V w0 : World} {n : Nd} {σ : AState} {K : Exit → AState → Prop}
theorem AW.adoptB {c : Code} (b r e k : Nat) (hb : findB b σ.bk = some (.box b [.val (.slice none 0 0)])) (hf : (offF r (r + 1) σ.fr && offB r (r + 1) σ.bk) = true) (h : AW P G ro V w0 n c ⟨σ.fr, .row r e k [] :: replB b [.box b [.own r]] σ.bk⟩ K) : AW P G ro V w0 n c σ K := fun hG m0 E a w hn hs => by
 rw [Bool.and_eq_true] at hf
 have hE : Env.same r (r + 1) E ⟨E.blk, fun x => if x = r then .slice none 0 0 else E.row x⟩ := fun x hx => by
  have : ¬ x = r := by omega
  simp [this]
 have ho : owns ⟨E.blk, fun x => if x = r then .slice none 0 0 else E.row x⟩ [.row r e k []] = [] := by simp [owns, BA.owned, Value.ownBlock]
 have hs2 := hs.add (E' := ⟨E.blk, fun x => if x = r then .slice none 0 0 else E.row x⟩) (nb := [.row r e k []]) (Below.refl _ w) hE hf.1 hf.2 (by rw [ho]; exact List.nodup_nil) (fun g hg => by rw [ho] at hg; cases hg) (fun x hx => by
  simp only [List.mem_singleton] at hx
  subst hx
  refine ⟨?_, fun g hg => by simp [Value.ownBlock] at hg⟩
  simp only [if_true]
  exact OwnSl.nil_ _ _ _)
 obtain ⟨pre, post, e1, e2, e3⟩ := findB_split hb
 obtain ⟨fr, bk⟩ := σ
 simp only at e1 e3 hs2 h
 have e4 := e3 [.box b [.own r]]
 subst e1
 rw [e4] at h
 have hs3 : St V w0 m0 ⟨E.blk, fun x => if x = r then .slice none 0 0 else E.row x⟩ ⟨fr, (.row r e k [] :: pre) ++ .box b [.val (.slice none 0 0)] :: post⟩ a w := by simpa using hs2
 have hs4 := hs3.rebox (cs' := [.own r]) fun vs hv => by
  obtain ⟨v, vs', h1, h2, h3⟩ := RepAs.cons_iff.1 hv
  rw [RepAs.nil_iff] at h3
  subst h3
  rw [h1]
  cases h2
  exact RepAs.cons (.own (by simp)) RepAs.nil
 refine h hG m0 _ a w hn (by simpa using hs4)
end
attribute [local irreducible] AW AWY vops vopsY vop vopL vdraw callW qop binQ lenQ storeQ appendQ callQ ACalls AIter
@[go_sem] theorem nrm_st (l : List Stamp) : nrm (.iv (stI l)) = .iv (stI l) := rfl
@[go_sem] theorem nrm_sp (l : List Span) : nrm (.iv (spI l)) = .iv (spI l) := rfl
@[go_sem] theorem nrm_wr (l : List Write) : nrm (.iv (wrI l)) = .iv (wrI l) := rfl
theorem noteA_eq (x : Note) : noteA x = .agg [.iv (stI x.start), .iv (stI x.end_), .iv (spI x.blur), .iv (wrI x.writes)] := rfl
theorem noI_eq (l : List Note) : noI l = .sl 4 (l.map enN) := rfl
theorem wrI_eq (l : List Write) : wrI l = .sl 4 (l.map enW) := rfl
theorem flat_row {i e k : Nat} {l : List (List IV)} (h : ∀ cs ∈ l, ∀ x ∈ cs, ∃ v, x = .val v) : flatB [.row i e k l] := fun b hb => by
 rw [List.mem_singleton.1 hb]
 exact ⟨i, e, k, l, rfl, h⟩
theorem flat_sp (l : List Span) : ∀ cs ∈ l.map enSp, ∀ x ∈ cs, ∃ v, x = IV.val v := fun cs hcs x hx => by
 obtain ⟨s, _, rfl⟩ := List.mem_map.1 hcs
 simp [enSp] at hx
 rcases hx with rfl | rfl <;> exact ⟨_, rfl⟩
attribute [local go_sem] noI_eq enN_eq logA_eq noteA_eq storeQ_bp storeQ_rp
theorem clonestD (l : List Stamp) : ACalls Tryz.prog TzTab 106 [.iv (stI l)] (.iv (stI l)) [] := (clonest_call l).frz trivial
theorem clonewD (l : List Write) : ACalls Tryz.prog TzTab 71 [.iv (wrI l)] (.iv (wrI l)) [] := (clonew_call l).frz trivial
end Go.Proofs.YtkphfdmelfhnoaaGreatDoor
namespace Go.Proofs.YtkphfdmelfhnoaaGreatDoor
open Go.ChangeShapes Go.WideShapes Go.ChangeAt Go.RowKit
attribute [local irreducible] AW AWY vops vopsY vop vopL vdraw callW qop binQ lenQ storeQ appendQ callQ ACalls AIter
attribute [local go_sem] storeQ_bp storeQ_rp
def nilW : AV := .iv (.sl 4 [])
theorem nilW_eq : nilW = .iv (.sl 4 []) := rfl
attribute [local go_sem] nilW_eq List.length_nil
end Go.Proofs.YtkphfdmelfhnoaaGreatDoor
namespace Go.Proofs.YtkphfdmelfhnoaaGreatDoor
open Go.ChangeShapes Go.WideShapes Go.ChangeAt Go.RowKit
attribute [local irreducible] AW AWY vops vopsY vop vopL vdraw callW qop binQ lenQ storeQ appendQ callQ ACalls AIter
attribute [local go_sem] noteA_eq storeQ_bp storeQ_rp wrI_eq List.map_nil nilW_eq
end Go.Proofs.YtkphfdmelfhnoaaGreatDoor
