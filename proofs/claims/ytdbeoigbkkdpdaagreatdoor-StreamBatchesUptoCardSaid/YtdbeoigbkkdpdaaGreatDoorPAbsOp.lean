/- What an operation does to an abstract state: the formula that has to be shown of it, and that it is enough. No program is known here. -/
import Derived.Test.YtdbeoigbkkdpdaaGreatDoorPOrdersLaw
import Derived.Test.YtdbeoigbkkdpdaaGreatDoorPMarks
import Derived.OrdersIn
import Derived.OwnWalkIn
import Derived.Scope
import Derived.Laws.IdiomCopy
set_option linter.all false
set_option linter.unnecessarySimpa false
set_option linter.unusedSimpArgs false
set_option linter.unusedVariables false
/- Abstract values: what lies in memory, told as data. A value that nobody turns any more is told as a tree ('IV'); beside it pointers into what a call owns. No program is known here. -/
namespace Go.Proofs.YtdbeoigbkkdpdaaGreatDoor
open Go.ChangeShapes Go.WideShapes Go.ChangeAt Go.RowKit

/-- a value that nobody turns: a single cell's value, or a slice of elements of k cells each -/
inductive IV where
  | val (v : Value)
  | sl (k : Nat) (l : List (List IV))
  | pt (cs : List IV)
instance : Inhabited IV := ⟨.val undef⟩
def okV : Value → Prop
  | .int k n => (Lit.int k n).wf = true
  | .string s => s.size ≤ maxLen
  | .agg _ => False
  | .tuple _ => False
  | _ => True
theorem okV_one {v : Value} (h : okV v) : v.oneCell' = true := by
  cases v <;> first | rfl | exact h.elim

/-- the value v reads as the tree, in what X shows -/
inductive RepV (X : World) : Value → IV → Prop
  | val {v : Value} : okV v → RepV X v (.val v)
  | nil {A : Option Addr} {c k : Nat} : c ≤ maxLen → RepV X (.slice A 0 c) (.sl k [])
  | sl {b off c k : Nat} {l : List (List IV)} (f : Nat → Nat → Value) : b < X.heap.size → l.length ≤ c → l.length ≤ 1073741824 → c ≤ maxLen → (∀ cs ∈ l, cs.length = k) →
      (∀ i j cs u, l[i]? = some cs → cs[j]? = some u → X.cell? ⟨b, off + i * k + j, none⟩ = some (f i j)) →
      (∀ i j cs u, l[i]? = some cs → cs[j]? = some u → RepV X (f i j) u) → RepV X (.slice (some ⟨b, off, none⟩) l.length c) (.sl k l)
  | pt {b off : Nat} {cs : List IV} (f : Nat → Value) : (∀ j u, cs[j]? = some u → X.cell? ⟨b, off + j, none⟩ = some (f j)) → (∀ j u, cs[j]? = some u → RepV X (f j) u) → RepV X (.pointer (some ⟨b, off, none⟩)) (.pt cs)
theorem RepV.ext {X X' : World} (he : Ext X X') {v : Value} {i : IV} (h : RepV X v i) : RepV X' v i := by
  induction h with
  | val h => exact .val h
  | nil h => exact .nil h
  | sl f h0 h1 h2 h3 h4 h5 _ ih => exact .sl f (Nat.lt_of_lt_of_le h0 he.size) h1 h2 h3 h4 (fun i j cs u a b => he.cell _ _ (h5 i j cs u a b)) ih
  | pt f h1 _ ih => exact .pt f (fun j u a => he.cell _ _ (h1 j u a)) ih
theorem RepV.one {X : World} {v : Value} {i : IV} (h : RepV X v i) : v.oneCell' = true := by
  cases h with
  | val h => exact okV_one h
  | nil _ => rfl
  | sl _ => rfl
  | pt _ => rfl

def RepVs (X : World) : List Value → List IV → Prop
  | [], [] => True
  | v :: vs, i :: is => RepV X v i ∧ RepVs X vs is
  | _, _ => False
theorem RepVs.len {X : World} : ∀ {vs : List Value} {is : List IV}, RepVs X vs is → vs.length = is.length
  | [], [], _ => rfl
  | _ :: _, _ :: _, h => congrArg (· + 1) (RepVs.len h.2)
  | [], _ :: _, h => h.elim
  | _ :: _, [], h => h.elim
theorem RepVs.get {X : World} : ∀ {vs : List Value} {is : List IV}, RepVs X vs is → ∀ {j : Nat} {v : Value} {i : IV}, vs[j]? = some v → is[j]? = some i → RepV X v i
  | _ :: _, _ :: _, h, 0, _, _, a, b => by simp at a b; subst a b; exact h.1
  | _ :: _, _ :: _, h, j + 1, _, _, a, b => RepVs.get h.2 (j := j) (by simpa using a) (by simpa using b)
  | [], _, _, j, _, _, a, _ => by simp at a
  | _ :: _, [], h, _, _, _, _, _ => h.elim
theorem RepVs.of {X : World} : ∀ {vs : List Value} {is : List IV}, vs.length = is.length → (∀ (j : Nat) (v : Value) (i : IV), vs[j]? = some v → is[j]? = some i → RepV X v i) → RepVs X vs is
  | [], [], _, _ => trivial
  | v :: vs, i :: is, hl, h => ⟨h 0 v i rfl rfl, RepVs.of (by simpa using hl) fun j v i a b => h (j + 1) v i (by simpa using a) (by simpa using b)⟩
  | [], _ :: _, hl, _ => by simp at hl
  | _ :: _, [], hl, _ => by simp at hl
theorem RepVs.ext {X X' : World} (he : Ext X X') {vs : List Value} {is : List IV} (h : RepVs X vs is) : RepVs X' vs is := RepVs.of h.len fun _ _ _ a b => (h.get a b).ext he
theorem RepVs.append {X : World} : ∀ {vs : List Value} {is : List IV} {vs' : List Value} {is' : List IV}, RepVs X vs is → RepVs X vs' is' → RepVs X (vs ++ vs') (is ++ is')
  | [], [], _, _, _, h => h
  | _ :: _, _ :: _, _, _, h, h' => ⟨h.1, RepVs.append h.2 h'⟩
  | [], _ :: _, _, _, h, _ => h.elim
  | _ :: _, [], _, _, h, _ => h.elim
theorem RepVs.one {X : World} {vs : List Value} {is : List IV} (h : RepVs X vs is) : ∀ u ∈ vs, u.oneCell' = true := by
  intro u hu
  obtain ⟨j, hj⟩ := List.mem_iff_getElem?.1 hu
  have hlt := (List.getElem?_eq_some_iff.1 hj).1
  rw [h.len] at hlt
  exact (h.get hj (List.getElem?_eq_getElem hlt)).one
section
variable {X : World} {v : Value} {k : Nat} {l : List (List IV)}
theorem RepV.to_sl (h : RepV X v (.sl k l)) : Sl (RepVs X) k X X.heap.size v l := by
  cases h with
  | nil h => exact Sl.nil_ h _
  | @sl b off c _ _ f h0 h1 h2 h3 h4 h5 h6 =>
    refine ⟨_, c, rfl, ⟨h1, h2⟩, h3, fun hne => ⟨b, off, rfl, h0, fun i cs hx => ?_⟩⟩
    refine ⟨(List.range cs.length).map (f i), RepVs.of (by simp) fun j v u a b => ?_, by simp [h4 cs (List.mem_of_getElem? hx)], fun j u hu => ?_⟩
    · have hj := (List.getElem?_eq_some_iff.1 b).1
      rw [List.getElem?_map, List.getElem?_range hj] at a
      obtain rfl := Option.some.inj a
      exact h6 i j cs u hx b
    · obtain ⟨hj, e⟩ := List.getElem?_eq_some_iff.1 hu
      simp only [List.length_map, List.length_range] at hj
      simp only [List.getElem_map, List.getElem_range] at e
      subst e
      exact h5 i j cs _ hx (List.getElem?_eq_getElem hj)
theorem RepV.of_sl (h : Sl (RepVs X) k X X.heap.size v l) : RepV X v (.sl k l) := by
  obtain ⟨A, c, rfl, ⟨h1, h2⟩, h3, h4⟩ := h
  by_cases hne : l = []
  · subst hne
    exact .nil h3
  · obtain ⟨b, off, rfl, hb, h5⟩ := h4 hne
    refine .sl (fun i j => (X.cell? ⟨b, off + i * k + j, none⟩).getD undef) hb h1 h2 h3 (fun cs hcs => ?_) (fun i j cs u hx hu => ?_) (fun i j cs u hx hu => ?_)
    · obtain ⟨i, hi⟩ := List.mem_iff_getElem?.1 hcs
      obtain ⟨vs, a1, a2, _⟩ := h5 i cs hi
      rw [← a1.len, a2]
    · obtain ⟨vs, a1, a2, a3⟩ := h5 i cs hx
      have hj := (List.getElem?_eq_some_iff.1 hu).1
      rw [← a1.len] at hj
      rw [a3 j _ (List.getElem?_eq_getElem hj)]
      rfl
    · obtain ⟨vs, a1, a2, a3⟩ := h5 i cs hx
      have hj := (List.getElem?_eq_some_iff.1 hu).1
      rw [← a1.len] at hj
      simp only [a3 j _ (List.getElem?_eq_getElem hj), Option.getD_some]
      exact a1.get (List.getElem?_eq_getElem hj) hu
/-- a slice of typed elements, told as a tree -/
theorem RepV.of_typed {α : Type} {R : List Value → α → Prop} {enc : α → List IV} (hR : ∀ cs x, R cs x → RepVs X cs (enc x)) {l : List α} {B : Nat} (h : Sl R k X B v l) (hB : B ≤ X.heap.size) : RepV X v (.sl k (l.map enc)) := by
  refine RepV.of_sl ?_
  obtain ⟨A, c, rfl, h1, h3, h4⟩ := h
  refine ⟨A, c, by rw [List.length_map], by rw [List.length_map]; exact h1, h3, fun hne => ?_⟩
  obtain ⟨b, off, rfl, hb, h5⟩ := h4 (fun e => hne (by rw [e]; rfl))
  refine ⟨b, off, rfl, Nat.lt_of_lt_of_le hb hB, fun i cs hx => ?_⟩
  rw [List.getElem?_map, Option.map_eq_some_iff] at hx
  obtain ⟨y, hy, rfl⟩ := hx
  obtain ⟨vs, a1, a2, a3⟩ := h5 i y hy
  exact ⟨vs, hR _ _ a1, a2, a3⟩
theorem RepV.to_typed {α : Type} {R : List Value → α → Prop} {enc : α → List IV} {l : List α} (h : RepV X v (.sl k (l.map enc))) (hR : ∀ cs x, x ∈ l → RepVs X cs (enc x) → R cs x) : Sl R k X X.heap.size v l := by
  obtain ⟨A, c, rfl, h1, h3, h4⟩ := h.to_sl
  rw [List.length_map] at h1 ⊢
  refine ⟨A, c, rfl, h1, h3, fun hne => ?_⟩
  obtain ⟨b, off, rfl, hb, h5⟩ := h4 (fun e => hne (List.map_eq_nil_iff.1 e))
  refine ⟨b, off, rfl, hb, fun i y hy => ?_⟩
  obtain ⟨vs, a1, a2, a3⟩ := h5 i (enc y) (by rw [List.getElem?_map, hy]; rfl)
  exact ⟨vs, hR _ _ (List.mem_of_getElem? hy) a1, a2, a3⟩
end

/-- a slot's value: anything; a value that is known; a tree; a pointer to cells that nobody turns; a pointer into a block of one's own (by its name); a row of one's own; aggregates; a function with what it captured -/
inductive AV where
  | any
  | val (v : Value)
  | iv (i : IV)
  | ip (cs : List IV)
  | bp (b o : Nat)
  | rp (b k i j : Nat)
  | own (b : Nat)
  | agg (cs : List AV)
  | aggI (cs : List IV)
  | tup (vs : List AV)
  | fn (f : FuncId) (caps : List AV)
instance : Inhabited AV := ⟨.any⟩
/-- which block a name means, and which slice a row's name means -/
structure Env where
  blk : Nat → Nat
  row : Nat → Value

inductive RepA (E : Env) (X : World) : Value → AV → Prop
  | any {v : Value} : RepA E X v .any
  | val {v : Value} : RepA E X v (.val v)
  | iv {v : Value} {i : IV} : RepV X v i → RepA E X v (.iv i)
  | ip {b off : Nat} {cs : List IV} (f : Nat → Value) : (∀ j u, cs[j]? = some u → X.cell? ⟨b, off + j, none⟩ = some (f j)) → (∀ j u, cs[j]? = some u → RepV X (f j) u) → RepA E X (.pointer (some ⟨b, off, none⟩)) (.ip cs)
  | bp {b o : Nat} : RepA E X (.pointer (some ⟨E.blk b, o, none⟩)) (.bp b o)
  | rp {b k i j : Nat} : RepA E X (.pointer (some ⟨E.blk b, i * k + j, none⟩)) (.rp b k i j)
  | own {b : Nat} {A : Option Addr} {n c : Nat} : E.row b = .slice A n c → RepA E X (.slice A n c) (.own b)
  | aggI {vs : Array Value} {cs : List IV} : RepVs X vs.toList cs → RepA E X (.agg vs) (.aggI cs)
  | agg {vs : Array Value} {cs : List AV} : vs.size = cs.length → (∀ (j : Nat) v c, vs[j]? = some v → cs[j]? = some c → RepA E X v c) → RepA E X (.agg vs) (.agg cs)
  | tup {vs : Array Value} {cs : List AV} : vs.size = cs.length → (∀ (j : Nat) v c, vs[j]? = some v → cs[j]? = some c → RepA E X v c) → RepA E X (.tuple vs) (.tup cs)
  | fn {f : FuncId} {vs : Array Value} {cs : List AV} : vs.size = cs.length → (∀ (j : Nat) v c, vs[j]? = some v → cs[j]? = some c → RepA E X v c) → RepA E X (.func (.func f) #[] vs) (.fn f cs)

/-- the names of the range lo .. hi do not stand in it -/
def AV.off (lo hi : Nat) : AV → Bool
  | .bp b _ => decide (b < lo) || decide (hi ≤ b)
  | .rp b _ _ _ => decide (b < lo) || decide (hi ≤ b)
  | .own b => decide (b < lo) || decide (hi ≤ b)
  | .agg cs => offs lo hi cs
  | .tup cs => offs lo hi cs
  | .fn _ cs => offs lo hi cs
  | _ => true
where offs (lo hi : Nat) : List AV → Bool
  | [] => true
  | c :: cs => AV.off lo hi c && offs lo hi cs
def Env.same (lo hi : Nat) (E E' : Env) : Prop := ∀ b, (b < lo ∨ hi ≤ b) → E'.blk b = E.blk b ∧ E'.row b = E.row b
theorem Env.same_refl (lo hi : Nat) (E : Env) : Env.same lo hi E E := fun _ _ => ⟨rfl, rfl⟩
theorem offs_get {lo hi : Nat} : ∀ {cs : List AV}, AV.off.offs lo hi cs = true → ∀ {j : Nat} {c : AV}, cs[j]? = some c → c.off lo hi = true
  | [], _, j, c, h => by simp at h
  | d :: cs, h, 0, c, e => by
    simp only [AV.off.offs, Bool.and_eq_true] at h
    simp at e; subst e; exact h.1
  | d :: cs, h, j + 1, c, e => by
    simp only [AV.off.offs, Bool.and_eq_true] at h
    exact offs_get h.2 (by simpa using e)
theorem RepA.ext {E E' : Env} {X X' : World} {lo hi : Nat} (hE : Env.same lo hi E E') (he : Ext X X') {v : Value} {a : AV} (h : RepA E X v a) : a.off lo hi = true → RepA E' X' v a := by
  induction h with
  | any => exact fun _ => .any
  | val => exact fun _ => .val
  | iv h => exact fun _ => .iv (h.ext he)
  | ip f h1 h2 => exact fun _ => .ip f (fun j u hu => he.cell _ _ (h1 j u hu)) fun j u hu => (h2 j u hu).ext he
  | @bp b o =>
    intro hb
    simp only [AV.off, Bool.or_eq_true, decide_eq_true_eq] at hb
    rw [← (hE b hb).1]
    exact .bp
  | @rp b k i j =>
    intro hb
    simp only [AV.off, Bool.or_eq_true, decide_eq_true_eq] at hb
    rw [← (hE b hb).1]
    exact .rp
  | @own b A n c h =>
    intro hb
    simp only [AV.off, Bool.or_eq_true, decide_eq_true_eq] at hb
    exact .own ((hE b hb).2.trans h)
  | aggI h => exact fun _ => .aggI (h.ext he)
  | agg h1 _ ih => exact fun hb => .agg h1 fun j v c a b => ih j v c a b (offs_get hb b)
  | tup h1 _ ih => exact fun hb => .tup h1 fun j v c a b => ih j v c a b (offs_get hb b)
  | fn h1 _ ih => exact fun hb => .fn h1 fun j v c a b => ih j v c a b (offs_get hb b)
theorem off_none (lo : Nat) : ∀ a : AV, a.off lo lo = true := by
  have key : ∀ n (a : AV), SizeOf.sizeOf a ≤ n → a.off lo lo = true := by
    intro n
    induction n with
    | zero => intro a h; cases a <;> simp at h
    | succ n ih =>
      have hs : ∀ cs : List AV, SizeOf.sizeOf cs ≤ n → AV.off.offs lo lo cs = true := by
        intro cs
        induction cs with
        | nil => exact fun _ => rfl
        | cons c cs ihs =>
          intro h
          simp only [List.cons.sizeOf_spec] at h
          simp only [AV.off.offs, Bool.and_eq_true]
          exact ⟨ih c (by omega), ihs (by omega)⟩
      intro a h
      cases a with
      | any => rfl
      | val v => rfl
      | iv i => rfl
      | ip cs => rfl
      | bp b o => simp only [AV.off, Bool.or_eq_true, decide_eq_true_eq]; omega
      | rp b k i j => simp only [AV.off, Bool.or_eq_true, decide_eq_true_eq]; omega
      | own b => simp only [AV.off, Bool.or_eq_true, decide_eq_true_eq]; omega
      | aggI cs => rfl
      | agg cs => simp only [AV.agg.sizeOf_spec] at h; exact hs cs (by omega)
      | tup cs => simp only [AV.tup.sizeOf_spec] at h; exact hs cs (by omega)
      | fn f cs => simp only [AV.fn.sizeOf_spec] at h; exact hs cs (by omega)
  exact fun a => key _ a (Nat.le_refl _)
theorem RepA.mono {E : Env} {X X' : World} (he : Ext X X') {v : Value} {a : AV} (h : RepA E X v a) : RepA E X' v a := h.ext (Env.same_refl 0 0 E) he (off_none 0 a)

def RepAs (E : Env) (X : World) (vs : List Value) (cs : List AV) : Prop := vs.length = cs.length ∧ ∀ (j : Nat) v c, vs[j]? = some v → cs[j]? = some c → RepA E X v c
theorem RepAs.nil {E : Env} {X : World} : RepAs E X [] [] := ⟨rfl, fun j v c h => by simp at h⟩
theorem RepAs.cons {E : Env} {X : World} {v : Value} {vs : List Value} {c : AV} {cs : List AV} (h : RepA E X v c) (hs : RepAs E X vs cs) : RepAs E X (v :: vs) (c :: cs) :=
  ⟨by simp [hs.1], fun j u d a b => by
    cases j with
    | zero => simp at a b; subst a b; exact h
    | succ j => exact hs.2 j u d (by simpa using a) (by simpa using b)⟩
theorem RepAs.cons_iff {E : Env} {X : World} {vs : List Value} {c : AV} {cs : List AV} : RepAs E X vs (c :: cs) ↔ ∃ v vs', vs = v :: vs' ∧ RepA E X v c ∧ RepAs E X vs' cs := by
  constructor
  · rintro ⟨h1, h2⟩
    cases vs with
    | nil => simp at h1
    | cons v vs => exact ⟨v, vs, rfl, h2 0 v c rfl rfl, by simpa using h1, fun j u d a b => h2 (j + 1) u d (by simpa using a) (by simpa using b)⟩
  · rintro ⟨v, vs', rfl, h, hs⟩
    exact RepAs.cons h hs
theorem RepAs.nil_iff {E : Env} {X : World} {vs : List Value} : RepAs E X vs [] ↔ vs = [] := ⟨fun h => List.eq_nil_of_length_eq_zero h.1, fun h => h ▸ RepAs.nil⟩
theorem RepAs.ext {E E' : Env} {X X' : World} {lo hi : Nat} (hE : Env.same lo hi E E') (he : Ext X X') {vs : List Value} {cs : List AV} (h : RepAs E X vs cs) (hb : AV.off.offs lo hi cs = true) : RepAs E' X' vs cs :=
  ⟨h.1, fun j v c a b => (h.2 j v c a b).ext hE he (offs_get hb b)⟩
theorem RepAs.mono {E : Env} {X X' : World} (he : Ext X X') {vs : List Value} {cs : List AV} (h : RepAs E X vs cs) : RepAs E X' vs cs := ⟨h.1, fun j v c a b => (h.2 j v c a b).mono he⟩
theorem RepVs.as {E : Env} {X : World} {vs : List Value} {is : List IV} (h : RepVs X vs is) : RepAs E X vs (is.map AV.iv) :=
  ⟨by rw [List.length_map]; exact h.len, fun j v c a b => by
    rw [List.getElem?_map, Option.map_eq_some_iff] at b
    obtain ⟨i, hi, rfl⟩ := b
    exact .iv (h.get a hi)⟩
theorem RepAs.ofVals {E : Env} {X : World} (vs : List Value) : RepAs E X vs (vs.map AV.val) :=
  ⟨by simp, fun j v c a b => by
    rw [List.getElem?_map, a] at b
    obtain rfl := Option.some.inj b
    exact .val⟩
end Go.Proofs.YtdbeoigbkkdpdaaGreatDoor
/- Operations, regions and scopes in a round of a range over a function, as everywhere else. No program is known here. -/
namespace Go.Proofs.YtdbeoigbkkdpdaaGreatDoor
open Go.ChangeShapes Go.WideShapes Go.ChangeAt Go.RowKit

/-- no fence at all, in a round or in none -/
def FW (ro : Option Nat) : Fence := { Fence.wide with round := ro }
section
variable {P : Program}
theorem wp_wpIn {ro : Option Nat} {o : Oper} {a : Act} {w : World} {N : Act → World → Prop} {Q : Exit → Act → World → Prop} (hd : ∀ c, o.op ≠ .defer c) (h : o.wp P a w N Q) : o.wpIn (FW ro) 0 P a w N Q := by
  refine ⟨fun _ _ => trivial, ?_⟩
  rw [Oper.semAt_plain _ _ _ hd]
  unfold Oper.wp at h
  generalize (execOp a.eval o).run P w = r at *
  cases r with
  | ok x w' =>
    cases x <;> simp only [Oper.upon] at h <;> simp only [Oper.uponIn] <;>
      first
        | exact h
        | exact ⟨fun e => (by cases e), callsIn_wide.2 h⟩
        | exact ⟨fun e => (by cases e), fun c cs _ => let ⟨v, w', r, s⟩ := h c cs; ⟨v, w', r, stepsIn_wide.2 s⟩⟩
        | exact h.elim
  | halt x w' => cases x <;> simp only [Oper.upon] at h <;> simp only [Oper.uponIn] <;> exact h
theorem onward_wpIn {F : Fence} {n : Nat} {o : Oper} {a : Act} {w : World} {K : Act → World → Prop} {Q : Exit → Act → World → Prop} (h : o.wpIn F n P a w K (onward K Q)) : o.wpIn F n P a w K Q := by
  unfold Oper.wpIn at *
  refine ⟨h.1, ?_⟩
  have h := h.2
  generalize (o.semAt F.round a.eval).run P w = r at *
  cases r with
  | ok n w' =>
    cases n <;> simp only [Oper.uponIn] at h ⊢ <;>
      first
        | exact h
        | exact ⟨h.1, CallsIn.mono h.2 (fun e w'' he => by cases e <;> exact he)⟩
        | exact ⟨h.1, RowsIn.mono h.2 (fun _ _ he => he)⟩
        | exact ⟨h.1, RoundIn.mono h.2 (fun e w'' he => by cases e <;> exact he)⟩
  | halt x w' => cases x <;> simp only [Oper.uponIn] at h ⊢ <;> exact h
theorem onward_opIn {F : Fence} {n : Nat} {ops : Array Oper} {i : Nat} {o : Oper} {a : Act} {w : World} {K : Act → World → Prop} {Q : Exit → Act → World → Prop} (ho : ops[i]? = some o) (h : wpListIn F n P ops (onward K Q) [o] a w) : wpOpIn F n P ops Q i K a w := by
  unfold wpOpIn
  simp only [ho]
  unfold wpListIn at h
  split
  · rename_i hw
    rw [if_pos hw] at h
    exact onward_wpIn h
  · rename_i hw
    rw [if_neg hw] at h
    exact h
theorem wpIn_scope_straight {F : Fence} {n : Nat} {Q : Exit → Act → World → Prop} {a : Act} {w : World} {c : Code} (h : c.wpIn F n P (Exit.noGoto Q) a w) : (Code.scope c).wpIn F n P Q a w := by
  intro b k cs hro hb hr
  have s1 : StepsIn (Machine.fenced P F) P (lone (b.atR a (.code (.scope c) :: k)) cs w) (lone (b.atR a (.code c :: .inScope c :: k)) cs w) := .one (fenced_calm hb hr rfl) (step_lone_go (by simp [stepG, stepG.exec, Frame.atR]))
  obtain ⟨e, a₁, w₁, hq, harr⟩ := h b (.inScope c :: k) cs hro hb hr
  cases e with
  | normal => exact ⟨.normal, a₁, w₁, hq, s1.trans (StepsIn.trans harr (.one (fenced_calm hb hr rfl) (step_lone_go (by simp [stepG, stepG.exec, Frame.atR]))))⟩
  | exit id =>
    have hx : exitTo id (.inScope c :: k) = exitTo id k := by simp [exitTo]
    exact ⟨.exit id, a₁, w₁, hq, fun k' hk => s1.trans (harr.1 k' (by rw [hx]; exact hk)), fun hr' hk => let ⟨k₁, h1, h2⟩ := harr.2 hr' (by rw [hx]; exact hk); ⟨k₁, h1, s1.trans h2⟩⟩
  | goto l => exact hq.elim
  | ret => exact ⟨_, a₁, w₁, hq, .of_steps s1 harr⟩
  | panic ch => exact ⟨_, a₁, w₁, hq, .of_steps s1 harr⟩
  | outgrown => exact ⟨_, a₁, w₁, hq, .of_steps s1 harr⟩
theorem region_ordersIn {F : Fence} {n : Nat} {id : Nat} {Q : Exit → Act → World → Prop} {a : Act} {w : World} {ops : Array Oper} (hm : P.follows .mixedOrders = true) (hord : lexAfter ops = true)
    (Inv : (Nat → Bool) → Act → World → Prop) (h0 : Inv (fun _ => false) a w.drew)
    (hstep : ∀ (i : Nat) (o : Oper) (S : Nat → Bool) (a : Act) (w : World), ops[i]? = some o → S i = false → (∀ e ∈ o.after, Region.binds .any e = true → S e.on = true) → (∀ (k : Nat) (o' : Oper), ops[k]? = some o' → S k = true → ∀ e ∈ o'.after, Region.binds .any e = true → S e.on = true) → Inv S a w → wpListIn F n P ops (onward (Inv fun j => S j || decide (j = i)) Q) [o] a w)
    (hend : ∀ (S : Nat → Bool) (a : Act) (w : World), (∀ i, i < ops.size → S i = true) → Inv S a w → Q .normal a w) : (Code.region id ops true).wpIn F n P Q a w := by
  refine wpIn_region_any hm ?_
  have key : ∀ (fuel : Nat) (listed : Array Bool) (a : Act) (w : World) (S : Nat → Bool), listed.size = ops.size → (∀ j, j < ops.size → S j = listed.getD j false) → cntTo (fun j => !S j) ops.size ≤ fuel → (∀ (k : Nat) (o' : Oper), ops[k]? = some o' → S k = true → ∀ e ∈ o'.after, Region.binds .any e = true → S e.on = true) → Inv S a w → wpAnyIn F n P .any ops Q fuel listed a w := by
    intro fuel
    have hget : ∀ (listed : Array Bool) (j : Nat), listed.size = ops.size → j < ops.size → listed.getD j true = listed.getD j false := by
      intro listed j hs hj
      simp [Array.getD, hs, hj]
    have hready : ∀ (listed : Array Bool) (S : Nat → Bool), listed.size = ops.size → (∀ j, j < ops.size → S j = listed.getD j false) → Region.ready .any ops listed = [] → ∀ i, i < ops.size → S i = true := by
      intro listed S hs hS hr i hi
      cases hSi : S i with
      | true => rfl
      | false =>
        exfalso
        obtain ⟨k, k1, k2, k3⟩ := cntTo_pos (f := fun j => !S j) (n := ops.size) ⟨i, hi, by simp [hSi]⟩
        have hk : k ∈ Region.ready .any ops listed := by
          unfold Region.ready
          rw [List.mem_filter, List.mem_range]
          refine ⟨k1, ?_⟩
          rw [Bool.and_eq_true, hget listed k hs k1, ← hS k k1]
          refine ⟨by simpa using k2, ?_⟩
          have ho : ops[k]? = some ops[k] := Array.getElem?_eq_getElem k1
          have hlk := List.all_eq_true.1 hord k (List.mem_range.2 k1)
          rw [ho] at hlk ⊢
          simp only [Option.map_some, Option.getD_some] at hlk ⊢
          rw [Array.all_eq_true_iff_forall_mem] at hlk ⊢
          intro e he
          rw [Bool.or_eq_true]
          by_cases hb : Region.binds .any e = true
          · right
            have h1 : e.on < k := by simpa [hb] using hlk e he
            rw [← hS e.on (by omega)]
            have := k3 e.on h1
            simpa using this
          · left
            simpa using hb
        rw [hr] at hk
        cases hk
    induction fuel with
    | zero =>
      intro listed a w S hs hS hc _ hi
      have hall : ∀ i, i < ops.size → S i = true := fun i hi' => by
        have := cntTo_zero (f := fun j => !S j) (by omega) i hi'
        simpa using this
      refine ⟨?_, hend S a w hall hi⟩
      unfold Region.ready
      rw [List.filter_eq_nil_iff]
      intro i hi'
      rw [List.mem_range] at hi'
      rw [hget listed i hs hi', ← hS i hi', hall i hi']
      simp
    | succ fuel ih =>
      intro listed a w S hs hS hc hcl hi
      refine ⟨fun hr => hend S a w (hready listed S hs hS hr) hi, fun i hir => ?_⟩
      unfold Region.ready at hir
      rw [List.mem_filter, List.mem_range, Bool.and_eq_true] at hir
      obtain ⟨hisz, hun, haf⟩ := hir
      have ho : ops[i]? = some ops[i] := Array.getElem?_eq_getElem hisz
      have hSi : S i = false := by
        rw [hget listed i hs hisz, ← hS i hisz] at hun
        simpa using hun
      have hdeps : ∀ e ∈ ops[i].after, Region.binds .any e = true → S e.on = true := by
        rw [ho] at haf
        simp only [Option.map_some, Option.getD_some] at haf
        rw [Array.all_eq_true_iff_forall_mem] at haf
        intro e he hb
        have h1 := haf e he
        rw [hb] at h1
        have hlk := List.all_eq_true.1 hord i (List.mem_range.2 hisz)
        rw [ho] at hlk
        simp only [Option.map_some, Option.getD_some] at hlk
        rw [Array.all_eq_true_iff_forall_mem] at hlk
        have h2 : e.on < i := by simpa [hb] using hlk e he
        rw [hS e.on (by omega)]
        simpa using h1
      refine wpOpIn_mono (fun a' w' h => ih (listed.setIfInBounds i true) a' w' (fun j => S j || decide (j = i)) (by simpa using hs) (fun j hj => ?_) ?_ (fun k o' hk hSk e he hb => ?_) h) (onward_opIn ho (hstep i _ S a w ho hSi hdeps hcl hi))
      · rw [hS j hj]
        by_cases e : j = i
        · subst e; simp [Array.getD, hs, hj]
        · simp [Array.getD, hs, hj, e, Array.getElem_setIfInBounds, Ne.symm e]
      · have := cntTo_lt (f := fun j => !(S j || decide (j = i))) (g := fun j => !S j) (fun j h => by simp at h ⊢; exact h.1) (k := i) (by simp) (by simp [hSi]) ops.size hisz
        omega
      · rw [Bool.or_eq_true, decide_eq_true_eq] at hSk ⊢
        rcases hSk with hSk | rfl
        · exact .inl (hcl k o' hk hSk e he hb)
        · rw [ho] at hk
          obtain rfl := Option.some.inj hk
          exact .inl (hdeps e he hb)
  exact key ops.size (Array.replicate ops.size false) a w.drew (fun _ => false) (by simp) (fun j hj => by simp [Array.getD, hj]) (by
    have : ∀ n, cntTo (fun _ => !false) n ≤ n := by
      intro n
      induction n with
      | zero => exact Nat.le_refl _
      | succ n ih => unfold cntTo; simp at ih ⊢; omega
    exact this _) (fun _ _ _ h => nomatch h) h0
end
end Go.Proofs.YtdbeoigbkkdpdaaGreatDoor
/- Abstract states: slots and blocks of one's own; what the steps of a program do to them. No program is known here. -/
namespace Go.Proofs.YtdbeoigbkkdpdaaGreatDoor
open Go.ChangeShapes Go.WideShapes Go.ChangeAt Go.RowKit

/-- a block of one's own: a box of cells; an array's cells; a row that may be appended to -/
inductive BA where
  | box (b : Nat) (cs : List AV)
  | arr (b : Nat) (cs : List IV)
  | row (b e k : Nat) (l : List (List IV))
def BA.id : BA → Nat
  | .box b _ => b
  | .arr b _ => b
  | .row b _ _ _ => b
def BA.owned (E : Env) : BA → List Nat
  | .box b _ => [E.blk b]
  | .arr b _ => [E.blk b]
  | .row b _ _ _ => (E.row b).ownBlock.toList
def BA.holds (E : Env) (X w : World) (base : Nat) : BA → Prop
  | .box b cs => ∃ (C : Array Value) (t : TypeId), Blk w (E.blk b) t C ∧ RepAs E X C.toList cs
  | .arr b cs => ∃ (C : Array Value) (t : TypeId), Blk w (E.blk b) t C ∧ RepVs X C.toList cs
  | .row b e k l => OwnSl (RepVs X) k w base e (E.row b) l ∧ ∀ g, (E.row b).ownBlock = some g → g = E.blk b
def BA.off (lo hi : Nat) : BA → Bool
  | .box b cs => (decide (b < lo) || decide (hi ≤ b)) && AV.off.offs lo hi cs
  | .arr b _ => decide (b < lo) || decide (hi ≤ b)
  | .row b _ _ _ => decide (b < lo) || decide (hi ≤ b)
def offB (lo hi : Nat) : List BA → Bool
  | [] => true
  | b :: bs => b.off lo hi && offB lo hi bs
def owns (E : Env) : List BA → List Nat
  | [] => []
  | b :: bs => b.owned E ++ owns E bs
theorem owns_append (E : Env) : ∀ (a b : List BA), owns E (a ++ b) = owns E a ++ owns E b
  | [], _ => rfl
  | x :: a, b => by simp [owns, owns_append E a b]
theorem BA.owned_same {lo hi : Nat} {E E' : Env} (hE : Env.same lo hi E E') {b : BA} (h : b.off lo hi = true) : b.owned E' = b.owned E := by
  cases b <;> simp only [BA.off, Bool.and_eq_true, Bool.or_eq_true, decide_eq_true_eq] at h <;> simp only [BA.owned]
  · rw [(hE _ h.1).1]
  · rw [(hE _ h).1]
  · rw [(hE _ h).2]
theorem owns_same {lo hi : Nat} {E E' : Env} (hE : Env.same lo hi E E') : ∀ {bs : List BA}, offB lo hi bs = true → owns E' bs = owns E bs
  | [], _ => rfl
  | b :: bs, h => by
    simp only [offB, Bool.and_eq_true] at h
    simp only [owns]
    rw [BA.owned_same hE h.1, owns_same hE h.2]

/-- the world less the blocks gs -/
def hides (w : World) (gs : List Nat) : World := { w with heap := w.heap.mapIdx fun i o => if i ∈ gs then .cells #[] 0 else o }
theorem hides_size (w : World) (gs : List Nat) : (hides w gs).heap.size = w.heap.size := by simp [hides]
theorem hides_cell (w : World) (gs : List Nat) (p : Addr) : (hides w gs).cell? p = if p.block ∈ gs then none else w.cell? p := by
  unfold World.cell? hides
  simp only [Array.getElem?_mapIdx]
  by_cases h : p.block ∈ gs
  · rw [if_pos h]
    cases w.heap[p.block]? with
    | none => rfl
    | some o => simp [h]
  · rw [if_neg h]
    cases w.heap[p.block]? with
    | none => rfl
    | some o => simp [h]
/-- what a call sees that nobody turns: of the blocks that were there, those that V shows; of the others, those that aren't its own -/
def vis (V w0 w : World) (gs : List Nat) : World := mixW V w0 (hides w gs)
theorem vis_size (V w0 w : World) (gs : List Nat) : (vis V w0 w gs).heap.size = w.heap.size := by unfold vis; rw [mix_size, hides_size]
theorem vis_old {V w0 w : World} {gs : List Nat} {p : Addr} (h : p.block < w0.heap.size) (h' : p.block < w.heap.size) : (vis V w0 w gs).cell? p = V.cell? p := mix_old h (by rw [hides_size]; exact h')
theorem vis_new {V w0 w : World} {gs : List Nat} {p : Addr} (h : w0.heap.size ≤ p.block) : (vis V w0 w gs).cell? p = if p.block ∈ gs then none else w.cell? p := by
  unfold vis; rw [mix_new h, hides_cell]
theorem vis_some {V w0 w : World} {gs : List Nat} {p : Addr} {u : Value} (h : (vis V w0 w gs).cell? p = some u) : p.block < w.heap.size ∧ (p.block < w0.heap.size ∧ V.cell? p = some u ∨ w0.heap.size ≤ p.block ∧ p.block ∉ gs ∧ w.cell? p = some u) := by
  have hlt := World.block_lt_of_cell? _ p h
  rw [vis_size] at hlt
  refine ⟨hlt, ?_⟩
  by_cases hp : p.block < w0.heap.size
  · exact .inl ⟨hp, by rw [← h, vis_old hp hlt]⟩
  · rw [vis_new (Nat.not_lt.1 hp)] at h
    by_cases hg : p.block ∈ gs
    · rw [if_pos hg] at h; cases h
    · rw [if_neg hg] at h
      exact .inr ⟨Nat.not_lt.1 hp, hg, h⟩
theorem vis_ext {V w0 w w' : World} {gs gs' : List Nat} (hs : w.heap.size ≤ w'.heap.size) (h : ∀ p u, w0.heap.size ≤ p.block → p.block < w.heap.size → p.block ∉ gs → w.cell? p = some u → p.block ∉ gs' ∧ w'.cell? p = some u) : Ext (vis V w0 w gs) (vis V w0 w' gs') :=
  ⟨by rw [vis_size, vis_size]; exact hs, fun p u hp => by
    obtain ⟨h1, h2⟩ := vis_some hp
    rcases h2 with ⟨h2, h3⟩ | ⟨h2, h3, h4⟩
    · rw [vis_old h2 (Nat.lt_of_lt_of_le h1 hs)]; exact h3
    · obtain ⟨h5, h6⟩ := h p u h2 h1 h3 h4
      rw [vis_new h2, if_neg h5]; exact h6⟩
theorem vis_in {V w0 w : World} {gs : List Nat} (hV : Ext V w0) (hb : Below w0.heap.size w0 w) : Ext (vis V w0 w gs) w :=
  ⟨by rw [vis_size]; exact Nat.le_refl _, fun p u hp => by
    rcases (vis_some hp).2 with ⟨_, h2⟩ | ⟨_, _, h2⟩
    · exact kept_cell hb (hV.cell p u h2)
    · exact h2⟩
theorem vis_v {V w0 w : World} {gs : List Nat} (hV : Ext V w0) (hb : Below w0.heap.size w0 w) : Ext V (vis V w0 w gs) :=
  ⟨by rw [vis_size]; exact Nat.le_trans hV.size hb.size, fun p u hp => by
    have hlt := Nat.lt_of_lt_of_le (World.block_lt_of_cell? V p hp) hV.size
    rw [vis_old hlt (Nat.lt_of_lt_of_le hlt hb.size)]; exact hp⟩
structure AState where
  fr : List (Nat × AV)
  bk : List BA
def look : List (Nat × AV) → Nat → AV
  | [], _ => .any
  | (j, a) :: r, i => if i = j then a else look r i
def offF (lo hi : Nat) : List (Nat × AV) → Bool
  | [] => true
  | (_, a) :: r => a.off lo hi && offF lo hi r
theorem offF_look {lo hi : Nat} : ∀ {fr : List (Nat × AV)}, offF lo hi fr = true → ∀ i, (look fr i).off lo hi = true
  | [], _, _ => rfl
  | (j, a) :: r, h, i => by
    simp only [offF, Bool.and_eq_true] at h
    simp only [look]
    split
    · exact h.1
    · exact offF_look h.2 i

/-- what a walk carries along: how many slots, the marks among the deferred calls, and blocks that lie as they lay -/
structure Nd where
  n : Nat
  fx : List Nat
  rnd : Bool := false
structure Fm where
  nd : Nd
  fix : Nat → Value
  ds : List Nat
  hold : Nat → Option Obj
  lo : Nat
def Fm.fine (m : Fm) (w0 : World) : Prop := m.ds.Nodup ∧ ∀ D ∈ m.ds, w0.heap.size ≤ D ∧ m.hold D = some (.deferred (some []))
structure Fm.le (m m' : Fm) : Prop where
  nd : m'.nd = m.nd
  fix : m'.fix = m.fix
  lo : m.lo ≤ m'.lo
  ds : m.nd.rnd = true → m'.ds = m.ds
  hold : ∀ g o, m.hold g = some o → m'.hold g = some o
theorem Fm.le.refl (m : Fm) : Fm.le m m := ⟨rfl, rfl, Nat.le_refl _, fun _ => rfl, fun _ _ h => h⟩
theorem Fm.le.trans {m m' m'' : Fm} (h : Fm.le m m') (h' : Fm.le m' m'') : Fm.le m m'' := ⟨h'.nd.trans h.nd, h'.fix.trans h.fix, Nat.le_trans h.lo h'.lo, fun e => (h'.ds (by rw [h.nd]; exact e)).trans (h.ds e), fun g o hg => h'.hold g o (h.hold g o hg)⟩
structure St (V w0 : World) (n : Fm) (E : Env) (σ : AState) (a : Act) (w : World) : Prop where
  ext : Ext V w0
  low : Below w0.heap.size w0 w
  apart : (owns E σ.bk).Nodup
  base : ∀ g ∈ owns E σ.bk, w0.heap.size ≤ g
  holds : ∀ b ∈ σ.bk, b.holds E (vis V w0 w (owns E σ.bk)) w w0.heap.size
  slots : ∀ i, RepA E (vis V w0 w (owns E σ.bk)) (a.tmps.getD i undef) (look σ.fr i)
  size : a.tmps.size = n.nd.n ∧ ∀ i ∈ n.nd.fx, a.tmps.getD i undef = n.fix i
  defers : a.defers = marksOf n.ds ∧ n.fine w0
  hold : n.lo ≤ w.heap.size ∧ ∀ g o, n.hold g = some o → w.heap[g]? = some o ∧ g ∉ owns E σ.bk

section
variable {V w0 : World} {n : Fm} {E : Env} {σ : AState} {a : Act} {w : World}

theorem BA.holds_ext {E E' : Env} {lo hi : Nat} (hE : Env.same lo hi E E') {X X' w w' : World} (he : Ext X X') {b : BA} {base : Nat} (hw : ∀ g ∈ b.owned E, w'.heap[g]? = w.heap[g]?) (hb : b.off lo hi = true) (h : b.holds E X w base) : b.holds E' X' w' base := by
  cases b with
  | box b cs =>
    simp only [BA.off, Bool.and_eq_true, Bool.or_eq_true, decide_eq_true_eq] at hb
    obtain ⟨C, t, h1, h2⟩ := h
    refine ⟨C, t, ?_, h2.ext hE he hb.2⟩
    rw [(hE b hb.1).1]
    exact (hw _ (by simp [BA.owned])).trans h1
  | arr b cs =>
    simp only [BA.off, Bool.or_eq_true, decide_eq_true_eq] at hb
    obtain ⟨C, t, h1, h2⟩ := h
    refine ⟨C, t, ?_, h2.ext he⟩
    rw [(hE b hb).1]
    exact (hw _ (by simp [BA.owned])).trans h1
  | row b e k l =>
    simp only [BA.off, Bool.or_eq_true, decide_eq_true_eq] at hb
    obtain ⟨h1, h2⟩ := h
    refine ⟨?_, by rw [(hE b hb).1, (hE b hb).2]; exact h2⟩
    rw [(hE b hb).2]
    obtain ⟨xs, ⟨h3, h4⟩, h5, h6⟩ := h1
    refine ⟨xs, ⟨h3, h4.elim Or.inl fun ⟨g, cap, cur, e1, e2, e3, r⟩ => .inr ⟨g, cap, cur, e1, e2, ?_, r⟩⟩, h5.mono fun _ _ h => h.ext he, h6⟩
    exact (hw g (by simp [BA.owned, e1, Value.ownBlock])).trans e3
theorem BA.owned_lt {E : Env} {X w : World} {base : Nat} {b : BA} (h : b.holds E X w base) : ∀ g ∈ b.owned E, g < w.heap.size := by
  intro g hg
  cases b with
  | box b cs =>
    obtain ⟨C, t, h1, h2⟩ := h
    simp only [BA.owned, List.mem_singleton] at hg
    subst hg; exact h1.lt
  | arr b cs =>
    obtain ⟨C, t, h1, h2⟩ := h
    simp only [BA.owned, List.mem_singleton] at hg
    subst hg; exact h1.lt
  | row b e k l =>
    simp only [BA.owned, Option.mem_toList] at hg
    exact (h.1.lt g hg).2
theorem mem_owns {E : Env} : ∀ {bs : List BA} {g : Nat}, g ∈ owns E bs ↔ ∃ b ∈ bs, g ∈ b.owned E
  | [], g => by simp [owns]
  | b :: bs, g => by simp [owns, mem_owns]
theorem offB_mem {lo hi : Nat} : ∀ {bs : List BA}, offB lo hi bs = true → ∀ b ∈ bs, b.off lo hi = true
  | [], _, b, h => by cases h
  | c :: bs, h, b, hb => by
    simp only [offB, Bool.and_eq_true] at h
    rcases List.mem_cons.1 hb with rfl | hb
    · exact h.1
    · exact offB_mem h.2 b hb
theorem St.lt (h : St V w0 n E σ a w) : ∀ g ∈ owns E σ.bk, g < w.heap.size := fun g hg => by
  obtain ⟨b, hb, hg⟩ := mem_owns.1 hg
  exact BA.owned_lt (h.holds b hb) g hg
theorem St.in_ (h : St V w0 n E σ a w) : Ext (vis V w0 w (owns E σ.bk)) w := vis_in h.ext h.low

theorem St.drop {bk' : List BA} (h : St V w0 n E σ a w) (hs : List.Sublist bk' σ.bk) : St V w0 n E ⟨σ.fr, bk'⟩ a w := by
  have hsub : ∀ {bs bs' : List BA}, List.Sublist bs' bs → List.Sublist (owns E bs') (owns E bs) := by
    intro bs bs' hs
    induction hs with
    | slnil => exact List.Sublist.refl _
    | cons b _ ih => exact ih.trans (List.sublist_append_right _ _)
    | cons_cons b _ ih => exact (List.Sublist.refl _).append ih
  have hs2 := hsub hs
  have hx : Ext (vis V w0 w (owns E σ.bk)) (vis V w0 w (owns E bk')) := vis_ext (Nat.le_refl _) fun p u _ _ h3 h4 => ⟨fun hm => h3 (hs2.subset hm), h4⟩
  exact ⟨h.ext, h.low, h.apart.sublist hs2, fun g hg => h.base g (hs2.subset hg), fun b hb => BA.holds_ext (Env.same_refl 0 0 E) hx (fun _ _ => rfl) (by
    cases b <;> simp [BA.off]
    rename_i b cs
    exact (by
      have : ∀ cs : List AV, AV.off.offs 0 0 cs = true := fun cs => by
        induction cs with
        | nil => rfl
        | cons c cs ih => simp only [AV.off.offs, Bool.and_eq_true]; exact ⟨off_none 0 c, ih⟩
      exact this cs)) (h.holds b (hs.subset hb)), fun i => (h.slots i).mono hx, h.size, h.defers, h.hold.1, fun g o hg => ⟨(h.hold.2 g o hg).1, fun hm => (h.hold.2 g o hg).2 (hs2.subset hm)⟩⟩

theorem put_slot {a : Act} {d : Nat} (v : Value) (i : Nat) (hd : d < a.tmps.size) : (a.put (some d) v).tmps.getD i undef = if i = d then v else a.tmps.getD i undef := by
  simp only [Act.put, Array.getD_eq_getD_getElem?, Array.getElem?_setIfInBounds]
  by_cases h : i = d
  · subst h; simp [hd]
  · simp [h, Ne.symm h]
def putF (dst : Option Tmp) (r : AV) (fr : List (Nat × AV)) : List (Nat × AV) :=
  match dst with
  | some d => (d, r) :: fr
  | none => fr
theorem St.put (h : St V w0 n E σ a w) {dst : Option Tmp} (hd : ∀ d, dst = some d → d < n.nd.n ∧ d ∉ n.nd.fx) {v : Value} {r : AV} (hv : RepA E (vis V w0 w (owns E σ.bk)) v r) : St V w0 n E ⟨putF dst r σ.fr, σ.bk⟩ (a.put dst v) w := by
  refine ⟨h.ext, h.low, h.apart, h.base, h.holds, fun i => ?_, ?_, ?_, h.hold⟩
  · cases dst with
    | none => exact h.slots i
    | some d =>
      rw [put_slot v i (by rw [h.size.1]; exact (hd d rfl).1)]
      simp only [putF, look]
      split
      · exact hv
      · exact h.slots i
  · cases dst with
    | none => exact h.size
    | some d =>
      refine ⟨by simp only [Act.put, Array.size_setIfInBounds]; exact h.size.1, fun i hi => ?_⟩
      rw [put_slot v i (by rw [h.size.1]; exact (hd d rfl).1), if_neg (fun e : i = d => (hd d rfl).2 (e ▸ hi))]
      exact h.size.2 i hi
  · cases dst with
    | none => exact h.defers
    | some d => exact h.defers
theorem offs_none (cs : List AV) : AV.off.offs 0 0 cs = true := by
  induction cs with
  | nil => rfl
  | cons c cs ih => simp only [AV.off.offs, Bool.and_eq_true]; exact ⟨off_none 0 c, ih⟩
theorem BA.off_none (b : BA) : b.off 0 0 = true := by
  cases b with
  | box b cs => simp only [BA.off, Bool.and_eq_true, Bool.or_eq_true, decide_eq_true_eq]; exact ⟨by omega, offs_none cs⟩
  | arr b cs => simp only [BA.off, Bool.or_eq_true, decide_eq_true_eq]; omega
  | row b e k l => simp only [BA.off, Bool.or_eq_true, decide_eq_true_eq]; omega
/-- new memory, some of which is one's own -/
theorem St.add {lo hi : Nat} {E' : Env} {nb : List BA} {w' : World} (h : St V w0 n E σ a w) (hb : Below w.heap.size w w') (hE : Env.same lo hi E E') (h1 : offF lo hi σ.fr = true) (h2 : offB lo hi σ.bk = true)
    (hnd : (owns E' nb).Nodup) (hnew : ∀ g ∈ owns E' nb, w.heap.size ≤ g) (hh : ∀ b ∈ nb, b.holds E' (vis V w0 w' (owns E' nb ++ owns E σ.bk)) w' w0.heap.size) : St V w0 n E' ⟨σ.fr, nb ++ σ.bk⟩ a w' := by
  have ho : owns E' (nb ++ σ.bk) = owns E' nb ++ owns E σ.bk := by rw [owns_append, owns_same hE h2]
  have hx : Ext (vis V w0 w (owns E σ.bk)) (vis V w0 w' (owns E' nb ++ owns E σ.bk)) := vis_ext hb.size fun p u _ h4 h5 h6 => ⟨fun hm => by
    rcases List.mem_append.1 hm with hm | hm
    · have := hnew _ hm; omega
    · exact h5 hm, kept_cell hb h6⟩
  refine ⟨h.ext, h.low.trans (hb.mono h.low.size), ?_, ?_, ?_, ?_, h.size, h.defers, Nat.le_trans h.hold.1 hb.size, fun g o hg => ?hold⟩
  case hold =>
    obtain ⟨q1, q2⟩ := h.hold.2 g o hg
    have hlt := (Array.getElem?_eq_some_iff.1 q1).1
    refine ⟨(hb.block g hlt).trans q1, fun hm => ?_⟩
    rw [ho] at hm
    rcases List.mem_append.1 hm with hm | hm
    · have := hnew _ hm; omega
    · exact q2 hm
  · rw [ho]
    refine List.nodup_append.2 ⟨hnd, h.apart, fun g hg g' hg' e => ?_⟩
    subst e
    have := hnew _ hg
    have := h.lt _ hg'
    omega
  · intro g hg
    rw [ho] at hg
    rcases List.mem_append.1 hg with hg | hg
    · have := hnew _ hg
      have := h.low.size
      omega
    · exact h.base g hg
  · intro b hbm
    simp only [ho]
    rcases List.mem_append.1 hbm with hbm | hbm
    · exact hh b hbm
    · exact BA.holds_ext hE hx (fun g hg => hb.block g (h.lt g (mem_owns.2 ⟨b, hbm, hg⟩))) (offB_mem h2 b hbm) (h.holds b hbm)
  · intro i
    simp only [ho]
    exact (h.slots i).ext hE hx (offF_look h1 i)
theorem offF_none : ∀ (fr : List (Nat × AV)), offF 0 0 fr = true
  | [] => rfl
  | (_, c) :: r => by simp only [offF, Bool.and_eq_true]; exact ⟨off_none 0 c, offF_none r⟩
theorem offB_none : ∀ (bk : List BA), offB 0 0 bk = true
  | [] => rfl
  | b :: r => by simp only [offB, Bool.and_eq_true]; exact ⟨b.off_none, offB_none r⟩
theorem St.next {w' : World} (h : St V w0 n E σ a w) (hb : Below w.heap.size w w') : St V w0 n E σ a w' :=
  h.add (lo := 0) (hi := 0) (nb := []) hb (Env.same_refl 0 0 E) (offF_none _) (offB_none _) List.nodup_nil (fun _ hg => by cases hg) (fun _ hg => by cases hg)
theorem St.drew (h : St V w0 n E σ a w) : St V w0 n E σ a w.drew := h.next ((Below.refl _ w).drew)
/-- what a callee lays, seen by the caller -/
theorem vis_call {w' : World} {gs gs' : List Nat} (hgs : ∀ g ∈ gs, g < w.heap.size) (h0 : w0.heap.size ≤ w.heap.size) (hb : Below w.heap.size w w') (hg' : ∀ g ∈ gs', w.heap.size ≤ g) : Ext (vis (vis V w0 w gs) w w' gs') (vis V w0 w' (gs' ++ gs)) :=
  ⟨by rw [vis_size, vis_size]; exact Nat.le_refl _, fun p u hp => by
    obtain ⟨h1, h2⟩ := vis_some hp
    rcases h2 with ⟨h2, h3⟩ | ⟨h2, h3, h4⟩
    · rcases (vis_some h3).2 with ⟨h5, h6⟩ | ⟨h5, h6, h7⟩
      · rw [vis_old h5 h1]; exact h6
      · rw [vis_new h5, if_neg (fun hm => by
          rcases List.mem_append.1 hm with hm | hm
          · have := hg' _ hm; omega
          · exact h6 hm)]
        exact kept_cell hb h7
    · rw [vis_new (Nat.le_trans h0 h2), if_neg (fun hm => by
        rcases List.mem_append.1 hm with hm | hm
        · exact h3 hm
        · have := hgs _ hm; omega)]
      exact h4⟩
/-- a block of one's own may turn: nothing else does -/
theorem St.turn {fr : List (Nat × AV)} {pre post : List BA} {x y : BA} {w' : World} (h : St V w0 n E ⟨fr, pre ++ x :: post⟩ a w) (ho : y.owned E = x.owned E) (hlow : Below w0.heap.size w0 w') (hs : w.heap.size ≤ w'.heap.size)
    (hk : ∀ g, g ∉ x.owned E → g < w.heap.size → w'.heap[g]? = w.heap[g]?) (hy : y.holds E (vis V w0 w (owns E (pre ++ x :: post))) w' w0.heap.size) : St V w0 n E ⟨fr, pre ++ y :: post⟩ a w' := by
  have e : owns E (pre ++ y :: post) = owns E (pre ++ x :: post) := by simp only [owns_append, owns, ho]
  have hap := h.apart
  have hx : Ext (vis V w0 w (owns E (pre ++ x :: post))) (vis V w0 w' (owns E (pre ++ x :: post))) := vis_ext hs fun p u _ h2 h3 h4 => ⟨h3, by
    rw [World.cell?_of_block (hk p.block (fun hm => h3 (mem_owns.2 ⟨x, by simp, hm⟩)) h2)]; exact h4⟩
  have key : ∀ b ∈ pre ++ post, b.holds E (vis V w0 w' (owns E (pre ++ x :: post))) w' w0.heap.size := by
    intro b hb
    have hbm : b ∈ pre ++ x :: post := by
      rcases List.mem_append.1 hb with hb | hb
      · exact List.mem_append_left _ hb
      · exact List.mem_append_right _ (List.mem_cons_of_mem _ hb)
    refine BA.holds_ext (Env.same_refl 0 0 E) hx (fun g hg => hk g (fun hm => ?_) (h.lt g (mem_owns.2 ⟨b, hbm, hg⟩))) b.off_none (h.holds b hbm)
    simp only [owns_append, owns] at hap
    obtain ⟨_, h2, h3⟩ := List.nodup_append.1 hap
    obtain ⟨_, _, h4⟩ := List.nodup_append.1 h2
    rcases List.mem_append.1 hb with hb | hb
    · exact h3 g (mem_owns.2 ⟨b, hb, hg⟩) g (List.mem_append_left _ hm) rfl
    · exact h4 g hm g (mem_owns.2 ⟨b, hb, hg⟩) rfl
  refine ⟨h.ext, hlow, by rw [e]; exact hap, by rw [e]; exact h.base, ?_, fun i => ?_, h.size, h.defers, Nat.le_trans h.hold.1 hs, fun g o hg => ?hold⟩
  case hold =>
    obtain ⟨q1, q2⟩ := h.hold.2 g o hg
    exact ⟨(hk g (fun hm => q2 (mem_owns.2 ⟨x, by simp, hm⟩)) (Array.getElem?_eq_some_iff.1 q1).1).trans q1, by rw [e]; exact q2⟩
  · intro b hb
    simp only [e]
    rcases List.mem_append.1 hb with hb | hb
    · exact key b (List.mem_append_left _ hb)
    · rcases List.mem_cons.1 hb with rfl | hb
      · have := BA.holds_ext (Env.same_refl 0 0 E) hx (w := w') (w' := w') (fun _ _ => rfl) b.off_none hy
        exact this
      · exact key b (List.mem_append_right _ hb)
  · simp only [e]
    exact (h.slots i).mono hx
theorem RepAs.set_ {E : Env} {X : World} {vs : List Value} {cs : List AV} (h : RepAs E X vs cs) {u : Value} {c : AV} (hu : RepA E X u c) (o : Nat) : RepAs E X (vs.set o u) (cs.set o c) :=
  ⟨by rw [List.length_set, List.length_set]; exact h.1, fun j v d a b => by
    rw [List.getElem?_set] at a b
    by_cases e : o = j
    · subst e
      simp only [if_true] at a b
      split at a
      · split at b
        · obtain rfl := Option.some.inj a
          obtain rfl := Option.some.inj b
          exact hu
        · cases b
      · cases a
    · rw [if_neg e] at a b
      exact h.2 j v d a b⟩
theorem RepVs.set_ {X : World} {vs : List Value} {cs : List IV} (h : RepVs X vs cs) {u : Value} {c : IV} (hu : RepV X u c) (o : Nat) : RepVs X (vs.set o u) (cs.set o c) := by
  refine RepVs.of (by rw [List.length_set, List.length_set]; exact h.len) fun j v d a b => ?_
  rw [List.getElem?_set] at a b
  by_cases e : o = j
  · subst e
    simp only [if_true] at a b
    split at a
    · split at b
      · obtain rfl := Option.some.inj a
        obtain rfl := Option.some.inj b
        exact hu
      · cases b
    · cases a
  · rw [if_neg e] at a b
    exact h.get a b
theorem St.set_box {fr : List (Nat × AV)} {pre post : List BA} {b : Nat} {cs : List AV} (h : St V w0 n E ⟨fr, pre ++ .box b cs :: post⟩ a w) (o : Nat) {u : Value} {c : AV} (hu : RepA E (vis V w0 w (owns E (pre ++ .box b cs :: post))) u c) :
    St V w0 n E ⟨fr, pre ++ .box b (cs.set o c) :: post⟩ a (w.setCell ⟨E.blk b, o, none⟩ u) := by
  obtain ⟨C, t, hB, hC⟩ := h.holds (.box b cs) (by simp)
  refine h.turn (y := .box b (cs.set o c)) rfl (h.low.setCell (h.base _ (mem_owns.2 ⟨.box b cs, by simp, by simp [BA.owned]⟩)) u) (by simp) (fun g hg _ => Below.heap_setCell _ _ _ _ (by simpa [BA.owned] using hg)) ⟨C.setIfInBounds o u, t, hB.set_ o u, ?_⟩
  rw [Array.toList_setIfInBounds]
  exact hC.set_ hu o
theorem St.set_arr {fr : List (Nat × AV)} {pre post : List BA} {b : Nat} {cs : List IV} (h : St V w0 n E ⟨fr, pre ++ .arr b cs :: post⟩ a w) (o : Nat) {u : Value} {c : IV} (hu : RepV (vis V w0 w (owns E (pre ++ .arr b cs :: post))) u c) :
    St V w0 n E ⟨fr, pre ++ .arr b (cs.set o c) :: post⟩ a (w.setCell ⟨E.blk b, o, none⟩ u) := by
  obtain ⟨C, t, hB, hC⟩ := h.holds (.arr b cs) (by simp)
  refine h.turn (y := .arr b (cs.set o c)) rfl (h.low.setCell (h.base _ (mem_owns.2 ⟨.arr b cs, by simp, by simp [BA.owned]⟩)) u) (by simp) (fun g hg _ => Below.heap_setCell _ _ _ _ (by simpa [BA.owned] using hg)) ⟨C.setIfInBounds o u, t, hB.set_ o u, ?_⟩
  rw [Array.toList_setIfInBounds]
  exact hC.set_ hu o
theorem St.set_row {fr : List (Nat × AV)} {pre post : List BA} {b e k : Nat} {l : List (List IV)} (h : St V w0 n E ⟨fr, pre ++ .row b e k l :: post⟩ a w) {i j : Nat} {x : List IV} (hi : l[i]? = some x) (hj : j < k) {u : Value} {c : IV} (hu : RepV (vis V w0 w (owns E (pre ++ .row b e k l :: post))) u c) :
    St V w0 n E ⟨fr, pre ++ .row b e k (l.set i (x.set j c)) :: post⟩ a (w.setCell ⟨E.blk b, i * k + j, none⟩ u) := by
  obtain ⟨hO, hB⟩ := h.holds (.row b e k l) (by simp)
  rcases hO.forms with ⟨_, hl⟩ | ⟨g, cc, hg, hg1, hg2⟩
  · rw [hl] at hi; simp at hi
  · have hgb : g = E.blk b := hB g (by rw [hg]; rfl)
    subst hgb
    have hm : E.blk b ∈ owns E (pre ++ .row b e k l :: post) := mem_owns.2 ⟨.row b e k l, by simp, by simp [BA.owned, hg, Value.ownBlock]⟩
    refine h.turn (y := .row b e k (l.set i (x.set j c))) rfl (h.low.setCell (h.base _ hm) u) (by simp) (fun g' hg' _ => Below.heap_setCell _ _ _ _ (fun e => hg' (by simp [BA.owned, hg, Value.ownBlock, e]))) ⟨?_, hB⟩
    rw [hg] at hO ⊢
    have := OwnSl.set_ (x' := x.set j c) hO hi hj (u := u) fun cs hc _ => hc.set_ hu j
    exact this
end
end Go.Proofs.YtdbeoigbkkdpdaaGreatDoor
namespace Go.Proofs.YtdbeoigbkkdpdaaGreatDoor
open Go.ChangeShapes Go.WideShapes Go.ChangeAt Go.RowKit

-- what is asked of types
/-- 0: one cell, 1: a struct, 2: an array; how many cells -/
def tyK (P : Program) (t : TypeId) : Option (Nat × Nat) :=
  match P.underlying t, P.info? t with
  | some (.struct _), some i => some (1, i.size)
  | some (.array _ _), some i => some (2, i.size)
  | some _, some i => some (0, i.size)
  | _, _ => none
/-- a slice: its element, that one's cells and bytes -/
def tySl (P : Program) (t : TypeId) : Option (TypeId × Nat × Nat) :=
  match P.underlying t with
  | some (.slice e) => (P.info? e).map fun i => (e, i.size, i.bytes)
  | _ => none
def tyAr (P : Program) (t : TypeId) : Option (Nat × Nat × Nat) :=
  match P.underlying t with
  | some (.array n e) => (tyK P e).map fun x => (n, x.1, x.2)
  | _ => none
def tyStr (P : Program) (t : TypeId) : Bool :=
  match P.underlying t with
  | some .string => true
  | _ => false
/-- a field: where, of what kind, how many cells -/
def tyF (P : Program) (t : TypeId) (f : Nat) : Option (Nat × Nat × Nat) :=
  match P.underlying t with
  | some (.struct fs) => match fs[f]? with
    | some fd => (tyK P fd.type).map fun x => (fd.offset, x.1, x.2)
    | none => none
  | _ => none
def tyZ (P : Program) (t : TypeId) : Option (Nat × List Value) :=
  match tyK P t, (P.info? t).bind (·.zero) with
  | some (k, _), some z => some (k, z.cells.toList)
  | _, _ => none
/-- a struct that is built: its zero cells, its fields' places -/
def tyBld (P : Program) (t : TypeId) : Option (List Value × List (Nat × Nat)) :=
  match P.underlying t, (P.info? t).bind (·.zero) with
  | some (.struct fs), some z => (fs.toList.mapM fun f => (P.info? f.type).map fun i => (f.offset, i.size)).map fun l => (z.cells.toList, l)
  | _, _ => none
def tyInt (P : Program) (t : TypeId) : Option IntKind :=
  match P.underlying t with
  | some (.int k) => some k
  | _ => none

section
variable {P : Program} {w : World} {t : TypeId}
theorem tyK_run {k s : Nat} (h : tyK P t = some (k, s)) : (isAgg t).run P w = .ok (decide (k ≠ 0)) w ∧ (sizeOf t).run P w = .ok s w := by
  unfold tyK at h
  cases hu : P.underlying t with
  | none => rw [hu] at h; simp at h
  | some d =>
    cases hi : P.info? t with
    | none => rw [hu, hi] at h; cases d <;> simp at h
    | some i =>
      rw [hu, hi] at h
      have h2 : (sizeOf t).run P w = .ok i.size w := by simp [sizeOf, typeInfo, hi]
      rw [h2]
      cases d <;> simp at h <;> obtain ⟨rfl, rfl⟩ := h <;> simp [isAgg, run_underlying hu]
theorem tySl_run {e k y : Nat} (h : tySl P t = some (e, k, y)) : P.underlying t = some (.slice e) ∧ ∃ i, P.info? e = some i ∧ i.size = k ∧ i.bytes = y := by
  unfold tySl at h
  split at h
  · rename_i e' hu
    simp only [Option.map_eq_some_iff, Prod.mk.injEq] at h
    obtain ⟨i, hi, rfl, rfl, rfl⟩ := h
    exact ⟨hu, i, hi, rfl, rfl⟩
  · cases h
theorem tyAr_run {n q k : Nat} (h : tyAr P t = some (n, q, k)) : ∃ e, P.underlying t = some (.array n e) ∧ tyK P e = some (q, k) := by
  unfold tyAr at h
  split at h
  · rename_i n' e hu
    simp only [Option.map_eq_some_iff, Prod.mk.injEq] at h
    obtain ⟨⟨q', k'⟩, hi, rfl, rfl, rfl⟩ := h
    exact ⟨e, hu, hi⟩
  · cases h
theorem tyF_run {f off k s : Nat} (h : tyF P t f = some (off, k, s)) : ∃ fs fd, P.underlying t = some (.struct fs) ∧ fs[f]? = some fd ∧ fd.offset = off ∧ tyK P fd.type = some (k, s) := by
  unfold tyF at h
  split at h
  · rename_i fs hu
    split at h
    · rename_i fd hf
      simp only [Option.map_eq_some_iff, Prod.mk.injEq] at h
      obtain ⟨⟨k', s'⟩, hk, rfl, rfl, rfl⟩ := h
      exact ⟨fs, fd, hu, hf, rfl, hk⟩
    · cases h
  · cases h
theorem tyZ_run {k : Nat} {zs : List Value} (h : tyZ P t = some (k, zs)) : ∃ z, (zeroValue t).run P w = .ok z w ∧ z.cells.toList = zs ∧ ∃ s, tyK P t = some (k, s) := by
  unfold tyZ at h
  split at h
  · rename_i k' s' z hk hz
    simp only [Option.some.injEq, Prod.mk.injEq] at h
    obtain ⟨rfl, rfl⟩ := h
    obtain ⟨i, hi, hz⟩ := Option.bind_eq_some_iff.1 hz
    exact ⟨z, by simp [zeroValue, typeInfo, hi, hz], rfl, s', hk⟩
  · cases h
end

-- operands
def nrm : AV → AV
  | .iv (.val v) => .val v
  | .iv (.pt cs) => .ip cs
  | a => a
def ev (fr : List (Nat × AV)) : Operand → AV
  | .tmp t => look fr t
  | .const v => match v with
    | .agg cs => .agg (cs.toList.map AV.val)
    | v => .val v
  | .global g => .val (.pointer (some ⟨g, 0, none⟩))
  | .func f => .fn f []
theorem RepA.nrm_ {E : Env} {X : World} {v : Value} {c : AV} (h : RepA E X v c) : RepA E X v (nrm c) := by
  cases h with
  | iv h =>
    cases h with
    | val h => exact .val
    | nil h => exact .iv (.nil h)
    | sl f h0 h1 h2 h3 h4 h5 h6 => exact .iv (.sl f h0 h1 h2 h3 h4 h5 h6)
    | pt f h1 h2 => exact .ip f h1 h2
  | any => exact .any
  | val => exact .val
  | ip f h1 h2 => exact .ip f h1 h2
  | bp => exact .bp
  | rp => exact .rp
  | own h => exact .own h
  | agg h1 h2 => exact .agg h1 h2
  | aggI h => exact .aggI h
  | tup h1 h2 => exact .tup h1 h2
  | fn h1 h2 => exact .fn h1 h2
theorem RepA.agg_vals {E : Env} {X : World} (cs : Array Value) : RepA E X (.agg cs) (.agg (cs.toList.map AV.val)) :=
  .agg (by simp) fun j v c a b => by
    rw [List.getElem?_map, Array.getElem?_toList, a] at b
    simp at b; subst b; exact .val
theorem St.ev {V w0 : World} {n : Fm} {E : Env} {σ : AState} {a : Act} {w : World} (h : St V w0 n E σ a w) (x : Operand) : RepA E (vis V w0 w (owns E σ.bk)) (a.eval x) (ev σ.fr x) := by
  cases x with
  | tmp t => exact h.slots t
  | const v => cases v <;> first | exact .val | exact RepA.agg_vals _
  | global g => exact .val
  | func f => exact .fn rfl fun j v c a b => by simp at a

/-- a single cell's value -/
def sing : AV → Bool
  | .val (.agg _) => false
  | .val (.tuple _) => false
  | .val _ => true
  | .iv _ => true
  | .ip _ => true
  | .bp _ _ => true
  | .rp _ _ _ _ => true
  | .own _ => true
  | .fn _ _ => true
  | _ => false
theorem RepA.sing_ {E : Env} {X : World} {v : Value} {c : AV} (h : RepA E X v c) (hs : sing c = true) : v.oneCell' = true ∧ v.cells = #[v] := by
  cases h with
  | any => simp [sing] at hs
  | val => cases v <;> first | exact ⟨rfl, rfl⟩ | simp [sing] at hs
  | iv h => cases h with
    | val h => cases v <;> first | exact ⟨rfl, rfl⟩ | exact h.elim
    | nil h => exact ⟨rfl, rfl⟩
    | sl f => exact ⟨rfl, rfl⟩
    | pt f => exact ⟨rfl, rfl⟩
  | ip f h1 h2 => exact ⟨rfl, rfl⟩
  | bp => exact ⟨rfl, rfl⟩
  | rp => exact ⟨rfl, rfl⟩
  | own h => exact ⟨rfl, rfl⟩
  | agg h1 h2 => simp [sing] at hs
  | aggI h => simp [sing] at hs
  | tup h1 h2 => simp [sing] at hs
  | fn h1 h2 => exact ⟨rfl, rfl⟩
def sings : List AV → Bool
  | [] => true
  | c :: cs => sing c && sings cs
theorem sings_get : ∀ {cs : List AV}, sings cs = true → ∀ {j : Nat} {c : AV}, cs[j]? = some c → sing c = true
  | [], _, j, c, h => by simp at h
  | d :: cs, h, 0, c, e => by
    simp only [sings, Bool.and_eq_true] at h
    simp at e; subst e; exact h.1
  | d :: cs, h, j + 1, c, e => by
    simp only [sings, Bool.and_eq_true] at h
    exact sings_get h.2 (by simpa using e)
/-- the cells of a value -/
def cellsA : AV → List AV
  | .agg cs => cs
  | .aggI cs => cs.map AV.iv
  | c => [c]
def okC : AV → Bool
  | .agg cs => sings cs
  | .aggI _ => true
  | c => sing c
theorem RepA.cells {E : Env} {X : World} {v : Value} {c : AV} (h : RepA E X v c) (hs : okC c = true) : RepAs E X v.cells.toList (cellsA c) ∧ ∀ u ∈ v.cells.toList, u.oneCell' = true := by
  have one : sing c = true → RepAs E X v.cells.toList [c] ∧ ∀ u ∈ v.cells.toList, u.oneCell' = true := fun hs => by
    obtain ⟨h1, h2⟩ := h.sing_ hs
    rw [h2]
    exact ⟨RepAs.cons h RepAs.nil, fun u hu => by simp at hu; subst hu; exact h1⟩
  cases h with
  | any => simp [okC, sing] at hs
  | val => exact one hs
  | iv h => exact one hs
  | ip f h1 h2 => exact one hs
  | bp => exact one hs
  | rp => exact one hs
  | own h => exact one hs
  | tup h1 h2 => simp [okC, sing] at hs
  | fn h1 h2 => exact one hs
  | @agg vs cs h1 h2 =>
    refine ⟨⟨by simpa [Value.cells, cellsA] using h1, fun j v c a b => h2 j v c (by simpa [Value.cells] using a) b⟩, fun u hu => ?_⟩
    obtain ⟨j, hj⟩ := List.mem_iff_getElem?.1 hu
    have hlt := (List.getElem?_eq_some_iff.1 hj).1
    have hj' : vs[j]? = some u := by simpa [Value.cells] using hj
    have hlt' : j < cs.length := by rw [← h1]; exact (Array.getElem?_eq_some_iff.1 hj').1
    exact ((h2 j u _ hj' (List.getElem?_eq_getElem hlt')).sing_ (sings_get hs (List.getElem?_eq_getElem hlt'))).1
  | @aggI vs cs h => exact ⟨h.as, fun u hu => h.one u hu⟩
/-- cells as trees -/
def toI : AV → Option IV
  | .val v => some (.val v)
  | .iv i => some i
  | .ip cs => some (.pt cs)
  | _ => none
def okA : AV → Prop
  | .val v => okV v
  | _ => True
def toIs : List AV → Option (List IV)
  | [] => some []
  | c :: cs => match toI c, toIs cs with
    | some i, some is => some (i :: is)
    | _, _ => none
def okAs : List AV → Prop
  | [] => True
  | c :: cs => okA c ∧ okAs cs
theorem RepA.toI {E : Env} {X : World} {v : Value} {c : AV} {i : IV} (h : RepA E X v c) (hi : toI c = some i) (ho : okA c) : RepV X v i := by
  cases h <;> simp [Go.Proofs.YtdbeoigbkkdpdaaGreatDoor.toI] at hi
  · subst hi; exact .val ho
  · subst hi; assumption
  · rename_i f h1 h2; subst hi; exact .pt f h1 h2
theorem RepAs.toIs {E : Env} {X : World} : ∀ {vs : List Value} {cs : List AV} {is : List IV}, RepAs E X vs cs → toIs cs = some is → okAs cs → RepVs X vs is
  | vs, [], is, h, hi, _ => by
    simp [Go.Proofs.YtdbeoigbkkdpdaaGreatDoor.toIs] at hi
    subst hi
    rw [RepAs.nil_iff.1 h]
    trivial
  | vs, c :: cs, is, h, hi, ho => by
    obtain ⟨v, vs', rfl, h1, h2⟩ := RepAs.cons_iff.1 h
    simp only [Go.Proofs.YtdbeoigbkkdpdaaGreatDoor.toIs] at hi
    split at hi
    · rename_i i is' e1 e2
      obtain rfl := Option.some.inj hi
      exact ⟨h1.toI e1 ho.1, RepAs.toIs h2 e2 ho.2⟩
    · cases hi
-- blocks by name
def findB (b : Nat) : List BA → Option BA
  | [] => none
  | x :: r => if x.id = b then some x else findB b r
def replB (b : Nat) (y : List BA) : List BA → List BA
  | [] => []
  | x :: r => if x.id = b then y ++ r else x :: replB b y r
theorem findB_split {b : Nat} {x : BA} : ∀ {bk : List BA}, findB b bk = some x → ∃ pre post, bk = pre ++ x :: post ∧ x.id = b ∧ ∀ y, replB b y bk = pre ++ (y ++ post)
  | [], h => by cases h
  | z :: r, h => by
    simp only [findB] at h
    by_cases e : z.id = b
    · rw [if_pos e] at h
      obtain rfl := Option.some.inj h
      exact ⟨[], r, rfl, e, fun y => by simp [replB, e]⟩
    · rw [if_neg e] at h
      obtain ⟨pre, post, h1, h2, h3⟩ := findB_split h
      exact ⟨z :: pre, post, by rw [h1]; rfl, h2, fun y => by simp [replB, e, h3 y]⟩
theorem findB_mem {b : Nat} {x : BA} {bk : List BA} (h : findB b bk = some x) : x ∈ bk ∧ x.id = b := by
  obtain ⟨pre, post, e, h2, _⟩ := findB_split h
  exact ⟨by rw [e]; simp, h2⟩
def setsL {α : Type} (cs : List α) (o : Nat) : List α → List α
  | [] => cs
  | d :: ds => setsL (cs.set o d) (o + 1) ds
end Go.Proofs.YtdbeoigbkkdpdaaGreatDoor
