/- The formula of an operation is enough: kind by kind. No program is known here. -/
import Derived.Test.YtdbeoigbkkdpdaaGreatDoorPAbsOp
set_option linter.all false
set_option linter.unnecessarySimpa false
set_option linter.unusedSimpArgs false
set_option linter.unusedVariables false
/- Operations that turn no block of one's own: the formula, and that it is enough. No program is known here. -/
namespace Go.Proofs.YtdbeoigbkkdpdaaGreatDoor
open Go.ChangeShapes Go.WideShapes Go.ChangeAt Go.RowKit

/-- a function's contract: arguments and result told as data; of the blocks that it made, nb are handed over as the caller's own (their names below 100) -/
def ACalls (P : Program) (G : World → Prop) (f : FuncId) (args : List AV) (r : AV) (nb : List BA) : Prop :=
  (∀ (vs : Array Value) (w : World), (callFunc f vs).run P w = .ok (.enter f vs) w) ∧
  ∀ (V w : World) (E : Env) (vs : Array Value), Ext V w → G w → RepAs E V vs.toList args → Calls P f vs w fun e w' => ∃ v E', e = .returned v ∧ Below w.heap.size w w' ∧ (owns E' nb).Nodup ∧ (∀ g ∈ owns E' nb, w.heap.size ≤ g) ∧
    (∀ b ∈ nb, b.holds E' (vis V w w' (owns E' nb)) w' w.heap.size) ∧ RepA E' (vis V w w' (owns E' nb)) v r
def cid (dst : Option Tmp) : Nat :=
  match dst with
  | some d => 100 * (d + 1)
  | none => 0
def AV.sh (c : Nat) : AV → AV
  | .bp b o => .bp (b + c) o
  | .rp b k i j => .rp (b + c) k i j
  | .own b => .own (b + c)
  | .agg cs => .agg (shs c cs)
  | .tup cs => .tup (shs c cs)
  | .fn f cs => .fn f (shs c cs)
  | a => a
where shs (c : Nat) : List AV → List AV
  | [] => []
  | a :: l => AV.sh c a :: shs c l
def AV.small : AV → Bool
  | .bp b _ => Nat.blt b 100
  | .rp b _ _ _ => Nat.blt b 100
  | .own b => Nat.blt b 100
  | .agg cs => smalls cs
  | .tup cs => smalls cs
  | .fn _ cs => smalls cs
  | _ => true
where smalls : List AV → Bool
  | [] => true
  | a :: l => AV.small a && smalls l
def BA.sh (c : Nat) : BA → BA
  | .box b cs => .box (b + c) (AV.sh.shs c cs)
  | .arr b cs => .arr (b + c) cs
  | .row b e k l => .row (b + c) e k l
def BA.small : BA → Bool
  | .box b cs => Nat.blt b 100 && AV.small.smalls cs
  | .arr b _ => Nat.blt b 100
  | .row b _ _ _ => Nat.blt b 100
def shB (c : Nat) : List BA → List BA
  | [] => []
  | b :: bs => b.sh c :: shB c bs
def smallB : List BA → Bool
  | [] => true
  | b :: bs => b.small && smallB bs
/-- the caller's names, and the callee's moved up by c -/
def Env.join (E E' : Env) (c : Nat) : Env := ⟨fun b => if c ≤ b ∧ b < c + 100 then E'.blk (b - c) else E.blk b, fun b => if c ≤ b ∧ b < c + 100 then E'.row (b - c) else E.row b⟩
theorem Env.join_same (E E' : Env) (c : Nat) : Env.same c (c + 100) E (Env.join E E' c) := fun b hb => by
  have : ¬ (c ≤ b ∧ b < c + 100) := by omega
  simp only [Env.join, if_neg this]; exact ⟨trivial, trivial⟩
theorem Env.join_sh (E E' : Env) (c : Nat) {b : Nat} (h : b < 100) : (Env.join E E' c).blk (b + c) = E'.blk b ∧ (Env.join E E' c).row (b + c) = E'.row b := by
  have h1 : c ≤ b + c ∧ b + c < c + 100 := by omega
  simp only [Env.join, if_pos h1, Nat.add_sub_cancel]; exact ⟨trivial, trivial⟩
theorem shs_get {c : Nat} : ∀ {cs : List AV} {j : Nat}, (AV.sh.shs c cs)[j]? = (cs[j]?).map (AV.sh c)
  | [], j => by simp [AV.sh.shs]
  | _ :: _, 0 => by simp [AV.sh.shs]
  | _ :: cs, j + 1 => by simp only [AV.sh.shs, List.getElem?_cons_succ]; exact shs_get
theorem shs_len {c : Nat} : ∀ {cs : List AV}, (AV.sh.shs c cs).length = cs.length
  | [] => rfl
  | _ :: cs => congrArg Nat.succ (shs_len (cs := cs))
theorem smalls_get : ∀ {cs : List AV}, AV.small.smalls cs = true → ∀ {j : Nat} {c : AV}, cs[j]? = some c → c.small = true
  | [], _, j, c, h => by simp at h
  | d :: cs, h, 0, c, e => by
    simp only [AV.small.smalls, Bool.and_eq_true] at h
    simp at e; subst e; exact h.1
  | d :: cs, h, j + 1, c, e => by
    simp only [AV.small.smalls, Bool.and_eq_true] at h
    exact smalls_get h.2 (by simpa using e)
theorem blt_iff {a b : Nat} : Nat.blt a b = true ↔ a < b := by simp [Nat.blt_eq]
theorem RepA.sh {E E' : Env} {X : World} {c : Nat} {v : Value} {a : AV} (h : RepA E' X v a) : a.small = true → RepA (Env.join E E' c) X v (a.sh c) := by
  induction h with
  | any => exact fun _ => .any
  | val => exact fun _ => .val
  | iv h => exact fun _ => .iv h
  | ip f h1 h2 => exact fun _ => .ip f h1 h2
  | @bp b o => exact fun hb => by rw [← (Env.join_sh E E' c (blt_iff.1 hb)).1]; exact .bp
  | @rp b k i j => exact fun hb => by rw [← (Env.join_sh E E' c (blt_iff.1 hb)).1]; exact .rp
  | @own b A n cc h => exact fun hb => .own ((Env.join_sh E E' c (blt_iff.1 hb)).2.trans h)
  | aggI h => exact fun _ => .aggI h
  | agg h1 h2 ih =>
    exact fun hb => .agg (by rw [shs_len]; exact h1) fun j v d a b => by
      rw [shs_get, Option.map_eq_some_iff] at b
      obtain ⟨d', hd, rfl⟩ := b
      exact ih j v d' a hd (smalls_get hb hd)
  | tup h1 h2 ih =>
    exact fun hb => .tup (by rw [shs_len]; exact h1) fun j v d a b => by
      rw [shs_get, Option.map_eq_some_iff] at b
      obtain ⟨d', hd, rfl⟩ := b
      exact ih j v d' a hd (smalls_get hb hd)
  | fn h1 h2 ih =>
    exact fun hb => .fn (by rw [shs_len]; exact h1) fun j v d a b => by
      rw [shs_get, Option.map_eq_some_iff] at b
      obtain ⟨d', hd, rfl⟩ := b
      exact ih j v d' a hd (smalls_get hb hd)
theorem RepAs.sh {E E' : Env} {X : World} {c : Nat} {vs : List Value} {cs : List AV} (h : RepAs E' X vs cs) (hs : AV.small.smalls cs = true) : RepAs (Env.join E E' c) X vs (AV.sh.shs c cs) :=
  ⟨by rw [shs_len]; exact h.1, fun j v d a b => by
    rw [shs_get, Option.map_eq_some_iff] at b
    obtain ⟨d', hd, rfl⟩ := b
    exact (h.2 j v d' a hd).sh (smalls_get hs hd)⟩
theorem BA.sh_owned {E E' : Env} {c : Nat} {b : BA} (h : b.small = true) : (b.sh c).owned (Env.join E E' c) = b.owned E' := by
  cases b with
  | box b cs => simp only [BA.small, Bool.and_eq_true] at h; simp only [BA.sh, BA.owned, (Env.join_sh E E' c (blt_iff.1 h.1)).1]
  | arr b cs => simp only [BA.sh, BA.owned, (Env.join_sh E E' c (blt_iff.1 h)).1]
  | row b e k l => simp only [BA.sh, BA.owned, (Env.join_sh E E' c (blt_iff.1 h)).2]
theorem shB_owns {E E' : Env} {c : Nat} : ∀ {bs : List BA}, smallB bs = true → owns (Env.join E E' c) (shB c bs) = owns E' bs
  | [], _ => rfl
  | b :: bs, h => by
    simp only [smallB, Bool.and_eq_true] at h
    simp only [shB, owns, BA.sh_owned h.1, shB_owns h.2]
theorem shB_mem {c : Nat} : ∀ {bs : List BA} {x : BA}, x ∈ shB c bs → ∃ b ∈ bs, x = b.sh c
  | b :: bs, x, h => by
    simp only [shB] at h
    rcases List.mem_cons.1 h with rfl | h
    · exact ⟨b, by simp, rfl⟩
    · obtain ⟨b', h1, h2⟩ := shB_mem h
      exact ⟨b', List.mem_cons_of_mem _ h1, h2⟩
theorem smallB_mem : ∀ {bs : List BA}, smallB bs = true → ∀ b ∈ bs, b.small = true
  | [], _, b, h => by cases h
  | c :: bs, h, b, hb => by
    simp only [smallB, Bool.and_eq_true] at h
    rcases List.mem_cons.1 hb with rfl | hb
    · exact h.1
    · exact smallB_mem h.2 b hb
theorem BA.sh_holds {E E' : Env} {X w : World} {base c : Nat} {b : BA} (h : b.holds E' X w base) (hs : b.small = true) : (b.sh c).holds (Env.join E E' c) X w base := by
  cases b with
  | box b cs =>
    simp only [BA.small, Bool.and_eq_true] at hs
    obtain ⟨C, t, h1, h2⟩ := h
    exact ⟨C, t, by rw [(Env.join_sh E E' c (blt_iff.1 hs.1)).1]; exact h1, h2.sh hs.2⟩
  | arr b cs =>
    obtain ⟨C, t, h1, h2⟩ := h
    exact ⟨C, t, by rw [(Env.join_sh E E' c (blt_iff.1 hs)).1]; exact h1, h2⟩
  | row b e k l =>
    obtain ⟨h1, h2⟩ := h
    obtain ⟨e1, e2⟩ := Env.join_sh E E' c (blt_iff.1 hs)
    exact ⟨by rw [e2]; exact h1, by rw [e1, e2]; exact h2⟩
theorem BA.holds_base {E : Env} {X w : World} {base base' : Nat} {b : BA} (h : b.holds E X w base) (hb : base' ≤ base) : b.holds E X w base' := by
  cases b with
  | box b cs => exact h
  | arr b cs => exact h
  | row b e k l => exact ⟨h.1.base hb, h.2⟩

-- what is lent to a callee that reads alone
def viewA (B : Nat → Option BA) : AV → AV
  | .own b => match B b with
    | some (.row _ _ k l) => .iv (.sl k l)
    | _ => .any
  | .bp b o => match B b with
    | some (.arr _ cs) => .ip (cs.drop o)
    | some (.box _ cs) => match toIs cs with
      | some is => .ip (is.drop o)
      | none => .any
    | _ => .any
  | .agg cs => .agg (viewAs cs)
  | .tup cs => .tup (viewAs cs)
  | .fn f cs => .fn f (viewAs cs)
  | a => a
where viewAs : List AV → List AV
  | [] => []
  | a :: l => viewA B a :: viewAs l
/-- the boxes' cells are numbers that fit -/
def lendOk (B : Nat → Option BA) : Prop := ∀ b b' cs, B b = some (BA.box b' cs) → okAs cs
def okBk : List BA → Prop
  | [] => True
  | .box _ cs :: r => okAs cs ∧ okBk r
  | _ :: r => okBk r
theorem lendOk_of : ∀ {bk : List BA}, okBk bk → lendOk fun b => findB b bk
  | [], _, b, b', cs, h => by cases h
  | x :: r, ho, b, b', cs, h => by
    simp only [findB] at h
    have hr : okBk r := by cases x <;> first | exact ho | exact ho.2
    split at h
    · obtain rfl := Option.some.inj h
      exact ho.1
    · exact lendOk_of hr b b' cs h
def flatA : AV → Bool
  | .any => true
  | .val _ => true
  | .iv (.val _) => true
  | .iv (.sl _ []) => true
  | .own _ => true
  | .agg cs => flats cs
  | .tup cs => flats cs
  | _ => false
where flats : List AV → Bool
  | [] => true
  | a :: l => flatA a && flats l
def flatB (nb : List BA) : Prop := ∀ b ∈ nb, ∃ i e k l, b = .row i e k l ∧ ∀ cs ∈ l, ∀ x ∈ cs, ∃ v, x = .val v
theorem viewAs_get {B : Nat → Option BA} : ∀ {cs : List AV} {j : Nat}, (viewA.viewAs B cs)[j]? = (cs[j]?).map (viewA B)
  | [], j => by simp [viewA.viewAs]
  | _ :: _, 0 => by simp [viewA.viewAs]
  | _ :: cs, j + 1 => by simp only [viewA.viewAs, List.getElem?_cons_succ]; exact viewAs_get
theorem viewAs_len {B : Nat → Option BA} : ∀ {cs : List AV}, (viewA.viewAs B cs).length = cs.length
  | [] => rfl
  | _ :: cs => congrArg Nat.succ (viewAs_len (cs := cs))
theorem flats_get : ∀ {cs : List AV}, flatA.flats cs = true → ∀ {j : Nat} {c : AV}, cs[j]? = some c → flatA c = true
  | [], _, j, c, h => by simp at h
  | d :: cs, h, 0, c, e => by
    simp only [flatA.flats, Bool.and_eq_true] at h
    simp at e; subst e; exact h.1
  | d :: cs, h, j + 1, c, e => by
    simp only [flatA.flats, Bool.and_eq_true] at h
    exact flats_get h.2 (by simpa using e)
theorem RepA.flat {E : Env} {X X' : World} {v : Value} {a : AV} (h : RepA E X v a) : flatA a = true → RepA E X' v a := by
  induction h with
  | any => exact fun _ => .any
  | val => exact fun _ => .val
  | iv h =>
    exact fun hf => by
      cases h with
      | val h => exact .iv (.val h)
      | nil h => exact .iv (.nil h)
      | @sl b off c k l f h0 h1 h2 h3 h4 h5 h6 =>
        cases l with
        | nil => exact .iv (.nil h3)
        | cons => simp [flatA] at hf
      | pt f => simp [flatA] at hf
  | ip f h1 h2 => exact fun hf => by simp [flatA] at hf
  | bp => exact fun hf => by simp [flatA] at hf
  | rp => exact fun hf => by simp [flatA] at hf
  | own h => exact fun _ => .own h
  | aggI h => exact fun hf => by simp [flatA] at hf
  | agg h1 h2 ih => exact fun hf => .agg h1 fun j v c a b => ih j v c a b (flats_get hf b)
  | tup h1 h2 ih => exact fun hf => .tup h1 fun j v c a b => ih j v c a b (flats_get hf b)
  | fn h1 h2 ih => exact fun hf => by simp [flatA] at hf
theorem RepVs.flat {X X' : World} {vs : List Value} {is : List IV} (h : RepVs X vs is) (hf : ∀ x ∈ is, ∃ v, x = .val v) : RepVs X' vs is :=
  RepVs.of h.len fun j v i a b => by
    obtain ⟨u, rfl⟩ := hf i (List.mem_of_getElem? b)
    have := h.get a b
    cases this with
    | val h => exact .val h
theorem Chunks.mono_memE {α : Type} {R R' : List Value → α → Prop} {k : Nat} : ∀ {xs : List Value} {l : List α}, (∀ cs x, x ∈ l → R cs x → R' cs x) → Chunks R k xs l → Chunks R' k xs l
  | _, [], _, h => h
  | _, x :: _, hR, ⟨cs, rest, e, hk, h1, h⟩ => ⟨cs, rest, e, hk, hR _ _ (by simp) h1, Chunks.mono_memE (fun cs y hy => hR cs y (List.mem_cons_of_mem _ hy)) h⟩
theorem BA.flat_holds {E : Env} {X X' w : World} {base : Nat} {nb : List BA} (hf : flatB nb) {b : BA} (hb : b ∈ nb) (h : b.holds E X w base) : b.holds E X' w base := by
  obtain ⟨i, e, k, l, rfl, hl⟩ := hf b hb
  obtain ⟨⟨xs, h1, h2, h3⟩, h4⟩ := h
  exact ⟨⟨xs, h1, Chunks.mono_memE (fun cs x hx h => h.flat (hl x hx)) h2, h3⟩, h4⟩
section
variable {V w0 : World} {n : Fm} {E : Env} {σ : AState} {a : Act} {w : World}
/-- what is one's own, read by another -/
theorem St.view (h : St V w0 n E σ a w) {B : Nat → Option BA} (hB : ∀ b x, B b = some x → x ∈ σ.bk ∧ x.id = b) (hl : lendOk B) {v : Value} {c : AV} (hv : RepA E (vis V w0 w (owns E σ.bk)) v c) : RepA E (vis V w0 w []) v (viewA B c) := by
  have hx : Ext (vis V w0 w (owns E σ.bk)) (vis V w0 w []) := vis_ext (Nat.le_refl _) fun p u _ _ _ h4 => ⟨by simp, h4⟩
  have blkc : ∀ {g : Nat} {t : TypeId} {C : Array Value}, w0.heap.size ≤ g → Blk w g t C → ∀ (j : Nat) u, C[j]? = some u → (vis V w0 w []).cell? ⟨g, j, none⟩ = some u := fun hg hB j u hu => by
    rw [vis_new hg, if_neg (by simp), hB.cell]; exact hu
  induction hv with
  | any => exact .any
  | val => exact .val
  | iv h => exact .iv (h.ext hx)
  | ip f h1 h2 => exact (RepA.ip f h1 h2).mono hx
  | aggI h => exact .aggI (h.ext hx)
  | rp => exact .rp
  | @bp b o =>
    simp only [viewA]
    cases hb : B b with
    | none => exact .any
    | some x =>
      obtain ⟨h1, h2⟩ := hB b x hb
      have hh := h.holds x h1
      cases x with
      | row b' e k l => exact .any
      | arr b' cs =>
        obtain rfl : b' = b := h2
        obtain ⟨C, t, h3, h4⟩ := hh
        have hg := h.base (E.blk b') (mem_owns.2 ⟨_, h1, by simp [BA.owned]⟩)
        refine .ip (fun j => (C[o + j]?).getD undef) (fun j u hu => ?_) (fun j u hu => ?_)
        · rw [List.getElem?_drop] at hu
          have hj : o + j < C.size := by
            have := (List.getElem?_eq_some_iff.1 hu).1
            rw [← h4.len] at this; simpa using this
          rw [Array.getElem?_eq_getElem hj]
          exact blkc hg h3 _ _ (Array.getElem?_eq_getElem hj)
        · rw [List.getElem?_drop] at hu
          have hj : o + j < C.size := by
            have := (List.getElem?_eq_some_iff.1 hu).1
            rw [← h4.len] at this; simpa using this
          simp only [Array.getElem?_eq_getElem hj, Option.getD_some]
          exact (h4.get (j := o + j) (by rw [Array.getElem?_toList, Array.getElem?_eq_getElem hj]) hu).ext hx
      | box b' cs =>
        obtain rfl : b' = b := h2
        simp only
        cases hi : toIs cs with
        | none => exact .any
        | some is =>
          obtain ⟨C, t, h3, h4⟩ := hh
          have h5 := RepAs.toIs h4 hi (hl _ _ _ hb)
          have hg := h.base (E.blk b') (mem_owns.2 ⟨_, h1, by simp [BA.owned]⟩)
          refine .ip (fun j => (C[o + j]?).getD undef) (fun j u hu => ?_) (fun j u hu => ?_)
          · rw [List.getElem?_drop] at hu
            have hj : o + j < C.size := by
              have := (List.getElem?_eq_some_iff.1 hu).1
              rw [← h5.len] at this; simpa using this
            rw [Array.getElem?_eq_getElem hj]
            exact blkc hg h3 _ _ (Array.getElem?_eq_getElem hj)
          · rw [List.getElem?_drop] at hu
            have hj : o + j < C.size := by
              have := (List.getElem?_eq_some_iff.1 hu).1
              rw [← h5.len] at this; simpa using this
            simp only [Array.getElem?_eq_getElem hj, Option.getD_some]
            exact (h5.get (j := o + j) (by rw [Array.getElem?_toList, Array.getElem?_eq_getElem hj]) hu).ext hx
  | @own b A m cc he =>
    simp only [viewA]
    cases hb : B b with
    | none => exact .any
    | some x =>
      obtain ⟨h1, h2⟩ := hB b x hb
      have hh := h.holds x h1
      cases x with
      | arr b' cs => exact .any
      | box b' cs => exact .any
      | row b' e k l =>
        obtain rfl : b' = b := h2
        obtain ⟨h3, h4⟩ := hh
        rw [he] at h3
        refine .iv (RepV.of_sl ?_)
        obtain ⟨A', c', hv', p1, p2, p3⟩ := h3.sl
        refine ⟨A', c', hv', p1, p2, fun hne => ?_⟩
        obtain ⟨g, off, hA, q1, q2⟩ := p3 hne
        refine ⟨g, off, hA, by rw [vis_size]; exact q1, fun i x hx' => ?_⟩
        obtain ⟨cs, r1, r2, r3⟩ := q2 i x hx'
        refine ⟨cs, r1.ext hx, r2, fun j u hu => ?_⟩
        have hg : w0.heap.size ≤ g := by
          obtain ⟨hlo, _⟩ := h3.lt g (by rw [hv', hA]; rfl)
          exact hlo
        rw [vis_new hg, if_neg (by simp)]
        exact r3 j u hu
  | agg h1 h2 ih =>
    exact .agg (by rw [viewAs_len]; exact h1) fun j v d a b => by
      rw [viewAs_get, Option.map_eq_some_iff] at b
      obtain ⟨d', hd, rfl⟩ := b
      exact ih j v d' a hd
  | tup h1 h2 ih =>
    exact .tup (by rw [viewAs_len]; exact h1) fun j v d a b => by
      rw [viewAs_get, Option.map_eq_some_iff] at b
      obtain ⟨d', hd, rfl⟩ := b
      exact ih j v d' a hd
  | fn h1 h2 ih =>
    exact .fn (by rw [viewAs_len]; exact h1) fun j v d a b => by
      rw [viewAs_get, Option.map_eq_some_iff] at b
      obtain ⟨d', hd, rfl⟩ := b
      exact ih j v d' a hd
end
end Go.Proofs.YtdbeoigbkkdpdaaGreatDoor
/- Operations that turn no block of one's own: the formula that is to be shown of each, and that it is enough. No program is known here. -/
namespace Go.Proofs.YtdbeoigbkkdpdaaGreatDoor
open Go.ChangeShapes Go.WideShapes Go.ChangeAt Go.RowKit

def Sbs (xs ys : List AV) : Prop := ∀ (E : Env) (X : World) (vs : List Value), RepAs E X vs xs → RepAs E X vs ys
theorem Sbs.rfl_ (l : List AV) : Sbs l l := fun _ _ _ h => h
theorem Sbs.cons_ {x : AV} {l m : List AV} (h : Sbs l m) : Sbs (x :: l) (x :: m) := fun E X vs hv => by
  obtain ⟨v, vs', rfl, h1, h2⟩ := RepAs.cons_iff.1 hv
  exact RepAs.cons h1 (h _ _ _ h2)
theorem Sbs.of_ {x y : AV} {l m : List AV} (hx : ∀ (E : Env) (X : World) (v : Value), RepA E X v x → RepA E X v y) (h : Sbs l m) : Sbs (x :: l) (y :: m) := fun E X vs hv => by
  obtain ⟨v, vs', rfl, h1, h2⟩ := RepAs.cons_iff.1 hv
  exact RepAs.cons (hx _ _ _ h1) (h _ _ _ h2)
/-- nil as an empty slice -/
theorem rep_nil {k : Nat} : ∀ (E : Env) (X : World) (v : Value), RepA E X v (.val (.slice none 0 0)) → RepA E X v (.iv (.sl k [])) := fun _ _ _ h => by
  cases h; exact .iv (.nil (by unfold maxLen; omega))

/-- cells that are read -/
def rdI (q s : Nat) (cs : List IV) (K : AV → Prop) : Prop :=
  match q with
  | 0 => match cs with
    | c :: _ => K (nrm (.iv c))
    | [] => False
  | 1 => s ≤ cs.length ∧ K (.agg ((cs.take s).map fun c => nrm (.iv c)))
  | _ => s ≤ cs.length ∧ K (.aggI (cs.take s))
def rdA (q s : Nat) (cs : List AV) (K : AV → Prop) : Prop :=
  match q with
  | 0 => match cs with
    | c :: _ => K c
    | [] => False
  | 1 => s ≤ cs.length ∧ K (.agg (cs.take s))
  | _ => False
/-- a call of a function with a contract -/
def callQ (P : Program) (G : World → Prop) (B : Nat → Option BA) (f : FuncId) (args : List AV) (c : Nat) (K : AV → List BA → Prop) : Prop :=
  ∃ r nb args', ((Sbs args args' ∧ ACalls P G f args' r nb) ∨ (lendOk B ∧ flatA r = true ∧ flatB nb ∧ Sbs (viewA.viewAs B args) args' ∧ ACalls P G f args' r nb)) ∧ (r.small && smallB nb) = true ∧ K (r.sh c) (shB c nb)
/-- a value without memory -/
def valA : AV → Option Value
  | .val v => some v
  | .iv (.val v) => some v
  | .agg cs => (valAs cs).map fun l => .agg l.toArray
  | _ => none
where valAs : List AV → Option (List Value)
  | [] => some []
  | c :: cs => match valA c, valAs cs with
    | some v, some l => some (v :: l)
    | _, _ => none
def lenQ (P : Program) (t : TypeId) (B : Nat → Option BA) (x : AV) (K : AV → Prop) : Prop :=
  match nrm x with
  | .iv (.sl _ l) => (tySl P t).isSome = true ∧ K (.val (.int .i64 (l.length : Nat)))
  | .own b => match B b with
    | some (.row _ _ _ l) => (tySl P t).isSome = true ∧ K (.val (.int .i64 (l.length : Nat)))
    | _ => False
  | .val (.slice none 0 0) => (tySl P t).isSome = true ∧ K (.val (.int .i64 0))
  | .val (.string s) => tyStr P t = true ∧ K (.val (.int .i64 (s.size : Nat)))
  | _ => False
def binQ (P : Program) (op : BinOp) (t : TypeId) (x y : Operand) (u v : AV) (K : AV → Prop) : Prop :=
  match op, nrm u, nrm v with
  | .lss, .val (.int k a), .val (.int k' b) => k = k' ∧ K (.val (.bool (decide (a < b))))
  | .leq, .val (.int k a), .val (.int k' b) => k = k' ∧ K (.val (.bool (decide (a ≤ b))))
  | .gtr, .val (.int k a), .val (.int k' b) => k = k' ∧ K (.val (.bool (decide (b < a))))
  | .geq, .val (.int k a), .val (.int k' b) => k = k' ∧ K (.val (.bool (decide (b ≤ a))))
  | .eql, .val (.int k a), .val (.int k' b) => k = k' ∧ K (.val (.bool (decide (a = b))))
  | .neq, .val (.int k a), .val (.int k' b) => k = k' ∧ K (.val (.bool (decide (a ≠ b))))
  | .add, .val (.int k a), .val (.int k' b) => k = k' ∧ ∃ m, k.wrap (a + b) = m ∧ K (.val (.int k m))
  | .sub, .val (.int k a), .val (.int k' b) => k = k' ∧ ∃ m, k.wrap (a - b) = m ∧ K (.val (.int k m))
  | .mul, .val (.int k a), .val (.int k' b) => k = k' ∧ ∃ m, k.wrap (a * b) = m ∧ K (.val (.int k m))
  | op, u, v => match valA u, valA v with
    | some p, some q => ∃ r, (∀ w, (do eqGuard op t x y p q; binOp op t p q : Sem Value).run P w = .ok r w) ∧ K (.val r)
    | _, _ => False
def fillA (places : List (Nat × Nat)) (cells : List AV) : List (Nat × AV) → Option (List AV)
  | [] => some cells
  | (i, v) :: rest => match places[i]? with
    | none => none
    | some (off, size) => if (cellsA v).length = size ∧ okC v = true ∧ off + size ≤ cells.length then fillA places (setsL cells off (cellsA v)) rest else none
/-- how far it may grow -/
def mxQ (L : Operand → AV) (mx hi : Option Operand) (j n : Nat) (K : Prop) : Prop :=
  match mx with
  | none => K
  | some p => hi.isSome = true ∧ ∃ m : Nat, L p = .val (.int .i64 m) ∧ j ≤ m ∧ m ≤ n ∧ K
def qop (P : Program) (G : World → Prop) (L : Operand → AV) (B : Nat → Option BA) (o : Oper) (c : Nat) (K : AV → List BA → Prop) : Prop :=
  match o.op with
  | .move x => K (L x) []
  | .assign x => K (L x) []
  | .pick c x y => match nrm (L c) with
    | .val (.bool true) => K (L x) []
    | .val (.bool false) => K (L y) []
    | _ => False
  | .alloc e => match tyZ P e with
    | some (2, zs) => (∀ v ∈ zs, okV v) ∧ K (.bp c 0) [.arr c (zs.map IV.val)]
    | some (_, zs) => K (.bp c 0) [.box c (zs.map AV.val)]
    | none => False
  | .box _ x => match L x with
    | .aggI cs => K (.bp c 0) [.arr c cs]
    | u => okC u = true ∧ K (.bp c 0) [.box c (cellsA u)]
  | .load t x => match tyK P t with
    | some (q, s) => match L x with
      | .ip cs => rdI q s cs fun r => K r []
      | .bp b p => match B b with
        | some (.box _ cs) => rdA q s (cs.drop p) fun r => K r []
        | some (.arr _ cs) => match q with
          | 0 => ∃ u, cs[p]? = some u ∧ K (nrm (.iv u)) []
          | 1 => False
          | _ => p = 0 ∧ s = cs.length ∧ K (.aggI cs) []
        | _ => False
      | .rp b k i j => match B b with
        | some (.row _ _ k' l) => k' = k ∧ ∃ cs, l[i]? = some cs ∧ rdI q s (cs.drop j) fun r => K r []
        | _ => False
      | _ => False
    | none => False
  | .nilCheck x => match L x with
    | .ip cs => K (.ip cs) []
    | .bp b p => K (.bp b p) []
    | .rp b k i j => K (.rp b k i j) []
    | .fn f cs => K (.fn f cs) []
    | _ => False
  | .binOp op t x y _ => binQ P op t x y (L x) (L y) fun r => K r []
  | .unOp op _ x => match op, nrm (L x) with
    | .not, .val (.bool b) => K (.val (.bool !b)) []
    | .neg, .val (.int k m) => ∃ m', k.wrap (0 - m) = m' ∧ K (.val (.int k m')) []
    | _, _ => False
  | .convert s d x => match tyInt P s, tyInt P d, nrm (L x) with
    | some _, some k, .val (.int _ m) => ∃ m', k.wrap m = m' ∧ K (.val (.int k m')) []
    | _, _, _ => False
  | .makeFunc (.func f) first caps => first = #[] ∧ K (.fn f (caps.toList.map L)) []
  | .slice t x lo hi mx => match tySl P t, nrm (L x) with
    | some (_, k, _), .iv (.sl k' l) =>
      k = k' ∧ ∃ i j : Nat, (match lo with | none => i = 0 | some p => L p = .val (.int .i64 i)) ∧ (match hi with | none => j = l.length | some p => L p = .val (.int .i64 j)) ∧ i ≤ j ∧ j ≤ l.length ∧ mxQ L mx hi j l.length (K (.iv (.sl k ((l.take j).drop i))) [])
    | _, _ => False
  | .fieldAddr t x f => match tyF P t f with
    | some (off, _, s) => s ≠ 0 ∧ match L x with
      | .ip cs => K (.ip (cs.drop off)) []
      | .bp b p => K (.bp b (p + off)) []
      | .rp b k i j => K (.rp b k i (j + off)) []
      | _ => False
    | none => False
  | .field t x f => match tyF P t f, L x with
    | some (off, q, s), .agg cs => rdA q s (cs.drop off) fun r => K r []
    | _, _ => False
  | .indexAddr t x i => match nrm (L i) with
    | .val (.int _ m) => match tySl P t with
      | some (_, k, _) => match nrm (L x) with
        | .iv (.sl k' l) => k = k' ∧ 0 ≤ m ∧ ∃ cs, l[m.toNat]? = some cs ∧ K (.ip cs) []
        | .own b => match B b with
          | some (.row _ _ k' l) => k = k' ∧ 0 ≤ m ∧ m.toNat < l.length ∧ K (.rp b k m.toNat 0) []
          | _ => False
        | _ => False
      | none => match tyAr P t, L x with
        | some (n, _, k), .bp b p => 0 ≤ m ∧ m < (n : Int) ∧ 0 < k ∧ K (.bp b (p + m.toNat * k)) []
        | some (n, _, k), .ip cs => 0 ≤ m ∧ m < (n : Int) ∧ 0 < k ∧ K (.ip (cs.drop (m.toNat * k))) []
        | _, _ => False
    | _ => False
  | .index t x i => match nrm (L i), L x with
    | .val (.int _ m), .aggI cs => match tyAr P t with
      | some (n, 0, 1) => 0 ≤ m ∧ m < (n : Int) ∧ ∃ u, cs[m.toNat]? = some u ∧ K (nrm (.iv u)) []
      | _ => False
    | .val (.int _ m), .val (.string s) => tyStr P t = true ∧ 0 ≤ m ∧ ∃ b, s[m.toNat]? = some b ∧ K (.val (.int .u8 (b.toNat : Nat))) []
    | _, _ => False
  | .build t parts => match tyBld P t with
    | some (zs, places) => match fillA places (zs.map AV.val) (parts.toList.map fun p => (p.1, L p.2)) with
      | some cs => K (.agg cs) []
      | none => False
    | none => False
  | .extract x i => match L x with
    | .tup cs => i < cs.length ∧ K (cs.getD i .any) []
    | _ => False
  | .buildSlice t len parts => match tySl P t with
    | some (e, k, _) => (tyZ P e).isSome = true ∧ ∃ l : List (List IV), l.length = len ∧ 0 < k ∧ len * k ≤ 16777216 ∧ (∀ (i : Nat) (cs : List IV), l[i]? = some cs → cs.length = k ∧ ∃ x, parts[i]? = some (i, x) ∧ okC (L x) = true ∧ toIs (cellsA (L x)) = some cs ∧ okAs (cellsA (L x))) ∧ parts.size = len ∧ (K (.own c) [.row c e k l] ∨ K (.iv (.sl k l)) [])
    | none => False
  | .call { callee := .value f, args, argTypes := _ } => match L f with
    | .fn f caps => callQ P G B f (args.toList.map L ++ caps) c K
    | _ => False
  | .call { callee := .builtin .len, args, argTypes } => match args.toList, argTypes.toList with
    | [x], [t] => lenQ P t B (L x) fun r => K r []
    | _, _ => False
  | .call { callee := .builtin .cap, args, argTypes } => match args.toList, argTypes.toList with
    | [x], [t] => match nrm (L x) with
      | .val (.slice none 0 0) => (tySl P t).isSome = true ∧ K (.val (.int .i64 0)) []
      | _ => False
    | _, _ => False
  | .call { callee := .builtin .max, args, argTypes := _ } => match args.toList with
    | [x, y] => match nrm (L x), nrm (L y) with
      | .val (.int k p), .val (.int _ q) => ∃ m, max p q = m ∧ K (.val (.int k m)) []
      | _, _ => False
    | _ => False
  | .call { callee := .builtin .min, args, argTypes := _ } => match args.toList with
    | [x, y] => match nrm (L x), nrm (L y) with
      | .val (.int k p), .val (.int _ q) => ∃ m, min p q = m ∧ K (.val (.int k m)) []
      | _, _ => False
    | _ => False
  | _ => False
/-- does it lay memory? -/
def makes (o : Oper) : Bool :=
  match o.op with
  | .alloc _ => true
  | .box _ _ => true
  | .buildSlice _ _ _ => true
  | .call { callee := .value _, args := _, argTypes := _ } => true
  | .call { callee := .builtin .append, args := _, argTypes := _ } => true
  | _ => false
end Go.Proofs.YtdbeoigbkkdpdaaGreatDoor
/- The formula of an operation is enough. No program is known here. -/
namespace Go.Proofs.YtdbeoigbkkdpdaaGreatDoor
open Go.ChangeShapes Go.WideShapes Go.ChangeAt Go.RowKit

/-- what an operation's formula stands for: it ends with a value that reads as r, the blocks nb laid as one's own -/
def Res (o : Oper) (V w0 : World) (E : Env) (σ : AState) (w : World) (c : Nat) (nb : List BA) (r : AV) (v : Value) (w' : World) (E' : Env) : Prop :=
  Below w.heap.size w w' ∧ (Env.same c (c + 100) E E' ∧ (E' = E ∨ makes o = true)) ∧ (owns E' nb).Nodup ∧ (∀ g ∈ owns E' nb, w.heap.size ≤ g) ∧ (∀ b ∈ nb, b.holds E' (vis V w0 w' (owns E' nb ++ owns E σ.bk)) w' w0.heap.size) ∧ RepA E' (vis V w0 w' (owns E' nb ++ owns E σ.bk)) v r
def QSnd (P : Program) (G : World → Prop) (o : Oper) (c : Nat) (L : Operand → AV) (B : Nat → Option BA) (r : AV) (nb : List BA) : Prop :=
  ∀ (V w0 : World) (n : Fm) (E : Env) (σ : AState) (a : Act) (w : World), St V w0 n E σ a w → G w → (∀ x, RepA E (vis V w0 w (owns E σ.bk)) (a.eval x) (L x)) → (∀ b x, B b = some x → x ∈ σ.bk ∧ x.id = b) →
    ∀ (N : Act → World → Prop) (Q : Exit → Act → World → Prop), (∀ v w' E', Res o V w0 E σ w c nb r v w' E' → N (a.put o.dst v) w') → o.wp P a w N Q

section
variable {P : Program} {G : World → Prop} {o : Oper} {c : Nat} {L : Operand → AV} {B : Nat → Option BA} {r : AV} {nb : List BA}
/-- an operation that only computes or reads -/
theorem QSnd.pure_ (h : ∀ (V w0 : World) (n : Fm) (E : Env) (σ : AState) (a : Act) (w : World), St V w0 n E σ a w → (∀ x, RepA E (vis V w0 w (owns E σ.bk)) (a.eval x) (L x)) → (∀ b x, B b = some x → x ∈ σ.bk ∧ x.id = b) →
    ∃ v, (execOp a.eval o).run P w = .ok (.value v) w ∧ RepA E (vis V w0 w (owns E σ.bk)) v r) : QSnd P G o c L B r [] := by
  intro V w0 n E σ a w hs hG hL hB N Q hN
  obtain ⟨v, h1, h2⟩ := h V w0 n E σ a w hs hL hB
  unfold Oper.wp
  rw [h1]
  exact hN v w E ⟨Below.refl _ _, ⟨Env.same_refl _ _ _, .inl rfl⟩, List.nodup_nil, (fun _ h => by cases h), (fun _ h => by cases h), h2⟩
theorem run_v {s : Sem Value} {v : Value} {w w' : World} (h : s.run P w = .ok v w') : (do return Next.value (← s) : Sem Next).run P w = .ok (.value v) w' := by
  simp [h]

/-- a new box -/
theorem QSnd.box_ {b : BA} (hm : makes o = true) (hb : b.id = c) (h : ∀ (V w0 : World) (n : Fm) (E : Env) (σ : AState) (a : Act) (w : World), St V w0 n E σ a w → (∀ x, RepA E (vis V w0 w (owns E σ.bk)) (a.eval x) (L x)) →
    ∃ (C : Array Value) (t : TypeId), (execOp a.eval o).run P w = .ok (.value (.pointer (some ⟨w.heap.size, 0, none⟩))) (w.alloc (.cells C t)) ∧
      ((∃ cs, b = .box c cs ∧ RepAs E (vis V w0 w (owns E σ.bk)) C.toList cs ∧ AV.off.offs c (c + 100) cs = true) ∨ (∃ cs, b = .arr c cs ∧ RepVs (vis V w0 w (owns E σ.bk)) C.toList cs))) : QSnd P G o c L B (.bp c 0) [b] := by
  intro V w0 n E σ a w hs hG hL _ N Q hN
  obtain ⟨C, t, h1, h2⟩ := h V w0 n E σ a w hs hL
  unfold Oper.wp
  rw [h1]
  have hE : Env.same c (c + 100) E ⟨fun b => if b = c then w.heap.size else E.blk b, E.row⟩ := fun b hb => by
    have : ¬ b = c := by omega
    simp [this]
  have hbel := balloc (o := .cells C t) (Below.refl _ w)
  have ho : owns ⟨fun b => if b = c then w.heap.size else E.blk b, E.row⟩ [b] = [w.heap.size] := by
    rcases h2 with ⟨cs, rfl, _⟩ | ⟨cs, rfl, _⟩ <;> simp [owns, BA.owned]
  have hx : Ext (vis V w0 w (owns E σ.bk)) (vis V w0 (w.alloc (.cells C t)) ([w.heap.size] ++ owns E σ.bk)) := vis_ext hbel.size fun p u _ h4 h5 h6 => ⟨fun hm => by
    rcases List.mem_append.1 hm with hm | hm
    · simp at hm; omega
    · exact h5 hm, kept_cell hbel h6⟩
  refine hN _ _ ⟨fun b => if b = c then w.heap.size else E.blk b, E.row⟩ ⟨hbel, ⟨hE, .inr hm⟩, by rw [ho]; simp, fun g hg => by rw [ho] at hg; simp at hg; omega, fun b' hb' => ?_, ?_⟩
  · rw [ho]
    simp only [List.mem_singleton] at hb'
    subst hb'
    rcases h2 with ⟨cs, rfl, h3, h4⟩ | ⟨cs, rfl, h3⟩
    · exact ⟨C, t, by simp; exact Blk.new _ _ _, h3.ext hE hx h4⟩
    · exact ⟨C, t, by simp; exact Blk.new _ _ _, h3.ext hx⟩
  · have := RepA.bp (E := ⟨fun b => if b = c then w.heap.size else E.blk b, E.row⟩) (X := vis V w0 (w.alloc (.cells C t)) (owns ⟨fun b => if b = c then w.heap.size else E.blk b, E.row⟩ [b] ++ owns E σ.bk)) (b := c) (o := 0)
    simpa using this

theorem take_rep {X : World} {f : Nat → Value} {cs : List IV} {s : Nat} (hs : s ≤ cs.length) (h : ∀ j u, cs[j]? = some u → RepV X (f j) u) : RepVs X ((List.range s).map f) (cs.take s) := by
  refine RepVs.of (by simp [hs]) fun j v i a b => ?_
  have hj : j < s := by
    have := (List.getElem?_eq_some_iff.1 a).1
    simpa using this
  rw [List.getElem?_map, List.getElem?_range hj] at a
  obtain rfl := Option.some.inj a
  rw [List.getElem?_take_of_lt hj] at b
  exact h j i b
theorem RepVs.nrms {E : Env} {X : World} {vs : List Value} {is : List IV} (h : RepVs X vs is) : RepAs E X vs (is.map fun c => nrm (.iv c)) :=
  ⟨by rw [List.length_map]; exact h.len, fun j v c a b => by
    rw [List.getElem?_map, Option.map_eq_some_iff] at b
    obtain ⟨i, hi, rfl⟩ := b
    exact (RepA.iv (h.get a hi)).nrm_⟩
/-- cells that are read, of those that nobody turns -/
theorem rdI_run {q s t : Nat} (ht : tyK P t = some (q, s)) {cs : List IV} {K : AV → Prop} (h : rdI q s cs K) : ∃ r, K r ∧ ∀ (E : Env) (X w : World) (b off : Nat) (f : Nat → Value), (∀ (j : Nat) u, cs[j]? = some u → w.cell? ⟨b, off + j, none⟩ = some (f j)) → (∀ (j : Nat) u, cs[j]? = some u → RepV X (f j) u) →
    ∃ v, (Instr.loadAt t (.pointer (some ⟨b, off, none⟩))).run P w = .ok v w ∧ RepA E X v r := by
  have many : s ≤ cs.length → q ≠ 0 → ∀ (w : World) (b off : Nat) (f : Nat → Value), (∀ (j : Nat) u, cs[j]? = some u → w.cell? ⟨b, off + j, none⟩ = some (f j)) → (Instr.loadAt t (.pointer (some ⟨b, off, none⟩))).run P w = .ok (.agg ((List.range s).map f).toArray) w := fun hs hq w b off f h1 => by
    obtain ⟨ha, hz⟩ := tyK_run (w := w) ht
    have hl := run_loadCells (P := P) w ⟨b, off, none⟩ s f fun j hj => by
      rw [add_at]
      exact h1 j _ (List.getElem?_eq_getElem (by omega))
    simp [Instr.loadAt, Instr.sureAddr, loadVar, ha, hz, hq, hl]
  match q, ht, h, many with
  | 0, ht, h, _ =>
    cases cs with
    | nil => exact h.elim
    | cons c cs =>
      refine ⟨_, h, fun E X w b off f h1 h2 => ⟨f 0, ?_, (RepA.iv (h2 0 c rfl)).nrm_⟩⟩
      obtain ⟨ha, hz⟩ := tyK_run (w := w) ht
      have h0 := h1 0 c rfl
      simp only [Nat.add_zero] at h0
      simp [Instr.loadAt, Instr.sureAddr, loadVar, ha, load, Sem.run, h0]
  | 1, _, h, many => exact ⟨_, h.2, fun E X w b off f h1 h2 => ⟨_, many h.1 (by omega) w b off f h1, .agg (by simp [h.1]) fun j v d a b => (take_rep h.1 h2).nrms.2 j v d (by simpa using a) b⟩⟩
  | q + 2, _, h, many => exact ⟨_, h.2, fun E X w b off f h1 h2 => ⟨_, many h.1 (by omega) w b off f h1, .aggI (by simpa using take_rep h.1 h2)⟩⟩
/-- of a block of one's own -/
theorem rdA_run {q s t : Nat} (ht : tyK P t = some (q, s)) {cs : List AV} {K : AV → Prop} (h : rdA q s cs K) : ∃ r, K r ∧ ∀ (E : Env) (X w : World) (g p : Nat) (e : TypeId) (C : Array Value), Blk w g e C → RepAs E X (C.toList.drop p) cs →
    ∃ v, (Instr.loadAt t (.pointer (some ⟨g, p, none⟩))).run P w = .ok v w ∧ RepA E X v r := by
  match q, ht, h with
  | 0, ht, h =>
    cases cs with
    | nil => exact h.elim
    | cons c cs =>
      refine ⟨_, h, fun E X w g p e C hB hC => ?_⟩
      obtain ⟨ha, hz⟩ := tyK_run (w := w) ht
      have hlen := hC.1
      have hp : p < C.size := by simp at hlen; omega
      have h0 : w.cell? ⟨g, p, none⟩ = some C[p] := by rw [hB.cell, Array.getElem?_eq_getElem hp]
      refine ⟨C[p], ?_, hC.2 0 _ c (by rw [List.getElem?_drop, Array.getElem?_toList]; simp [hp]) rfl⟩
      simp [Instr.loadAt, Instr.sureAddr, loadVar, ha, load, Sem.run, h0]
  | 1, ht, h =>
    refine ⟨_, h.2, fun E X w g p e C hB hC => ?_⟩
    obtain ⟨ha, hz⟩ := tyK_run (w := w) ht
    have hlen := hC.1
    have hl : (loadCells ⟨g, p, none⟩ ((C.toList.drop p).take s).length).run P w = .ok ((C.toList.drop p).take s).toArray w := run_loadCells_list (P := P) w ⟨g, p, none⟩ ((C.toList.drop p).take s) fun j v hv => by
      rw [add_at, hB.cell]
      have hj := (List.getElem?_eq_some_iff.1 hv).1
      rw [List.getElem?_take_of_lt (by simp at hj; omega), List.getElem?_drop, Array.getElem?_toList] at hv
      exact hv
    have hsl : ((C.toList.drop p).take s).length = s := by rw [List.length_take, hlen]; exact Nat.min_eq_left h.1
    rw [hsl] at hl
    refine ⟨_, by simp [Instr.loadAt, Instr.sureAddr, loadVar, ha, hz, hl]; rfl, .agg (by simp only [List.size_toArray, hsl]; rw [List.length_take]; exact (Nat.min_eq_left h.1).symm) fun j v d a b => ?_⟩
    have a' : ((C.toList.drop p).take s)[j]? = some v := by simpa using a
    have hj : j < s := by have := (List.getElem?_eq_some_iff.1 a').1; omega
    rw [List.getElem?_take_of_lt hj] at a' b
    exact hC.2 j v d a' b
end
end Go.Proofs.YtdbeoigbkkdpdaaGreatDoor
namespace Go.Proofs.YtdbeoigbkkdpdaaGreatDoor
open Go.ChangeShapes Go.WideShapes Go.ChangeAt Go.RowKit

section
variable {P : Program} {G : World → Prop} {c : Nat} {L : Operand → AV} {B : Nat → Option BA} {K : AV → List BA → Prop}
def Enough (P : Program) (G : World → Prop) (o : Oper) (c : Nat) (L : Operand → AV) (B : Nat → Option BA) (K : AV → List BA → Prop) : Prop := ∃ r nb, K r nb ∧ QSnd P G o c L B r nb
variable {dst : Option Tmp} {ty : TypeId} {pos : String} {after : Array Edge} {gd : Option (Nat × Bool)}

theorem e_move {x : Operand} (h : K (L x) []) : Enough P G ⟨dst, .move x, ty, pos, after, gd⟩ c L B K :=
  ⟨_, _, h, QSnd.pure_ fun V w0 n E σ a w _ hL _ => ⟨a.eval x, rfl, hL x⟩⟩
theorem e_assign {x : Operand} (h : K (L x) []) : Enough P G ⟨dst, .assign x, ty, pos, after, gd⟩ c L B K :=
  ⟨_, _, h, QSnd.pure_ fun V w0 n E σ a w _ hL _ => ⟨a.eval x, rfl, hL x⟩⟩
theorem e_alloc {e q : TypeId} {zs : List Value} (hz : tyZ P e = some (q, zs)) (h : (q = 2 ∧ (∀ v ∈ zs, okV v) ∧ K (.bp c 0) [.arr c (zs.map IV.val)]) ∨ K (.bp c 0) [.box c (zs.map AV.val)]) : Enough P G ⟨dst, .alloc e, ty, pos, after, gd⟩ c L B K := by
  have run : ∀ (a : Act) (w : World), ∃ C : Array Value, C.toList = zs ∧ (execOp a.eval ⟨dst, .alloc e, ty, pos, after, gd⟩).run P w = .ok (.value (.pointer (some ⟨w.heap.size, 0, none⟩))) (w.alloc (.cells C e)) := fun a w => by
    obtain ⟨z, h1, h2, _⟩ := tyZ_run (w := w) hz
    exact ⟨z.cells, h2, by
      simp only [execOp, Instr.alloc, newVar, newRow, newObj]
      simp only [Sem.run_bind, Sem.run_pure, h1, Result.andThen_ok, Sem.run]
      rfl⟩
  rcases h with ⟨_, h1, h2⟩ | h2
  · refine ⟨_, _, h2, QSnd.box_ rfl rfl fun V w0 n E σ a w _ _ => ?_⟩
    obtain ⟨C, h3, h4⟩ := run a w
    refine ⟨C, e, h4, .inr ⟨_, rfl, ?_⟩⟩
    rw [h3]
    refine RepVs.of (by simp) fun j v i a b => ?_
    rw [List.getElem?_map, a] at b
    obtain rfl := Option.some.inj b
    exact .val (h1 v (List.mem_of_getElem? a))
  · refine ⟨_, _, h2, QSnd.box_ rfl rfl fun V w0 n E σ a w _ _ => ?_⟩
    obtain ⟨C, h3, h4⟩ := run a w
    refine ⟨C, e, h4, .inl ⟨_, rfl, ?_, ?_⟩⟩
    · rw [h3]
      exact ⟨by simp, fun j v i a b => by
        rw [List.getElem?_map, a] at b
        obtain rfl := Option.some.inj b
        exact .val⟩
    · clear hz h2 run h3 h4
      induction zs with
      | nil => rfl
      | cons z zs ih => simp only [List.map_cons, AV.off.offs, AV.off, Bool.true_and]; exact ih
theorem offs_cells {lo hi : Nat} {u : AV} (h : u.off lo hi = true) : AV.off.offs lo hi (cellsA u) = true := by
  have one : AV.off.offs lo hi [u] = true := by simp only [AV.off.offs, Bool.and_eq_true]; exact ⟨h, trivial⟩
  cases u with
  | agg cs => exact h
  | aggI cs =>
    simp only [cellsA]
    induction cs with
    | nil => rfl
    | cons z zs ih => simp only [List.map_cons, AV.off.offs, AV.off, Bool.true_and]; exact ih rfl (by rfl)
  | _ => exact one
theorem e_box {e : TypeId} {x : Operand} (hf : (L x).off c (c + 100) = true) (h : match L x with
    | .aggI cs => K (.bp c 0) [.arr c cs]
    | u => okC u = true ∧ K (.bp c 0) [.box c (cellsA u)]) : Enough P G ⟨dst, .box e x, ty, pos, after, gd⟩ c L B K := by
  have run : ∀ (a : Act) (w : World), (execOp a.eval ⟨dst, .box e x, ty, pos, after, gd⟩).run P w = .ok (.value (.pointer (some ⟨w.heap.size, 0, none⟩))) (w.alloc (.cells (a.eval x).cells e)) := fun a w => by
    simp only [execOp, Instr.box, newVar, newRow, newObj]
    simp only [Sem.run_bind, Sem.run_pure, Result.andThen_ok, Sem.run]
    rfl
  have gen : okC (L x) = true → K (.bp c 0) [.box c (cellsA (L x))] → Enough P G ⟨dst, .box e x, ty, pos, after, gd⟩ c L B K := fun h1 h2 =>
    ⟨_, _, h2, QSnd.box_ rfl rfl fun V w0 n E σ a w _ hL => ⟨_, e, run a w, .inl ⟨_, rfl, ((hL x).cells h1).1, offs_cells hf⟩⟩⟩
  split at h
  · rename_i cs hx
    refine ⟨_, _, h, QSnd.box_ rfl rfl fun V w0 n E σ a w _ hL => ⟨_, e, run a w, .inr ⟨_, rfl, ?_⟩⟩⟩
    have := hL x
    rw [hx] at this
    generalize a.eval x = v at this
    cases this with
    | aggI h => exact h
  · exact gen h.1 h.2
theorem e_load {t : TypeId} {x : Operand} {q s : Nat} (ht : tyK P t = some (q, s)) (h : match L x with
      | .ip cs => rdI q s cs fun r => K r []
      | .bp b p => match B b with
        | some (.box _ cs) => rdA q s (cs.drop p) fun r => K r []
        | some (.arr _ cs) => match (generalizing := false) q with
          | 0 => ∃ u, cs[p]? = some u ∧ K (nrm (.iv u)) []
          | 1 => False
          | _ => p = 0 ∧ s = cs.length ∧ K (.aggI cs) []
        | _ => False
      | .rp b k i j => match B b with
        | some (.row _ _ k' l) => k' = k ∧ ∃ cs, l[i]? = some cs ∧ rdI q s (cs.drop j) fun r => K r []
        | _ => False
      | _ => False) : Enough P G ⟨dst, .load t x, ty, pos, after, gd⟩ c L B K := by
  have at_ : ∀ (a : Act) (w : World) {v u : Value}, a.eval x = u → (Instr.loadAt t u).run P w = .ok v w → (execOp a.eval ⟨dst, .load t x, ty, pos, after, gd⟩).run P w = .ok (.value v) w := fun a w v u hu h => by
    simp only [execOp, hu]
    exact run_v h
  split at h
  · rename_i cs hx
    obtain ⟨r, h1, h2⟩ := rdI_run ht h
    refine ⟨_, _, h1, QSnd.pure_ fun V w0 n E σ a w hs hL _ => ?_⟩
    have hv := hL x
    rw [hx] at hv
    generalize hu : a.eval x = u at hv
    cases hv with
    | @ip b off _ f p1 p2 =>
      obtain ⟨v, h3, h4⟩ := h2 E _ w b off f (fun j u hu => hs.in_.cell _ _ (p1 j u hu)) p2
      exact ⟨v, at_ a w hu h3, h4⟩
  · rename_i b p hx
    split at h
    · rename_i b' cs hb
      obtain ⟨r, h1, h2⟩ := rdA_run ht h
      refine ⟨_, _, h1, QSnd.pure_ fun V w0 n E σ a w hs hL hB => ?_⟩
      have hv := hL x
      rw [hx] at hv
      generalize hu : a.eval x = u at hv
      cases hv
      obtain ⟨q1, q2⟩ := hB b _ hb
      obtain rfl : b' = b := q2
      obtain ⟨C, e, q3, q4⟩ := hs.holds _ q1
      obtain ⟨v, h3, h4⟩ := h2 E (vis V w0 w (owns E σ.bk)) w (E.blk b') p e C q3 ⟨by simp [← q4.1], fun j v d a b => by
        rw [List.getElem?_drop] at a b
        exact q4.2 _ v d a b⟩
      exact ⟨v, at_ a w hu h3, h4⟩
    · rename_i b' cs hb
      match q, ht, h with
      | 0, ht, ⟨u', h1, h2⟩ =>
        refine ⟨_, _, h2, QSnd.pure_ fun V w0 n E σ a w hs hL hB => ?_⟩
        have hv := hL x
        rw [hx] at hv
        generalize hu : a.eval x = u at hv
        cases hv
        obtain ⟨q1, q2⟩ := hB b _ hb
        obtain rfl : b' = b := q2
        obtain ⟨C, e, q3, q4⟩ := hs.holds _ q1
        obtain ⟨ha, hz⟩ := tyK_run (w := w) ht
        have hp : p < C.size := by have := (List.getElem?_eq_some_iff.1 h1).1; rw [← q4.len] at this; simpa using this
        have h0 : w.cell? ⟨E.blk b', p, none⟩ = some C[p] := by rw [q3.cell, Array.getElem?_eq_getElem hp]
        exact ⟨C[p], at_ a w hu (by simp [Instr.loadAt, Instr.sureAddr, loadVar, ha, load, Sem.run, h0]), (RepA.iv (q4.get (by rw [Array.getElem?_toList]; exact Array.getElem?_eq_getElem hp) h1)).nrm_⟩
      | 1, _, h => exact h.elim
      | q + 2, ht, ⟨hp0, h1, h2⟩ =>
        subst hp0
        refine ⟨_, _, h2, QSnd.pure_ fun V w0 n E σ a w hs hL hB => ?_⟩
        have hv := hL x
        rw [hx] at hv
        generalize hu : a.eval x = u at hv
        cases hv
        obtain ⟨q1, q2⟩ := hB b _ hb
        obtain rfl : b' = b := q2
        obtain ⟨C, e, q3, q4⟩ := hs.holds _ q1
        obtain ⟨ha, hz⟩ := tyK_run (w := w) ht
        have hl : (loadCells ⟨E.blk b', 0, none⟩ C.toList.length).run P w = .ok C w := run_loadCells_list (P := P) w ⟨E.blk b', 0, none⟩ C.toList fun j v hv => by
          rw [add_at, q3.cell, Nat.zero_add]
          simpa using hv
        rw [q4.len, ← h1] at hl
        exact ⟨.agg C, at_ a w hu (by simp [Instr.loadAt, Instr.sureAddr, loadVar, ha, hz, hl]), .aggI q4⟩
    · exact h.elim
  · rename_i b k i j hx
    split at h
    · rename_i b' e k' l hb
      obtain ⟨rfl, cs, hi, h⟩ := h
      obtain ⟨r, h1, h2⟩ := rdI_run ht h
      refine ⟨_, _, h1, QSnd.pure_ fun V w0 n E σ a w hs hL hB => ?_⟩
      have hv := hL x
      rw [hx] at hv
      generalize hu : a.eval x = u at hv
      cases hv
      obtain ⟨q1, q2⟩ := hB b _ hb
      obtain rfl : b' = b := q2
      obtain ⟨q3, q4⟩ := hs.holds _ q1
      rcases q3.forms with ⟨_, e0⟩ | ⟨g, cc, hg, hg1, hg2⟩
      · rw [e0] at hi; simp at hi
      · have hgb : g = E.blk b' := q4 g (by rw [hg]; rfl)
        subst hgb
        rw [hg] at q3
        obtain ⟨vs, r1, r2, r3⟩ := q3.at_ hi
        obtain ⟨v, h3, h4⟩ := h2 E (vis V w0 w (owns E σ.bk)) w (E.blk b') (i * k' + j) (fun jj => (vs[j + jj]?).getD undef) (fun jj u hjj => by
          rw [List.getElem?_drop] at hjj
          have hlt : j + jj < vs.length := by rw [r1.len]; exact (List.getElem?_eq_some_iff.1 hjj).1
          have := r3 (j + jj) _ (List.getElem?_eq_getElem hlt)
          rw [← Nat.add_assoc] at this
          rw [this, List.getElem?_eq_getElem hlt]; rfl) fun jj u hjj => by
          rw [List.getElem?_drop] at hjj
          have hlt : j + jj < vs.length := by rw [r1.len]; exact (List.getElem?_eq_some_iff.1 hjj).1
          simp only [List.getElem?_eq_getElem hlt, Option.getD_some]
          exact r1.get (List.getElem?_eq_getElem hlt) hjj
        exact ⟨v, at_ a w hu h3, h4⟩
    · exact h.elim
  · exact h.elim
end
end Go.Proofs.YtdbeoigbkkdpdaaGreatDoor
