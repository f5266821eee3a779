/- Contracts of sets of objects: tidy, what is in it, the same, copies. -/
import Derived.IntWalk
import Derived.Test.YtmdeokneablgaaaDoorPVec
import Derived.Test.YtmdeokneablgaaaDoorPArr
import Derived.Test.YtmdeokneablgaaaDoorPOwn
import Derived.StillTailTactics
/- Plain laws on sets of objects as spans: the tidy list of a set is one. No program is known here. -/
namespace Go.Proofs.YtmdeokneablgaaaDoor

structure Span where
  lo : Int
  hi : Int
  deriving DecidableEq

/-- is an object in one of them? -/
def memB (l : List Span) (o : Int) : Bool := l.any fun s => decide (s.lo ≤ o) && decide (o ≤ s.hi)
/-- tidy behind an end -/
def formedFrom : Int → List Span → Bool
  | _, [] => true
  | e, s :: l => decide (e + 1 < s.lo ∧ s.lo ≤ s.hi ∧ s.hi ≤ 255 ∧ 0 ≤ s.lo) && formedFrom s.hi l
def spanFormed (l : List Span) : Bool := formedFrom (-2) l

/-- the reference's list of a set: one object more -/
def ofStep (f : Nat → Bool) (acc : List Span) (o : Nat) : List Span :=
  if f o then
    if 0 < o ∧ f (o - 1) = true then acc.dropLast ++ [⟨(acc.getLast?.getD ⟨0, 0⟩).lo, o⟩] else acc ++ [⟨o, o⟩]
  else acc
def ofUpto (f : Nat → Bool) : Nat → List Span
  | 0 => []
  | k + 1 => ofStep f (ofUpto f k) k
def ofSet (f : Nat → Bool) : List Span := ofUpto f 256

theorem formedFrom_cons {e : Int} {s : Span} {l : List Span} : formedFrom e (s :: l) = true ↔ (e + 1 < s.lo ∧ s.lo ≤ s.hi ∧ s.hi ≤ 255 ∧ 0 ≤ s.lo) ∧ formedFrom s.hi l = true := by
  simp [formedFrom]
theorem memB_cons {s : Span} {l : List Span} {o : Int} : memB (s :: l) o = true ↔ (s.lo ≤ o ∧ o ≤ s.hi) ∨ memB l o = true := by
  simp [memB]
/-- what stands behind an end lies beyond it -/
theorem formed_beyond : ∀ {l : List Span} {e o : Int}, formedFrom e l = true → memB l o = true → e + 1 < o ∧ 0 ≤ o ∧ o ≤ 255
  | [], _, _, _, h => by simp [memB] at h
  | s :: l, e, o, hf, hm => by
    obtain ⟨h1, h2⟩ := formedFrom_cons.1 hf
    rcases memB_cons.1 hm with h | h
    · omega
    · have := formed_beyond h2 h
      omega
/-- two tidy lists of one set are one -/
theorem formed_unique : ∀ {l l' : List Span} {e : Int}, formedFrom e l = true → formedFrom e l' = true → (∀ o : Int, memB l o = true ↔ memB l' o = true) → l = l'
  | [], [], _, _, _, _ => rfl
  | [], s :: l', _, _, h', h => by
    obtain ⟨h1, _⟩ := formedFrom_cons.1 h'
    have := (h s.lo).2 (memB_cons.2 (Or.inl ⟨by omega, by omega⟩))
    simp [memB] at this
  | s :: l, [], _, h', _, h => by
    obtain ⟨h1, _⟩ := formedFrom_cons.1 h'
    have := (h s.lo).1 (memB_cons.2 (Or.inl ⟨by omega, by omega⟩))
    simp [memB] at this
  | s :: l, s' :: l', e, hf, hf', h => by
    obtain ⟨h1, h2⟩ := formedFrom_cons.1 hf
    obtain ⟨h1', h2'⟩ := formedFrom_cons.1 hf'
    have key : ∀ o : Int, memB (s :: l) o = true → s'.lo ≤ o := fun o ho => by
      rcases memB_cons.1 ((h o).1 ho) with g | g
      · omega
      · have := formed_beyond h2' g; omega
    have key' : ∀ o : Int, memB (s' :: l') o = true → s.lo ≤ o := fun o ho => by
      rcases memB_cons.1 ((h o).2 ho) with g | g
      · omega
      · have := formed_beyond h2 g; omega
    have a1 := key s.lo (memB_cons.2 (Or.inl ⟨by omega, by omega⟩))
    have a2 := key' s'.lo (memB_cons.2 (Or.inl ⟨by omega, by omega⟩))
    have hlo : s.lo = s'.lo := by omega
    have hhi : s.hi = s'.hi := by
      rcases Int.lt_trichotomy s.hi s'.hi with c | c | c
      · exfalso
        rcases memB_cons.1 ((h (s.hi + 1)).2 (memB_cons.2 (Or.inl ⟨by omega, by omega⟩))) with g | g
        · omega
        · have := formed_beyond h2 g; omega
      · exact c
      · exfalso
        rcases memB_cons.1 ((h (s'.hi + 1)).1 (memB_cons.2 (Or.inl ⟨by omega, by omega⟩))) with g | g
        · omega
        · have := formed_beyond h2' g; omega
    obtain ⟨lo, hi⟩ := s
    obtain ⟨lo', hi'⟩ := s'
    simp only at hlo hhi h2 h2' h1 h1'
    subst hlo hhi
    have hr : l = l' := formed_unique h2 h2' fun o => by
      constructor
      · intro g
        have b := formed_beyond h2 g
        rcases memB_cons.1 ((h o).1 (memB_cons.2 (Or.inr g))) with q | q
        · simp only at q; omega
        · exact q
      · intro g
        have b := formed_beyond h2' g
        rcases memB_cons.1 ((h o).2 (memB_cons.2 (Or.inr g))) with q | q
        · simp only at q; omega
        · exact q
    rw [hr]

theorem formed_snoc : ∀ {l : List Span} {e : Int} {s : Span}, formedFrom e (l ++ [s]) = true ↔ formedFrom e l = true ∧ (l.getLast?.map (·.hi)).getD e + 1 < s.lo ∧ s.lo ≤ s.hi ∧ s.hi ≤ 255 ∧ 0 ≤ s.lo
  | [], e, s => by simp [formedFrom]
  | [x], e, s => by simp [formedFrom]
  | x :: y :: l, e, s => by
    have ih := formed_snoc (l := y :: l) (e := x.hi) (s := s)
    rw [List.cons_append, formedFrom_cons, ih, formedFrom_cons (e := e) (s := x) (l := y :: l)]
    have : ((x :: y :: l).getLast?.map (·.hi)).getD e = ((y :: l).getLast?.map (·.hi)).getD x.hi := by
      rw [List.getLast?_cons_cons]
      simp [List.getLast?_cons]
    rw [this]
    exact and_assoc.symm
theorem memB_append {l m : List Span} {o : Int} : memB (l ++ m) o = (memB l o || memB m o) := by simp [memB]

/-- what holds ahead of object k -/
structure OfInv (f : Nat → Bool) (k : Nat) (l : List Span) : Prop where
  formed : formedFrom (-2) l = true
  mem : ∀ o : Nat, memB l o = true ↔ o < k ∧ f o = true
  low : ∀ o : Int, memB l o = true → 0 ≤ o
  ends : (0 < k ∧ f (k - 1) = true ∧ ∃ l' s, l = l' ++ [s] ∧ s.hi = (k : Int) - 1) ∨ ((k = 0 ∨ f (k - 1) = false) ∧ (l.getLast?.map (·.hi)).getD (-2) + 1 < (k : Int))
theorem ofUpto_inv (f : Nat → Bool) : ∀ k, k ≤ 256 → OfInv f k (ofUpto f k)
  | 0, _ => ⟨rfl, fun o => by simp [ofUpto, memB], fun o h => by simp [ofUpto, memB] at h, Or.inr ⟨Or.inl rfl, by simp [ofUpto]⟩⟩
  | k + 1, hk => by
    have ih := ofUpto_inv f k (by omega)
    show OfInv f (k + 1) (ofStep f (ofUpto f k) k)
    generalize ofUpto f k = l at ih
    obtain ⟨h1, h2, h3, h4⟩ := ih
    unfold ofStep
    cases hf : f k with
    | false =>
      simp only [Bool.false_eq_true, if_false]
      refine ⟨h1, fun o => ?_, h3, Or.inr ⟨Or.inr hf, ?_⟩⟩
      · rw [h2]
        constructor
        · rintro ⟨a, b⟩; exact ⟨by omega, b⟩
        · rintro ⟨a, b⟩
          refine ⟨?_, b⟩
          rcases Nat.lt_or_ge o k with c | c
          · exact c
          · obtain rfl : o = k := by omega
            rw [hf] at b; cases b
      · rcases h4 with ⟨a1, a2, l', s, rfl, a3⟩ | ⟨_, a2⟩
        · simp only [List.getLast?_append, List.getLast?_singleton, Option.some_or, Option.map_some, Option.getD_some]
          omega
        · omega
    | true =>
      simp only [if_true]
      rcases h4 with ⟨a1, a2, l', s, rfl, a3⟩ | ⟨a1, a2⟩
      · rw [if_pos ⟨a1, a2⟩]
        simp only [List.dropLast_concat, List.getLast?_append, List.getLast?_singleton, Option.some_or, Option.getD_some]
        obtain ⟨b1, b2, b3, b4, b5⟩ := formed_snoc.1 h1
        refine ⟨formed_snoc.2 ⟨b1, b2, by simp only; omega, by simp only; omega, b5⟩, fun o => ?_, fun o ho => ?_, Or.inl ⟨by omega, hf, l', _, rfl, by simp only; omega⟩⟩
        · have g := h2 o
          rw [memB_append] at g ⊢
          simp only [memB, List.any_cons, List.any_nil, Bool.or_false, Bool.or_eq_true, Bool.and_eq_true, decide_eq_true_eq] at g ⊢
          constructor
          · rintro (q | ⟨q1, q2⟩)
            · have := g.1 (Or.inl q)
              exact ⟨by omega, this.2⟩
            · rcases Nat.lt_or_ge o k with c | c
              · have := g.1 (Or.inr ⟨q1, by omega⟩)
                exact ⟨by omega, this.2⟩
              · obtain rfl : o = k := by omega
                exact ⟨by omega, hf⟩
          · rintro ⟨q1, q2⟩
            rcases Nat.lt_or_ge o k with c | c
            · rcases g.2 ⟨c, q2⟩ with q | ⟨q3, q4⟩
              · exact Or.inl q
              · exact Or.inr ⟨q3, by omega⟩
            · exact Or.inr ⟨by omega, by omega⟩
        · rw [memB_append] at ho
          simp only [memB, List.any_cons, List.any_nil, Bool.or_false, Bool.or_eq_true, Bool.and_eq_true, decide_eq_true_eq] at ho
          rcases ho with q | ⟨q1, q2⟩
          · exact h3 o (by rw [memB_append]; simp only [memB] at q ⊢; rw [q]; rfl)
          · omega
      · have hn : ¬ (0 < k ∧ f (k - 1) = true) := by
          rintro ⟨c1, c2⟩
          rcases a1 with a1 | a1
          · omega
          · rw [a1] at c2; cases c2
        rw [if_neg hn]
        refine ⟨formed_snoc.2 ⟨h1, by simp only; omega, by simp, by simp only; omega, by simp only; omega⟩, fun o => ?_, fun o ho => ?_, Or.inl ⟨by omega, hf, l, _, rfl, by simp only; omega⟩⟩
        · rw [memB_append]
          have g := h2 o
          simp only [memB, List.any_cons, List.any_nil, Bool.or_false, Bool.or_eq_true, Bool.and_eq_true, decide_eq_true_eq] at g ⊢
          constructor
          · rintro (q | ⟨q1, q2⟩)
            · have := g.1 q
              exact ⟨by omega, this.2⟩
            · obtain rfl : o = k := by omega
              exact ⟨by omega, hf⟩
          · rintro ⟨q1, q2⟩
            rcases Nat.lt_or_ge o k with c | c
            · exact Or.inl (g.2 ⟨c, q2⟩)
            · exact Or.inr ⟨by omega, by omega⟩
        · rw [memB_append] at ho
          simp only [memB, List.any_cons, List.any_nil, Bool.or_false, Bool.or_eq_true, Bool.and_eq_true, decide_eq_true_eq] at ho
          rcases ho with q | ⟨q1, q2⟩
          · exact h3 o q
          · omega

theorem ofSet_formed (f : Nat → Bool) : spanFormed (ofSet f) = true := (ofUpto_inv f 256 (by omega)).formed
theorem ofSet_mem (f : Nat → Bool) (o : Nat) : memB (ofSet f) o = true ↔ o < 256 ∧ f o = true := (ofUpto_inv f 256 (by omega)).mem o
/-- each span takes an object, and one between two -/
theorem formed_length : ∀ {l : List Span} {e : Int}, formedFrom e l = true → -2 ≤ e → e ≤ 255 → e + 2 * (l.length : Int) ≤ 255
  | [], e, _, _, _ => by simp; omega
  | s :: l, e, h, he, _ => by
    obtain ⟨h1, h2⟩ := formedFrom_cons.1 h
    have := formed_length h2 (by omega) (by omega)
    simp only [List.length_cons, Int.natCast_add, Int.natCast_one]
    omega
/-- tidy just if it is the list of its own set, and no longer than can be -/
theorem spanFormed_iff (l : List Span) : spanFormed l = true ↔ l.length ≤ 128 ∧ l = ofSet (fun o => memB l (o : Int)) := by
  constructor
  · intro h
    refine ⟨by have := formed_length (e := -2) h (by omega) (by omega); omega, formed_unique (e := -2) h (ofSet_formed _) fun o => ?_⟩
    constructor
    · intro g
      have b := formed_beyond (e := -2) h g
      obtain ⟨n, rfl⟩ : ∃ n : Nat, o = n := ⟨o.toNat, by omega⟩
      exact (ofSet_mem _ n).2 ⟨by omega, g⟩
    · intro g
      have b := formed_beyond (e := -2) (ofSet_formed _) g
      obtain ⟨n, rfl⟩ : ∃ n : Nat, o = n := ⟨o.toNat, by omega⟩
      exact ((ofSet_mem _ n).1 g).2
  · rintro ⟨_, h⟩
    rw [h]
    exact ofSet_formed _
end Go.Proofs.YtmdeokneablgaaaDoor
namespace Go.Proofs.YtmdeokneablgaaaDoor
open Go.ChangeShapes Go.WideShapes Go.ChangeAt Go.RowKit

def SpanR (cs : List Value) (s : Span) : Prop := cs = [.int .i64 s.lo, .int .i64 s.hi] ∧ I64 s.lo ∧ I64 s.hi
theorem opens_span {w : World} : Opens Tryd.prog w 33 2 SpanR := by
  intro H enc fuel cs x h
  obtain ⟨hl, n, hf⟩ := struct_pieces Tryd.underlying33 h
  have hk : Tryd.prog.cellsOf 33 = 2 := by kernel_rfl
  have hi : Tryd.prog.cellsOf 3 = 1 := by kernel_rfl
  rw [hk] at hl
  refine ⟨hl, ?_⟩
  match cs, hl with
  | [v0, v1], _ =>
    obtain ⟨y0, h0⟩ := hf 0 3 0 1 rfl hi
    obtain ⟨y1, h1⟩ := hf 1 3 1 1 rfl hi
    obtain ⟨_, a, e0, ia⟩ := opens_int (w := w) Tryd.underlying3 H enc n _ _ h0
    obtain ⟨_, b, e1, ib⟩ := opens_int (w := w) Tryd.underlying3 H enc n _ _ h1
    simp at e0 e1
    subst e0 e1
    exact ⟨⟨a, b⟩, rfl, ia, ib⟩
abbrev Spans := Sl SpanR 2
theorem opens_spans {w : World} : Opens Tryd.prog w 28 1 (fun cs l => ∃ v, cs = [v] ∧ Spans w w.heap.size v l) :=
  opens_slice Tryd.underlying28 (by kernel_rfl) (by omega) opens_span
theorem spanR_one : ∀ cs x, SpanR cs x → ∀ u ∈ cs, u.oneCell' = true := by
  rintro cs x ⟨rfl, _⟩ u hu
  simp at hu
  rcases hu with rfl | rfl <;> rfl
theorem infoSpan : (Tryd.prog.info? 33).map (fun i => (i.zero, i.size, i.bytes)) = some (some (.agg #[.int .i64 0, .int .i64 0]), 2, 16) := by kernel_rfl

/-- an element of a slice of spans, in the walk's spelling -/
theorem spans_at {w : World} {B : Nat} {v : Value} {l : List Span} (h : Spans w B v l) {m : Nat} {x : Span} (hx : l[m]? = some x) :
    ∃ b off c, v = .slice (some ⟨b, off, none⟩) l.length c ∧ b < B ∧ w.cell? ⟨b, off + m * 2, none⟩ = some (.int .i64 x.lo) ∧ w.cell? ⟨b, off + m * 2 + 1, none⟩ = some (.int .i64 x.hi) ∧ I64 x.lo ∧ I64 x.hi := by
  obtain ⟨A, c, rfl, _, _, h3⟩ := h
  obtain ⟨b, off, rfl, hb, h4⟩ := h3 (by rintro rfl; simp at hx)
  obtain ⟨cs, ⟨rfl, i1, i2⟩, _, h5⟩ := h4 m x hx
  exact ⟨b, off, c, rfl, hb, h5 0 _ rfl, h5 1 _ rfl, i1, i2⟩

set_option maxHeartbeats 400000 in
theorem spanFormedWalk (l : List Span) (v : Value) (w : World) (h : Spans w w.heap.size v l) :
    Calls Tryd.prog 54 #[v] w fun e w' => e = .returned (.bool (spanFormed l)) ∧ Below w.heap.size w w' := by
  have hle := h.len_le
  obtain ⟨A, c, rfl, _⟩ := id h
  go_enter Tryd.func54, Tryd.ntmps54
  go_wp2_with fail
  go_loopw [3, 8] (fun a k wr => ∃ (m : Nat) (e : Int), m ≤ l.length ∧ k = .int .i64 m ∧ a = .int .i64 e ∧ -2 ≤ e ∧ e ≤ 255 ∧ spanFormed l = formedFrom e (l.drop m) ∧ Below w.heap.size w wr) (fun _ k _ => l.length - (intOf k).toNat)
  case atStart => exact ⟨0, -2, Nat.zero_le _, rfl, rfl, by omega, by omega, rfl, Below.refl _ _⟩
  case round =>
    obtain ⟨m, e, hm, rfl, rfl, he1, he2, hv, hb⟩ := hrel
    by_cases hlt : m < l.length
    · obtain ⟨x, hx⟩ : ∃ x, l[m]? = some x := ⟨l[m], List.getElem?_eq_getElem hlt⟩
      obtain ⟨b, off, c', hv', hbb, e0, e1, _, _⟩ := spans_at h hx
      injection hv' with hv1 hv2 hv3
      subst hv1
      have f0 := (hb.cell (p := ⟨b, off + m * 2, none⟩) hbb).trans e0
      have f1 := (hb.cell (p := ⟨b, off + m * 2 + 1, none⟩) hbb).trans e1
      rw [drop_cons hx, formedFrom] at hv
      obtain ⟨lo, hi⟩ := x
      simp only at f0 f1 hv
      have HV := Lib.hid hv
      clear hv hv2 hv3 e0 e1 hx
      go_wp2_with fail
      all_goals first
        | (go_ret
           refine ⟨ret_bool ?_, balloc hb⟩
           rw [HV.out, decide_eq_false (by omega)]; rfl)
        | (refine ⟨⟨m + 1, hi, by omega, by go_num, rfl, by omega, by omega, ?_, balloc hb⟩, by simp [intOf]; omega⟩
           rw [HV.out, decide_eq_true (by omega)]; rfl)
    · obtain rfl : m = l.length := by omega
      rw [List.drop_length] at hv
      have HV := Lib.hid hv
      clear hv
      go_wp2_with fail
      go_ret
      exact ⟨ret_bool HV.out.symm, hb⟩

theorem refSpanSame (l m : List Span) (v u : Value) (w : World) (h : Spans w w.heap.size v l) (h' : Spans w w.heap.size u m) :
    Calls Tryd.prog 37 #[v, u] w fun e w' => e = .returned (.bool (decide (l = m))) ∧ Below w.heap.size w w' := by
  have hle := h.len_le
  have hle' := h'.len_le
  obtain ⟨A, c, rfl, _⟩ := id h
  obtain ⟨A', c', rfl, _⟩ := id h'
  by_cases hlen : l.length = m.length
  · have Hlen := Lib.hid hlen
    have ht : ((l.length : Int) != (m.length : Int)) = false := by rw [hlen]; simp
    clear hlen
    go_enter Tryd.func37, Tryd.ntmps37
    go_wp2_with fail
    go_loopw [5] (fun k wr => ∃ n : Nat, n ≤ l.length ∧ k = .int .i64 n ∧ l.take n = m.take n ∧ Below w.heap.size w wr) (fun k _ => l.length - (intOf k).toNat)
    case atStart => exact ⟨0, Nat.zero_le _, rfl, rfl, Below.refl _ _⟩
    case round =>
      obtain ⟨n, hn, rfl, ht2, hb⟩ := hrel
      have Ht := Lib.hid ht2
      clear ht2 ht
      by_cases hlt : n < l.length
      · obtain ⟨x, hx⟩ : ∃ x, l[n]? = some x := ⟨l[n], List.getElem?_eq_getElem hlt⟩
        obtain ⟨y, hy⟩ : ∃ y, m[n]? = some y := ⟨m[n]'(by have := Hlen.out; omega), List.getElem?_eq_getElem (by have := Hlen.out; omega)⟩
        obtain ⟨b, off, _, hv, hbb, e0, e1, _, _⟩ := spans_at h hx
        obtain ⟨b', off', _, hv', hbb', e0', e1', _, _⟩ := spans_at h' hy
        injection hv with hv1 hv2 hv3
        injection hv' with hv1' hv2' hv3'
        subst hv1 hv1'
        have f0 := (hb.cell (p := ⟨b, off + n * 2, none⟩) hbb).trans e0
        have f1 := (hb.cell (p := ⟨b, off + n * 2 + 1, none⟩) hbb).trans e1
        have f0' := (hb.cell (p := ⟨b', off' + n * 2, none⟩) hbb').trans e0'
        have f1' := (hb.cell (p := ⟨b', off' + n * 2 + 1, none⟩) hbb').trans e1'
        have Hx := Lib.hid hx
        have Hy := Lib.hid hy
        have i1 : (n : Int) < (l.length : Int) := by omega
        have i2 : (n : Int) < (m.length : Int) := by have := Hlen.out; omega
        clear hv2 hv3 hv2' hv3' e0 e1 e0' e1' hx hy
        obtain ⟨xl, xh⟩ := x
        obtain ⟨yl, yh⟩ := y
        simp only at f0 f1 f0' f1'
        by_cases p1 : xl = yl
        · subst p1
          by_cases p2 : xh = yh
          · subst p2
            go_wp2_with fail
            go_quiet (fail)
            go_wp2_with fail
            refine ⟨⟨n + 1, by omega, by go_num, ?_, bdrewN hb _⟩, by simp [intOf]; omega⟩
            rw [take_snoc Hx.out, take_snoc Hy.out, Ht.out]
          · have Hres : Hid (decide (l = m) = false) := by
              refine decide_eq_false fun e => ?_
              have := Hx.out
              rw [e, Hy.out] at this
              simp at this
              exact p2 this.symm
            go_wp2_with fail
            go_quiet (fail)
            go_wp2_with fail
            go_ret
            exact ⟨ret_bool Hres.out.symm, bdrewN hb _⟩
        · have Hres : Hid (decide (l = m) = false) := by
            refine decide_eq_false fun e => ?_
            have := Hx.out
            rw [e, Hy.out] at this
            simp at this
            exact p1 this.1.symm
          go_wp2_with fail
          go_quiet (fail)
          go_wp2_with fail
          go_ret
          exact ⟨ret_bool Hres.out.symm, bdrewN hb _⟩
      · obtain rfl : n = l.length := by omega
        have Hres : Hid (decide (l = m) = true) := by
          refine decide_eq_true ?_
          have := Ht.out
          rwa [List.take_length, Hlen.out, List.take_length] at this
        go_wp2_with fail
        go_ret
        exact ⟨ret_bool Hres.out.symm, hb⟩
  · have ht : ((l.length : Int) != (m.length : Int)) = true := by simp; omega
    have Hres : Hid (decide (l = m) = false) := decide_eq_false fun e => hlen (by rw [e])
    clear hlen
    go_enter Tryd.func37, Tryd.ntmps37
    go_wp2_with fail
    go_ret
    exact ⟨ret_bool Hres.out.symm, Below.refl _ _⟩
end Go.Proofs.YtmdeokneablgaaaDoor
