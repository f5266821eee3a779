/- Contracts of sets of objects: tidy, what is in it, the same, copies. -/
import Derived.Test.YtmdeokneablgaaaDoorSpanLaw
import Derived.Test.YtmdeokneablgaaaDoorVec
import Derived.Test.YtmdeokneablgaaaDoorArr
import Derived.Test.YtmdeokneablgaaaDoorOwn
import Derived.StillTailTactics
namespace Go.Proofs.YtmdeokneablgaaaDoor
open Go.ChangeShapes Go.WideShapes Go.ChangeAt Go.RowKit

def SpanR (cs : List Value) (s : Span) : Prop := cs = [.int .i64 s.lo, .int .i64 s.hi] ∧ I64 s.lo ∧ I64 s.hi
theorem opens_span {w : World} : Opens Tryd.prog w 33 2 SpanR := by
  intro H enc fuel cs x h
  obtain ⟨hl, n, hf⟩ := struct_pieces Tryd.underlying33 h
  have hk : Tryd.prog.cellsOf 33 = 2 := by kernel_rfl
  have hi : Tryd.prog.cellsOf 3 = 1 := by kernel_rfl
  rw [hk] at hl
  refine ⟨hl, ?_⟩
  match cs, hl with
  | [v0, v1], _ =>
    obtain ⟨y0, h0⟩ := hf 0 3 0 1 rfl hi
    obtain ⟨y1, h1⟩ := hf 1 3 1 1 rfl hi
    obtain ⟨_, a, e0, ia⟩ := opens_int (w := w) Tryd.underlying3 H enc n _ _ h0
    obtain ⟨_, b, e1, ib⟩ := opens_int (w := w) Tryd.underlying3 H enc n _ _ h1
    simp at e0 e1
    subst e0 e1
    exact ⟨⟨a, b⟩, rfl, ia, ib⟩
abbrev Spans := Sl SpanR 2
theorem opens_spans {w : World} : Opens Tryd.prog w 28 1 (fun cs l => ∃ v, cs = [v] ∧ Spans w w.heap.size v l) :=
  opens_slice Tryd.underlying28 (by kernel_rfl) (by omega) opens_span
theorem spanR_one : ∀ cs x, SpanR cs x → ∀ u ∈ cs, u.oneCell' = true := by
  rintro cs x ⟨rfl, _⟩ u hu
  simp at hu
  rcases hu with rfl | rfl <;> rfl
theorem infoSpan : (Tryd.prog.info? 33).map (fun i => (i.zero, i.size, i.bytes)) = some (some (.agg #[.int .i64 0, .int .i64 0]), 2, 16) := by kernel_rfl

/-- an element of a slice of spans, in the walk's spelling -/
theorem spans_at {w : World} {B : Nat} {v : Value} {l : List Span} (h : Spans w B v l) {m : Nat} {x : Span} (hx : l[m]? = some x) :
    ∃ b off c, v = .slice (some ⟨b, off, none⟩) l.length c ∧ b < B ∧ w.cell? ⟨b, off + m * 2, none⟩ = some (.int .i64 x.lo) ∧ w.cell? ⟨b, off + m * 2 + 1, none⟩ = some (.int .i64 x.hi) ∧ I64 x.lo ∧ I64 x.hi := by
  obtain ⟨A, c, rfl, _, _, h3⟩ := h
  obtain ⟨b, off, rfl, hb, h4⟩ := h3 (by rintro rfl; simp at hx)
  obtain ⟨cs, ⟨rfl, i1, i2⟩, _, h5⟩ := h4 m x hx
  exact ⟨b, off, c, rfl, hb, h5 0 _ rfl, h5 1 _ rfl, i1, i2⟩

set_option maxHeartbeats 400000 in
theorem spanFormedWalk (l : List Span) (v : Value) (w : World) (h : Spans w w.heap.size v l) :
    Calls Tryd.prog 54 #[v] w fun e w' => e = .returned (.bool (spanFormed l)) ∧ Below w.heap.size w w' := by
  have hle := h.len_le
  obtain ⟨A, c, rfl, _⟩ := id h
  go_enter Tryd.func54, Tryd.ntmps54
  go_wp2_with fail
  go_loopw [3, 8] (fun a k wr => ∃ (m : Nat) (e : Int), m ≤ l.length ∧ k = .int .i64 m ∧ a = .int .i64 e ∧ -2 ≤ e ∧ e ≤ 255 ∧ spanFormed l = formedFrom e (l.drop m) ∧ Below w.heap.size w wr) (fun _ k _ => l.length - (intOf k).toNat)
  case atStart => exact ⟨0, -2, Nat.zero_le _, rfl, rfl, by omega, by omega, rfl, Below.refl _ _⟩
  case round =>
    obtain ⟨m, e, hm, rfl, rfl, he1, he2, hv, hb⟩ := hrel
    by_cases hlt : m < l.length
    · obtain ⟨x, hx⟩ : ∃ x, l[m]? = some x := ⟨l[m], List.getElem?_eq_getElem hlt⟩
      obtain ⟨b, off, c', hv', hbb, e0, e1, _, _⟩ := spans_at h hx
      injection hv' with hv1 hv2 hv3
      subst hv1
      have f0 := (hb.cell (p := ⟨b, off + m * 2, none⟩) hbb).trans e0
      have f1 := (hb.cell (p := ⟨b, off + m * 2 + 1, none⟩) hbb).trans e1
      rw [drop_cons hx, formedFrom] at hv
      obtain ⟨lo, hi⟩ := x
      simp only at f0 f1 hv
      have HV := Lib.hid hv
      clear hv hv2 hv3 e0 e1 hx
      go_wp2_with fail
      all_goals first
        | (go_ret
           refine ⟨ret_bool ?_, balloc hb⟩
           rw [HV.out, decide_eq_false (by omega)]; rfl)
        | (refine ⟨⟨m + 1, hi, by omega, by go_num, rfl, by omega, by omega, ?_, balloc hb⟩, by simp [intOf]; omega⟩
           rw [HV.out, decide_eq_true (by omega)]; rfl)
    · obtain rfl : m = l.length := by omega
      rw [List.drop_length] at hv
      have HV := Lib.hid hv
      clear hv
      go_wp2_with fail
      go_ret
      exact ⟨ret_bool HV.out.symm, hb⟩

theorem refSpanSame (l m : List Span) (v u : Value) (w : World) (h : Spans w w.heap.size v l) (h' : Spans w w.heap.size u m) :
    Calls Tryd.prog 37 #[v, u] w fun e w' => e = .returned (.bool (decide (l = m))) ∧ Below w.heap.size w w' := by
  have hle := h.len_le
  have hle' := h'.len_le
  obtain ⟨A, c, rfl, _⟩ := id h
  obtain ⟨A', c', rfl, _⟩ := id h'
  by_cases hlen : l.length = m.length
  · have Hlen := Lib.hid hlen
    have ht : ((l.length : Int) != (m.length : Int)) = false := by rw [hlen]; simp
    clear hlen
    go_enter Tryd.func37, Tryd.ntmps37
    go_wp2_with fail
    go_loopw [5] (fun k wr => ∃ n : Nat, n ≤ l.length ∧ k = .int .i64 n ∧ l.take n = m.take n ∧ Below w.heap.size w wr) (fun k _ => l.length - (intOf k).toNat)
    case atStart => exact ⟨0, Nat.zero_le _, rfl, rfl, Below.refl _ _⟩
    case round =>
      obtain ⟨n, hn, rfl, ht2, hb⟩ := hrel
      have Ht := Lib.hid ht2
      clear ht2 ht
      by_cases hlt : n < l.length
      · obtain ⟨x, hx⟩ : ∃ x, l[n]? = some x := ⟨l[n], List.getElem?_eq_getElem hlt⟩
        obtain ⟨y, hy⟩ : ∃ y, m[n]? = some y := ⟨m[n]'(by have := Hlen.out; omega), List.getElem?_eq_getElem (by have := Hlen.out; omega)⟩
        obtain ⟨b, off, _, hv, hbb, e0, e1, _, _⟩ := spans_at h hx
        obtain ⟨b', off', _, hv', hbb', e0', e1', _, _⟩ := spans_at h' hy
        injection hv with hv1 hv2 hv3
        injection hv' with hv1' hv2' hv3'
        subst hv1 hv1'
        have f0 := (hb.cell (p := ⟨b, off + n * 2, none⟩) hbb).trans e0
        have f1 := (hb.cell (p := ⟨b, off + n * 2 + 1, none⟩) hbb).trans e1
        have f0' := (hb.cell (p := ⟨b', off' + n * 2, none⟩) hbb').trans e0'
        have f1' := (hb.cell (p := ⟨b', off' + n * 2 + 1, none⟩) hbb').trans e1'
        have Hx := Lib.hid hx
        have Hy := Lib.hid hy
        have i1 : (n : Int) < (l.length : Int) := by omega
        have i2 : (n : Int) < (m.length : Int) := by have := Hlen.out; omega
        clear hv2 hv3 hv2' hv3' e0 e1 e0' e1' hx hy
        obtain ⟨xl, xh⟩ := x
        obtain ⟨yl, yh⟩ := y
        simp only at f0 f1 f0' f1'
        by_cases p1 : xl = yl
        · subst p1
          by_cases p2 : xh = yh
          · subst p2
            go_wp2_with fail
            go_quiet (fail)
            go_wp2_with fail
            refine ⟨⟨n + 1, by omega, by go_num, ?_, bdrewN hb _⟩, by simp [intOf]; omega⟩
            rw [take_snoc Hx.out, take_snoc Hy.out, Ht.out]
          · have Hres : Hid (decide (l = m) = false) := by
              refine decide_eq_false fun e => ?_
              have := Hx.out
              rw [e, Hy.out] at this
              simp at this
              exact p2 this.symm
            go_wp2_with fail
            go_quiet (fail)
            go_wp2_with fail
            go_ret
            exact ⟨ret_bool Hres.out.symm, bdrewN hb _⟩
        · have Hres : Hid (decide (l = m) = false) := by
            refine decide_eq_false fun e => ?_
            have := Hx.out
            rw [e, Hy.out] at this
            simp at this
            exact p1 this.1.symm
          go_wp2_with fail
          go_quiet (fail)
          go_wp2_with fail
          go_ret
          exact ⟨ret_bool Hres.out.symm, bdrewN hb _⟩
      · obtain rfl : n = l.length := by omega
        have Hres : Hid (decide (l = m) = true) := by
          refine decide_eq_true ?_
          have := Ht.out
          rwa [List.take_length, Hlen.out, List.take_length] at this
        go_wp2_with fail
        go_ret
        exact ⟨ret_bool Hres.out.symm, hb⟩
  · have ht : ((l.length : Int) != (m.length : Int)) = true := by simp; omega
    have Hres : Hid (decide (l = m) = false) := decide_eq_false fun e => hlen (by rw [e])
    clear hlen
    go_enter Tryd.func37, Tryd.ntmps37
    go_wp2_with fail
    go_ret
    exact ⟨ret_bool Hres.out.symm, Below.refl _ _⟩
end Go.Proofs.YtmdeokneablgaaaDoor
