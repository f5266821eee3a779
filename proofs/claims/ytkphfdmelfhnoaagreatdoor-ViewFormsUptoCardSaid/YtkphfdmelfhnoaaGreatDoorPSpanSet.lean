/- Contracts of the reference's sets: which objects are in a list, and the list of a set. -/
import Derived.Test.YtkphfdmelfhnoaaGreatDoorPSpanLaw
import Derived.Test.YtkphfdmelfhnoaaGreatDoorPVec
import Derived.Test.YtkphfdmelfhnoaaGreatDoorPOwn
import Derived.StillTailTactics
set_option linter.all false
set_option linter.unnecessarySimpa false
set_option linter.unusedSimpArgs false
set_option linter.unusedVariables false
namespace Go.Proofs.YtkphfdmelfhnoaaGreatDoor
open Go.ChangeShapes Go.WideShapes Go.ChangeAt Go.RowKit
def SpanR (cs : List Value) (s : Span) : Prop := cs = [.int .i64 s.lo, .int .i64 s.hi] ∧ I64 s.lo ∧ I64 s.hi
theorem opens_span {w : World} : Opens Tryz.prog w 78 2 SpanR := by
 intro H enc fuel cs x h
 obtain ⟨hl, n, hf⟩ := struct_pieces Tryz.underlying78 h
 have hk : Tryz.prog.cellsOf 78 = 2 := by kernel_rfl
 have hi : Tryz.prog.cellsOf 3 = 1 := by kernel_rfl
 rw [hk] at hl
 refine ⟨hl, ?_⟩
 match cs, hl with
 | [v0, v1], _ =>
  obtain ⟨y0, h0⟩ := hf 0 3 0 1 rfl hi
  obtain ⟨y1, h1⟩ := hf 1 3 1 1 rfl hi
  obtain ⟨_, a, e0, ia⟩ := opens_int (w := w) Tryz.underlying3 H enc n _ _ h0
  obtain ⟨_, b, e1, ib⟩ := opens_int (w := w) Tryz.underlying3 H enc n _ _ h1
  simp at e0 e1
  subst e0 e1
  exact ⟨⟨a, b⟩, rfl, ia, ib⟩
abbrev Spans := Sl SpanR 2
theorem opens_spans {w : World} : Opens Tryz.prog w 28 1 (fun cs l => ∃ v, cs = [v] ∧ Spans w w.heap.size v l) :=
 opens_slice Tryz.underlying28 (by kernel_rfl) (by omega) opens_span
theorem spanR_one : ∀ cs x, SpanR cs x → ∀ u ∈ cs, u.oneCell' = true := by
 rintro cs x ⟨rfl, _⟩ u hu
 simp at hu
 rcases hu with rfl | rfl <;> rfl
theorem spans_at {w : World} {B : Nat} {v : Value} {l : List Span} (h : Spans w B v l) {m : Nat} {x : Span} (hx : l[m]? = some x) :
  ∃ b off c, v = .slice (some ⟨b, off, none⟩) l.length c ∧ b < B ∧ w.cell? ⟨b, off + m * 2, none⟩ = some (.int .i64 x.lo) ∧ w.cell? ⟨b, off + m * 2 + 1, none⟩ = some (.int .i64 x.hi) ∧ I64 x.lo ∧ I64 x.hi := by
 obtain ⟨A, c, rfl, _, _, h3⟩ := h
 obtain ⟨b, off, rfl, hb, h4⟩ := h3 (by rintro rfl; simp at hx)
 obtain ⟨cs, ⟨rfl, i1, i2⟩, _, h5⟩ := h4 m x hx
 exact ⟨b, off, c, rfl, hb, h5 0 _ rfl, h5 1 _ rfl, i1, i2⟩
set_option maxHeartbeats 400000 in
theorem spanFormedWalk (l : List Span) (v : Value) (w : World) (h : Spans w w.heap.size v l) :
    Calls Tryz.prog 123 #[v] w fun e w' => e = .returned (.bool (spanFormed l)) ∧ Below w.heap.size w w' := by
  have hle := h.len_le
  obtain ⟨A, c, rfl, _⟩ := id h
  go_enter Tryz.func123, Tryz.ntmps123
  go_wp2_with fail
  go_loopw [3, 8] (fun a k wr => ∃ (m : Nat) (e : Int), m ≤ l.length ∧ k = .int .i64 m ∧ a = .int .i64 e ∧ -2 ≤ e ∧ e ≤ 255 ∧ spanFormed l = formedFrom e (l.drop m) ∧ Below w.heap.size w wr) (fun _ k _ => l.length - (intOf k).toNat)
  case atStart => exact ⟨0, -2, Nat.zero_le _, rfl, rfl, by omega, by omega, rfl, Below.refl _ _⟩
  case round =>
    obtain ⟨m, e, hm, rfl, rfl, he1, he2, hv, hb⟩ := hrel
    by_cases hlt : m < l.length
    · obtain ⟨x, hx⟩ : ∃ x, l[m]? = some x := ⟨l[m], List.getElem?_eq_getElem hlt⟩
      obtain ⟨b, off, c', hv', hbb, e0, e1, _, _⟩ := spans_at h hx
      injection hv' with hv1 hv2 hv3
      subst hv1
      have f0 := (hb.cell (p := ⟨b, off + m * 2, none⟩) hbb).trans e0
      have f1 := (hb.cell (p := ⟨b, off + m * 2 + 1, none⟩) hbb).trans e1
      rw [drop_cons hx, formedFrom] at hv
      obtain ⟨lo, hi⟩ := x
      simp only at f0 f1 hv
      have HV := Lib.hid hv
      clear hv hv2 hv3 e0 e1 hx
      go_wp2_with fail
      all_goals first
        | (go_ret
           refine ⟨ret_bool ?_, balloc hb⟩
           rw [HV.out, decide_eq_false (by omega)]; rfl)
        | (refine ⟨⟨m + 1, hi, by omega, by go_num, rfl, by omega, by omega, ?_, balloc hb⟩, by simp [intOf]; omega⟩
           rw [HV.out, decide_eq_true (by omega)]; rfl)
    · obtain rfl : m = l.length := by omega
      rw [List.drop_length] at hv
      have HV := Lib.hid hv
      clear hv
      go_wp2_with fail
      go_ret
      exact ⟨ret_bool HV.out.symm, hb⟩
def setRow (f : Nat → Bool) : Array Value := rowOf 256 fun n => .bool (f n)
theorem setRow_size (f : Nat → Bool) : (setRow f).size = 256 := rowOf_size _ _
theorem setRow_one (f : Nat → Bool) : (setRow f).all (·.oneCell') = true := rowOf_one fun _ => rfl
theorem infoSet (f : Nat → Bool) : (Tryz.prog.info? 112).map (·.size) = some (setRow f).size := by rw [setRow_size]; kernel_rfl
theorem zeroSet : ∀ w, (zeroValue 112).run Tryz.prog w = .ok (.agg (setRow fun _ => false)) w := (zero_of_info (n := 256) (by kernel_rfl)).1
theorem setRow_set (f : Nat → Bool) (i : Nat) (b : Bool) : (setRow f).setIfInBounds i (.bool b) = setRow fun k => if k = i then b else f k := by
 rw [setRow, rowOf_set, setRow]
 refine rowOf_congr fun k _ => ?_
 by_cases h : k = i <;> simp [h]
theorem setRow_congr {f g : Nat → Bool} (h : ∀ o, o < 256 → f o = g o) : setRow f = setRow g := rowOf_congr fun o ho => by rw [h o ho]
set_option maxRecDepth 100000 in
theorem refSet (l : List Span) (v : Value) (w : World) (h : Spans w w.heap.size v l) :
  Calls Tryz.prog 59 #[v] w fun e w' => e = .returned (.agg (setRow fun o => memB l o)) ∧ Below w.heap.size w w' := by
 have hle := h.len_le
 obtain ⟨A, c, rfl, _⟩ := id h
 have hz := zeroSet
 go_enter Tryz.func59, Tryz.ntmps59
 go_wp2_with fail
 clear hz
 go_loopw [4] (fun k wr => ∃ m : Nat, m ≤ l.length ∧ k = .int .i64 m ∧ Below w.heap.size w wr ∧ Blk wr w.heap.size 112 (setRow fun _ => false) ∧ Blk wr (w.heap.size + 1) 112 (setRow fun o => memB (l.take m) o)) (fun k _ => l.length - (intOf k).toNat)
 case atStart =>
  refine ⟨0, Nat.zero_le _, rfl, balloc (balloc (Below.refl _ _)), (Blk.new _ _ _).alloc, Blk.new_at (by simp)⟩
 case round =>
  obtain ⟨m, hm, rfl, hb, hB, hC⟩ := hrel
  by_cases hlt : m < l.length
  ·obtain ⟨x, hx⟩ : ∃ x, l[m]? = some x := ⟨l[m], List.getElem?_eq_getElem hlt⟩
   obtain ⟨b, off, c', hv', hbb, e0, e1, r1, r2⟩ := spans_at h hx
   injection hv' with hv1 hv2 hv3
   subst hv1
   have f0 := (hb.cell (p := ⟨b, off + m * 2, none⟩) hbb).trans e0
   have f1 := (hb.cell (p := ⟨b, off + m * 2 + 1, none⟩) hbb).trans e1
   have ht := take_snoc hx
   obtain ⟨lo, hi⟩ := x
   simp only at f0 f1 ht r1 r2
   have r3 := r1.hi
   have r4 := r2.hi
   have r5 := r1.lo
   have r6 := r2.lo
   have Ht := Lib.hid ht
   have E0 := Lib.hid e0
   have E1 := Lib.hid e1
   clear ht hv2 hv3 e0 e1 hx r1 r2
   go_wp2_with fail
   all_goals
    clear f0 f1
    go_loopw [5] (fun k w2 => ∃ q : Int, 0 ≤ q ∧ lo ≤ q ∧ (q ≤ 0 ∨ q ≤ lo ∨ q ≤ hi + 1) ∧ q ≤ 9223372036854775807 ∧ k = .int .i64 q ∧ Below w.heap.size w w2 ∧ Blk w2 w.heap.size 112 (setRow fun _ => false) ∧ Blk w2 (w.heap.size + 1) 112 (setRow fun o => memB (l.take m) o || (decide (lo ≤ o) && decide ((o : Int) < q)))) (fun k _ => (256 - intOf k).toNat)
    case atStart =>
     refine ⟨_, ?_, ?_, ?_, ?_, rfl, hb, hB, ?_⟩
     ·omega
     ·omega
     ·omega
     ·omega
     ·refine Eq.mp (congrArg (Blk wr (w.heap.size + 1) 112) (setRow_congr fun o _ => ?_)) hC
      rw [Bool.and_eq_false_imp.2 (fun h1 => by simp only [decide_eq_true_eq] at h1; exact decide_eq_false (by omega)), Bool.or_false]
    case round =>
     obtain ⟨q, q1, q2, q3, q4, rfl, hb2, hB2, hC2⟩ := hrel
     have f0 := (hb2.cell (p := ⟨b, off + m * 2, none⟩) hbb).trans E0.out
     have f1 := (hb2.cell (p := ⟨b, off + m * 2 + 1, none⟩) hbb).trans E1.out
     by_cases hgo : q ≤ 255 ∧ q ≤ hi
     ·obtain ⟨g1, g2⟩ := hgo
      obtain ⟨n, rfl⟩ : ∃ n : Nat, q = n := ⟨q.toNat, by omega⟩
      have hn : n < 256 := by omega
      have c0 := (hC2.cell n).trans (rowOf_at hn)
      have d0 := hC2.frozen n
      go_wp2_with fail
      all_goals
       refine ⟨⟨(n : Int) + 1, by omega, by omega, by omega, by omega, rfl, bset hb2 (by simp), hB2.far (by simp) _, ?_⟩, by simp [intOf]; omega⟩
       have := hC2.set_ n (.bool true)
       rw [setRow_set] at this
       refine Eq.mp (congrArg _ (setRow_congr fun o _ => ?_)) this
       by_cases ho : o = n
       ·subst ho
        rw [if_pos rfl, decide_eq_true (p := lo ≤ (o : Int)) (by omega), decide_eq_true (p := (o : Int) < (o : Int) + 1) (by omega)]
        simp
       ·rw [if_neg ho]
        congr 2
        exact decide_eq_decide.2 ⟨fun _ => by omega, fun _ => by omega⟩
     ·have hC3 : Blk wr (w.heap.size + 1) 112 (setRow fun o => memB (l.take (m + 1)) o) := by
       refine Eq.mp (congrArg _ (setRow_congr fun o ho => ?_)) hC2
       rw [Ht.out, memB_append]
       congr 1
       simp only [memB, List.any_cons, List.any_nil, Bool.or_false]
       by_cases hlo : lo ≤ (o : Int)
       ·rw [decide_eq_true hlo, Bool.true_and, Bool.true_and]
        exact decide_eq_decide.2 ⟨fun _ => by omega, fun _ => by omega⟩
       ·rw [decide_eq_false hlo]; rfl
      clear hC2
      have hcs : hi < q ∨ (255 < q ∧ q ≤ hi) := by omega
      clear hgo
      rcases hcs with g1 | ⟨g1, g2⟩
      all_goals
       go_wp2_with fail
       all_goals first
        | (exfalso; omega)
        | exact ⟨⟨m + 1, by omega, by go_num, hb2, hB2, hC3⟩, by simp [intOf]; omega⟩
  ·obtain rfl : m = l.length := by omega
   rw [List.take_length] at hC
   go_wp2_with (first
    | (refine wpList_load_row rfl 112 (.tmp 3) rfl (w.heap.size + 1) rfl 112 _ (0, 0) _ hC.raw Tryz.underlying112 rfl (infoSet _) ?_)
    | (refine wpList_store_row rfl 112 (.tmp 2) (.tmp 30) rfl w.heap.size _ rfl rfl 112 _ hB.raw (infoSet _) ((setRow_size _).trans (setRow_size _).symm) (setRow_one _) ?_))
   exact bodyPost_ret (results_cell_row Tryz.results59 _ _ w.heap.size 112 _ (0, 0) _ rfl (hB.setRow (cs' := setRow fun o => memB l o)).raw Tryz.underlying112 rfl (infoSet _)) rfl ⟨rfl, bsetRow hb (by simp)⟩
end Go.Proofs.YtkphfdmelfhnoaaGreatDoor
