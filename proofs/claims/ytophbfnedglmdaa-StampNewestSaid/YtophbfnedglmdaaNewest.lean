/- Contracts of the newest of any stamps: the program's and the reference's are one. -/
import Derived.Test.YtophbfnedglmdaaTypes
import Derived.Test.YtophbfnedglmdaaStamp
namespace Go.Proofs.Ytophbfnedglmdaa
open Go.ChangeShapes Go.WideShapes Go.ChangeAt Go.RowKit

def cmpT (s t : Stamp) : Int := cmpS s.count s.node t.count t.node
def later (s t : Stamp) : Stamp := if cmpT s t < 0 then t else s
def newestOf : List Stamp → Stamp
  | [] => ⟨0, 0⟩
  | x :: xs => xs.foldl later x
theorem newestOf_snoc (l : List Stamp) (x : Stamp) : newestOf (l ++ [x]) = if l = [] then x else later (newestOf l) x := by
  cases l with
  | nil => rfl
  | cons y ys => simp [newestOf]
theorem take_snoc {α : Type} {l : List α} {m : Nat} {x : α} (h : l[m]? = some x) : l.take (m + 1) = l.take m ++ [x] := by
  rw [List.take_add_one, h]; rfl

/-- an element of a slice of stamps, in the walk's spelling -/
theorem stamps_at {w : World} {B : Nat} {v : Value} {l : List Stamp} (h : Stamps w B v l) {m : Nat} {x : Stamp} (hx : l[m]? = some x) :
    ∃ b off c, v = .slice (some ⟨b, off, none⟩) l.length c ∧ b < B ∧ w.cell? ⟨b, off + m * 2, none⟩ = some (.int .i64 x.count) ∧ w.cell? ⟨b, off + m * 2 + 1, none⟩ = some (.int .i64 x.node) ∧ I64 x.count ∧ I64 x.node := by
  obtain ⟨A, c, rfl, _, _, h3⟩ := h
  obtain ⟨b, off, rfl, hb, h4⟩ := h3 (by rintro rfl; simp at hx)
  obtain ⟨cs, ⟨rfl, i1, i2⟩, _, h5⟩ := h4 m x hx
  exact ⟨b, off, c, rfl, hb, h5 0 _ rfl, h5 1 _ rfl, i1, i2⟩

theorem stampNewest (l : List Stamp) (v : Value) (w : World) (h : Stamps w w.heap.size v l) :
    Calls Try.prog 13 #[v] w fun e w' => e = .returned (.tuple #[.agg #[.int .i64 (newestOf l).count, .int .i64 (newestOf l).node], .bool (decide (0 < l.length))]) ∧ Below w.heap.size w w' := by
  have hle := h.len_le
  obtain ⟨A, c, rfl, _⟩ := id h
  go_enter Try.func13, Try.ntmps13
  go_wp2_with fail
  go_loopw [3, 8] (fun a k wr => ∃ m : Nat, m ≤ l.length ∧ k = .int .i64 m ∧ a = .bool (decide (0 < m)) ∧ Below w.heap.size w wr ∧ Blk wr w.heap.size 23 #[.int .i64 (newestOf (l.take m)).count, .int .i64 (newestOf (l.take m)).node]) (fun _ k _ => l.length - (intOf k).toNat)
  case atStart => exact ⟨0, Nat.zero_le _, rfl, rfl, balloc (Below.refl _ _), Blk.new _ _ _⟩
  case round =>
    obtain ⟨m, hm, rfl, rfl, hb, hB⟩ := hrel
    by_cases hlt : m < l.length
    · obtain ⟨x, hx⟩ : ∃ x, l[m]? = some x := ⟨l[m], List.getElem?_eq_getElem hlt⟩
      obtain ⟨b, off, c', hv, hbb, e0, e1, _, _⟩ := stamps_at h hx
      injection hv with hv1 hv2 hv3
      subst hv1
      have f0 := (hb.cell (p := ⟨b, off + m * 2, none⟩) hbb).trans e0
      have f1 := (hb.cell (p := ⟨b, off + m * 2 + 1, none⟩) hbb).trans e1
      have hts := newestOf_snoc (l.take m) x
      rw [← take_snoc hx] at hts
      have Hts := Lib.hid hts
      clear e0 e1 hx hv2 hv3 hts
      obtain ⟨xc, xn⟩ := x
      simp only at f0 f1
      generalize hN : newestOf (l.take m) = N at *
      obtain ⟨nc, nn⟩ := N
      clear hN
      simp only at hB
      have hc0 := hB.cell 0
      have hc1 := hB.cell 1
      have hf0 := hB.frozen 0
      have hf1 := hB.frozen 1
      have hz := hB.lt
      simp only [List.getElem?_toArray, List.getElem?_cons_zero, List.getElem?_cons_succ] at hc0 hc1
      go_wp2_with fail
      case roundEnd =>
        obtain rfl : m = 0 := by omega
        refine ⟨⟨1, by omega, rfl, rfl, balloc (bset (bset hb (by simp)) (by simp)), ?_⟩, by simp [intOf]; omega⟩
        rw [Hts.out, if_pos (by simp)]
        exact ((hB.set_ 0 _).set_ 1 _).alloc
      refine (stampCompare _ _ _ _ _).mono ?_
      rintro e w1 ⟨rfl, hb1⟩
      have hm0 : ¬ m = 0 := by assumption
      have g0 : w1.cell? ⟨wr.heap.size, 0, none⟩ = some (.int .i64 xc) := kept_cell hb1 (by simp)
      have g1 : w1.cell? ⟨wr.heap.size, 1, none⟩ = some (.int .i64 xn) := kept_cell hb1 (by simp)
      have hB1 := hB.alloc.next hb1
      have hbw := bnext (balloc hb) hb1
      clear f0 f1 hB hb hc0 hc1 hf0 hf1 hz hb1
      have hc0 := hB1.cell 0
      have hc1 := hB1.cell 1
      have hf0 := hB1.frozen 0
      have hf1 := hB1.frozen 1
      have hz := hB1.lt
      simp only [List.getElem?_toArray, List.getElem?_cons_zero, List.getElem?_cons_succ] at hc0 hc1
      have hneg := Lib.hid (cmpS_neg nc nn xc xn)
      have hmz : ((m : Int) == 0) = false := by simp; omega
      go_wp2_with fail
      all_goals
        have hne : ¬ l.take m = [] := by
          intro h0
          have := congrArg List.length h0
          rw [List.length_take, List.length_nil] at this
          omega
        have hn' := hneg.out
      · refine ⟨⟨m + 1, by omega, by go_num, by simp, bset (bset hbw (by simp)) (by simp), ?_⟩, by simp [intOf]; omega⟩
        rw [Hts.out, if_neg hne, later, cmpT, if_pos (by simp only; omega)]
        exact (hB1.set_ 0 _).set_ 1 _
      · refine ⟨⟨m + 1, by omega, by go_num, congrArg Value.bool (by rw [decide_eq_true (show 0 < m by omega), decide_eq_true (show 0 < m + 1 by omega)]), hbw, ?_⟩, by simp [intOf]; omega⟩
        rw [Hts.out, if_neg hne, later, cmpT, if_neg (by simp only; omega)]
        exact hB1
    · have hml : m = l.length := by omega
      have HM := Lib.hid hml
      clear hml
      have hc0 := hB.cell 0
      have hc1 := hB.cell 1
      have hf0 := hB.frozen 0
      have hf1 := hB.frozen 1
      have hz := hB.lt
      simp only [List.getElem?_toArray, List.getElem?_cons_zero, List.getElem?_cons_succ] at hc0 hc1
      go_wp2_with fail
      have hB2 := (hB.set_ 0 (.int .i64 (newestOf (l.take m)).count)).set_ 1 (.int .i64 (newestOf (l.take m)).node)
      have k0 := hB2.cell 0
      have k1 := hB2.cell 1
      simp only [List.setIfInBounds_toArray, List.set_cons_zero, List.set_cons_succ, List.getElem?_toArray, List.getElem?_cons_zero, List.getElem?_cons_succ] at k0 k1
      refine ⟨rfl, _, by simp [results, Try.results13, go_sem, k0, k1]; rfl, ?_, bset (bset hb (by simp)) (by simp)⟩
      rw [HM.out, List.take_length]

theorem refNewest (l : List Stamp) (v : Value) (w : World) (h : Stamps w w.heap.size v l) :
    Calls Try.prog 14 #[v] w fun e w' => e = .returned (.tuple #[.agg #[.int .i64 (newestOf l).count, .int .i64 (newestOf l).node], .bool (decide (0 < l.length))]) ∧ Below w.heap.size w w' := by
  have hle := h.len_le
  obtain ⟨A, c, rfl, _⟩ := id h
  cases l with
  | nil =>
    go_enter Try.func14, Try.ntmps14
    go_wp2
    refine ⟨rfl, _, by simp [results, Try.results14, go_sem]; rfl, by simp [newestOf], balloc (Below.refl _ _)⟩
  | cons x0 xs =>
    obtain ⟨b, off, c', hv, hbb, e0, e1, _, _⟩ := stamps_at h (m := 0) rfl
    injection hv with hv1 hv2 hv3
    subst hv1
    simp only [Nat.zero_mul, Nat.add_zero] at e0 e1
    have hp : 0 < (x0 :: xs).length := by simp
    generalize hL : x0 :: xs = l at *
    have hL0 : newestOf (l.take 1) = x0 := by subst hL; rfl
    have HL := Lib.hid hL0
    clear hv2 hv3 hL hL0
    have hnz : ((l.length : Int) == 0) = false := by rw [beq_eq_false_iff_ne]; omega
    go_enter Try.func14, Try.ntmps14
    go_wp2_with fail
    go_loopw [5] (fun k wr => ∃ m : Nat, 1 ≤ m ∧ m ≤ l.length ∧ k = .int .i64 m ∧ Below w.heap.size w wr ∧ Blk wr w.heap.size 23 #[.int .i64 0, .int .i64 0] ∧ Blk wr (w.heap.size + 1) 23 #[.int .i64 (newestOf (l.take m)).count, .int .i64 (newestOf (l.take m)).node]) (fun k _ => l.length - (intOf k).toNat)
    case atStart =>
      refine ⟨1, by omega, by omega, rfl, balloc (balloc (Below.refl _ _)), (Blk.new _ _ _).alloc, ?_⟩
      rw [HL.out]
      exact Blk.new_at (by simp)
    case round =>
      obtain ⟨m, hm1, hm, rfl, hb, hB, hS⟩ := hrel
      clear e0 e1
      by_cases hlt : m < l.length
      · obtain ⟨x, hx⟩ : ∃ x, l[m]? = some x := ⟨l[m], List.getElem?_eq_getElem hlt⟩
        obtain ⟨b', off', c'', hv, hbb', e0, e1, _, _⟩ := stamps_at h hx
        injection hv with hv1 hv2 hv3
        injection hv1 with hv1
        injection hv1 with hv4 hv5
        subst hv4 hv5
        have f0 := (hb.cell (p := ⟨b, off + m * 2, none⟩) hbb).trans e0
        have f1 := (hb.cell (p := ⟨b, off + m * 2 + 1, none⟩) hbb).trans e1
        have hts := newestOf_snoc (l.take m) x
        rw [← take_snoc hx] at hts
        have hne : ¬ l.take m = [] := by
          intro h0
          have := congrArg List.length h0
          rw [List.length_take, List.length_nil] at this
          omega
        rw [if_neg hne] at hts
        have Hts := Lib.hid hts
        clear e0 e1 hx hv2 hv3 hts hne
        obtain ⟨xc, xn⟩ := x
        simp only at f0 f1
        generalize hN : newestOf (l.take m) = N at *
        obtain ⟨nc, nn⟩ := N
        clear hN
        simp only at hS
        have hc0 := hS.cell 0
        have hc1 := hS.cell 1
        have hf0 := hS.frozen 0
        have hf1 := hS.frozen 1
        have hz := hS.lt
        simp only [List.getElem?_toArray, List.getElem?_cons_zero, List.getElem?_cons_succ] at hc0 hc1
        go_wp2_with fail
        go_region_held3 (fun w' => w'.cell? ⟨w.heap.size + 1, 0, none⟩ = some (.int .i64 nc) ∧ w'.cell? ⟨w.heap.size + 1, 1, none⟩ = some (.int .i64 nn) ∧ w'.cell? ⟨b, off + m * 2, none⟩ = some (.int .i64 xc) ∧ w'.cell? ⟨b, off + m * 2 + 1, none⟩ = some (.int .i64 xn)) (first | go_keep | ((refine ⟨?_, ?_, ?_, ?_⟩) <;> (refine kept_cell (by assumption) ?_; simp [*])))
          (first | (go_at_call 10; refine (refCompare _ _ _ _ _).mono ?_; rintro e w1 ⟨rfl, hb1⟩))
        rename_i hh
        obtain ⟨_, _, j0, j1⟩ := hh
        have hS1 := hS.drew.next hb1
        have hB1 := hB.drew.next hb1
        have hbw := bnext hb.drew hb1
        clear f0 f1 hB hS hb hc0 hc1 hf0 hf1 hz hb1
        have hc0 := hS1.cell 0
        have hc1 := hS1.cell 1
        have hf0 := hS1.frozen 0
        have hf1 := hS1.frozen 1
        have hz := hS1.lt
        simp only [List.getElem?_toArray, List.getElem?_cons_zero, List.getElem?_cons_succ] at hc0 hc1
        go_wp2_with fail
        · refine ⟨⟨m + 1, by omega, by omega, by go_num, bset (bset hbw (by simp)) (by simp), (hB1.far (by simp) _).far (by simp) _, ?_⟩, by simp [intOf]; omega⟩
          rw [Hts.out, later, cmpT, if_pos (by simp only; omega)]
          exact (hS1.set_ 0 _).set_ 1 _
        · refine ⟨⟨m + 1, by omega, by omega, by go_num, hbw, hB1, ?_⟩, by simp [intOf]; omega⟩
          rw [Hts.out, later, cmpT, if_neg (by simp only; omega)]
          exact hS1
      · have hml : m = l.length := by omega
        have HM := Lib.hid hml
        clear hml
        have hc0 := hS.cell 0
        have hc1 := hS.cell 1
        have hf0 := hB.frozen 0
        have hf1 := hB.frozen 1
        have d0 := hB.cell 0
        have d1 := hB.cell 1
        have hz := hS.lt
        simp only [List.getElem?_toArray, List.getElem?_cons_zero, List.getElem?_cons_succ] at hc0 hc1 d0 d1
        go_wp2_with fail
        have hB2 := (hB.set_ 0 (.int .i64 (newestOf (l.take m)).count)).set_ 1 (.int .i64 (newestOf (l.take m)).node)
        have k0 := hB2.cell 0
        have k1 := hB2.cell 1
        simp only [List.setIfInBounds_toArray, List.set_cons_zero, List.set_cons_succ, List.getElem?_toArray, List.getElem?_cons_zero, List.getElem?_cons_succ] at k0 k1
        refine ⟨rfl, _, by simp [results, Try.results14, go_sem, k0, k1]; rfl, ?_, bset (bset hb (by simp)) (by simp)⟩
        rw [HM.out, List.take_length, decide_eq_true hp]
end Go.Proofs.Ytophbfnedglmdaa
