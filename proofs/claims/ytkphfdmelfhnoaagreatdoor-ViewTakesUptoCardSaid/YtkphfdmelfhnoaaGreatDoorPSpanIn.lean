/- Contracts of the program's membership in a set: the closure, the library's IndexFunc and ContainsFunc at spans. -/
import Derived.Test.YtkphfdmelfhnoaaGreatDoorPSpanSet
set_option linter.all false
set_option linter.unnecessarySimpa false
set_option linter.unusedSimpArgs false
set_option linter.unusedVariables false
namespace Go.Proofs.YtkphfdmelfhnoaaGreatDoor
open Go.ChangeShapes Go.WideShapes Go.ChangeAt Go.RowKit
theorem refSpanFormed (l : List Span) (v : Value) (w : World) (h : Spans w w.heap.size v l) :
  Calls Tryz.prog 137 #[v] w fun e w' => e = .returned (.bool (spanFormed l)) ∧ Below w.heap.size w w' := by
 have hle := h.len_le
 obtain ⟨A, c, rfl, _⟩ := id h
 by_cases hlt : l.length ≤ 128
 ·have hres : decide (l = ofSet fun o => memB l o) = spanFormed l := by
   rw [Bool.eq_iff_iff, spanFormed_iff, decide_eq_true_eq]
   exact ⟨fun h => ⟨hlt, h⟩, fun h => h.2⟩
  have Hres := Lib.hid hres
  have hi : (l.length : Int) ≤ 128 := by omega
  clear hres
  go_enter Tryz.func137, Tryz.ntmps137
  go_wp2_with fail
  refine (refSet l _ _ h).mono ?_
  rintro e w1 ⟨rfl, hb1⟩
  go_wp2_with fail
  refine (refOf _ _).mono ?_
  rintro e w2 ⟨⟨v2, rfl, hown⟩, hb2⟩
  go_wp2_with fail
  refine (refSpanSame l _ _ _ _ ((h.next hb1).next hb2) hown.sl).mono ?_
  rintro e w3 ⟨rfl, hb3⟩
  have k3 := bnext (bnext hb1 hb2) hb3
  clear hown hb1 hb2 hb3 h
  rw [Hres.out]
  go_wp2_with fail
  go_ret
  exact ⟨rfl, k3⟩
 ·have Hres : Hid (spanFormed l = false) := by
   rw [Bool.eq_false_iff]
   intro h
   exact hlt ((spanFormed_iff l).1 h).1
  have hi : 128 < (l.length : Int) := by omega
  go_enter Tryz.func137, Tryz.ntmps137
  go_wp2_with fail
  go_ret
  exact ⟨ret_bool Hres.out.symm, Below.refl _ _⟩
def spanHas (l : List Span) (o : Int) : Bool := decide (0 ≤ o ∧ o ≤ 255) && memB l o
set_option maxRecDepth 100000 in
theorem refSpanHas (l : List Span) (o : Int) (v : Value) (w : World) (h : Spans w w.heap.size v l) :
  Calls Tryz.prog 46 #[v, .int .i64 o] w fun e w' => e = .returned (.bool (spanHas l o)) ∧ Below w.heap.size w w' := by
 obtain ⟨A, c, rfl, _⟩ := id h
 by_cases h0 : 0 ≤ o ∧ o ≤ 255
 ·obtain ⟨h1, h2⟩ := h0
  have Hres := Lib.hid (show spanHas l o = memB l o by rw [spanHas, decide_eq_true ⟨h1, h2⟩, Bool.true_and])
  obtain ⟨n, rfl⟩ : ∃ n : Nat, o = n := ⟨o.toNat, by omega⟩
  have hX : ∀ u : World, (Instr.index 112 (.agg (setRow fun o => memB l o)) (.int .i64 n)).run Tryz.prog u = .ok (.bool (memB l n)) u :=
   run_index_one Tryz.underlying112 Tryz.underlying4 rfl (by kernel_rfl) (by omega) (rowOf_at (by omega))
  go_enter Tryz.func46, Tryz.ntmps46
  go_wp2_with fail
  refine (refSet l _ _ h).mono ?_
  rintro e w1 ⟨rfl, hb1⟩
  go_wp2_with fail
  go_ret
  exact ⟨ret_bool Hres.out.symm, hb1⟩
 ·have Hres := Lib.hid (show spanHas l o = false by rw [spanHas, decide_eq_false h0, Bool.false_and])
  have hc : o < 0 ∨ (0 ≤ o ∧ 255 < o) := by omega
  clear h0
  rcases hc with h1 | ⟨h1, h2⟩
  all_goals
   go_enter Tryz.func46, Tryz.ntmps46
   go_wp2_with fail
   go_ret
   exact ⟨ret_bool Hres.out.symm, Below.refl _ _⟩
theorem spans_empty (w : World) : OwnSl SpanR 2 (w.alloc (.cells #[] 78)) w.heap.size 78 (.slice (some ⟨w.heap.size, 0, none⟩) 0 0) [] :=
 ⟨[], ⟨rfl, .inr ⟨_, 0, #[], rfl, Nat.le_refl _, heap_alloc_new w _, Nat.le_refl _, Nat.zero_le _, rfl, rfl⟩⟩, rfl, Nat.zero_le _⟩
theorem refSpanCopy (l : List Span) (v : Value) (w : World) (h : Spans w w.heap.size v l) :
  Calls Tryz.prog 68 #[v] w fun e w' => (∃ v', e = .returned v' ∧ OwnSl SpanR 2 w' w.heap.size 78 v' l) ∧ Below w.heap.size w w' := by
 have hle := h.len_le
 obtain ⟨i0, hi, hz0, hz1, hz2⟩ := info_parts infoSpan
 obtain ⟨A, c, rfl, _⟩ := id h
 go_enter Tryz.func68, Tryz.ntmps68
 go_wp2_with (at_builtin; refine wpList_append_sl _ spanR_one rfl (.tmp 3) (.tmp 4) 28 rfl w.heap.size 78 i0 _ 16 Tryz.underlying28 hi hz0 hz1 hz2 rfl (by omega) _ [] rfl (spans_empty w) w.heap.size _ l rfl (h.keep (fun _ _ h => h) (Nat.le_refl _) (fun p hp => World.cell?_alloc_lt _ _ _ hp)) (by simp only [List.length_nil]; omega) (by omega) (by simp) ?_; intro v1 w1 hown hgr hat)
 simp only [List.nil_append] at hown
 have hb1 : Below w.heap.size w w1 := (balloc (Below.refl _ _)).grown hgr (by simp) (fun k hk => Nat.le_of_eq (Option.some.inj hk))
 have H1 := Lib.hid hown
 clear hown hgr hat hi hz0 hz1 hz2
 go_wp2_with fail
 go_ret
 exact ⟨⟨_, rfl, H1.out⟩, hb1⟩
def idxFrom {α : Type} (p : α → Bool) : Nat → List α → Int
 | _, [] => -1
 | i, x :: l => if p x then i else idxFrom p (i + 1) l
theorem idxFrom_any {α : Type} (p : α → Bool) : ∀ (l : List α) (i : Nat), decide (0 ≤ idxFrom p i l) = l.any p
 | [], _ => rfl
 | x :: l, i => by
  rw [idxFrom, List.any_cons]
  cases h : p x with
  | true => rw [if_pos rfl, Bool.true_or, decide_eq_true (by omega)]
  | false => rw [if_neg (by simp), Bool.false_or]; exact idxFrom_any p l (i + 1)
def inSpan (o : Int) (s : Span) : Bool := decide (s.lo ≤ o) && decide (o ≤ s.hi)
theorem memB_any (l : List Span) (o : Int) : memB l o = l.any (inSpan o) := rfl
theorem spanHas1 (o : Int) (s : Span) (B : Nat) (w : World) (h : w.cell? ⟨B, 0, none⟩ = some (.int .i64 o)) :
  Calls Tryz.prog 180 #[.agg #[.int .i64 s.lo, .int .i64 s.hi], .pointer (some ⟨B, 0, none⟩)] w fun e w' => e = .returned (.bool (inSpan o s)) ∧ Below w.heap.size w w' := by
 obtain ⟨lo, hi⟩ := s
 have c0 := kept_cell (balloc (o := .cells #[.int .i64 lo, .int .i64 hi] 78) (Below.refl _ w)) h
 have hB := World.block_lt_of_cell? _ _ h
 simp only at hB
 go_enter Tryz.func180, Tryz.ntmps180
 go_wp2_with fail
 all_goals
  go_ret
  refine ⟨ret_bool ?_, balloc (Below.refl _ _)⟩
  simp [inSpan] <;> omega
def hasFn (B : Nat) : Value := .func (.func 180) #[] #[.pointer (some ⟨B, 0, none⟩)]
theorem spanIndexFunc (o : Int) (l : List Span) (B : Nat) (v : Value) (w : World) (h : Spans w w.heap.size v l) (ho : w.cell? ⟨B, 0, none⟩ = some (.int .i64 o)) :
  Calls Tryz.prog 229 #[v, hasFn B] w fun e w' => e = .returned (.int .i64 (idxFrom (inSpan o) 0 l)) ∧ Below w.heap.size w w' := by
 have hle := h.len_le
 obtain ⟨A, c, rfl, _⟩ := id h
 have Ho := Lib.hid ho
 clear ho
 unfold hasFn
 go_enter Tryz.func229, Tryz.ntmps229
 go_wp2_with fail
 go_loopw [8] (fun k wr => ∃ m : Nat, m ≤ l.length ∧ k = .int .i64 m ∧ idxFrom (inSpan o) 0 l = idxFrom (inSpan o) m (l.drop m) ∧ Below w.heap.size w wr) (fun k _ => l.length - (intOf k).toNat)
 case atStart => exact ⟨0, Nat.zero_le _, rfl, rfl, Below.refl _ _⟩
 case round =>
  obtain ⟨m, hm, rfl, hv, hb⟩ := hrel
  by_cases hlt : m < l.length
  ·obtain ⟨x, hx⟩ : ∃ x, l[m]? = some x := ⟨l[m], List.getElem?_eq_getElem hlt⟩
   obtain ⟨b, off, c', hv', hbb, e0, e1, _, _⟩ := spans_at h hx
   injection hv' with hv1 hv2 hv3
   subst hv1
   have f0 := (hb.cell (p := ⟨b, off + m * 2, none⟩) hbb).trans e0
   have f1 := (hb.cell (p := ⟨b, off + m * 2 + 1, none⟩) hbb).trans e1
   rw [drop_cons hx, idxFrom] at hv
   have HC := Lib.hid (spanHas1 o x B wr (kept_cell hb Ho.out))
   generalize inSpan o x = r at hv HC
   obtain ⟨lo, hi⟩ := x
   simp only at f0 f1 HC
   have HV := Lib.hid hv
   clear hv hv2 hv3 e0 e1 hx
   go_wp2_with fail
   refine HC.out.mono ?_
   rintro e w1 ⟨rfl, hb1⟩
   have k1 := bnext hb hb1
   clear hb1 HC f0 f1
   cases r <;> go_wp2_with fail
   ·refine ⟨⟨m + 1, by omega, by go_num, ?_, k1⟩, by simp [intOf]; omega⟩
    rw [HV.out, if_neg (by simp)]
   ·go_ret
    exact ⟨ret_int (by rw [HV.out]; simp), k1⟩
  ·obtain rfl : m = l.length := by omega
   rw [List.drop_length] at hv
   have HV := Lib.hid hv
   clear hv
   go_wp2_with fail
   go_ret
   exact ⟨ret_int HV.out.symm, hb⟩
theorem spanContainsFunc (o : Int) (l : List Span) (B : Nat) (v : Value) (w : World) (h : Spans w w.heap.size v l) (ho : w.cell? ⟨B, 0, none⟩ = some (.int .i64 o)) :
  Calls Tryz.prog 179 #[v, hasFn B] w fun e w' => e = .returned (.bool (memB l o)) ∧ Below w.heap.size w w' := by
 obtain ⟨A, c, rfl, _⟩ := id h
 have hany := idxFrom_any (inSpan o) l 0
 rw [← memB_any] at hany
 have HC := Lib.hid (spanIndexFunc o l B _ w h ho)
 generalize idxFrom (inSpan o) 0 l = k at hany HC
 rw [← hany]
 clear hany ho h
 unfold hasFn at *
 go_enter Tryz.func179, Tryz.ntmps179
 go_wp2_with fail
 refine HC.out.mono ?_
 rintro e w1 ⟨rfl, hb1⟩
 go_wp2_with fail
 go_ret
 exact ⟨rfl, hb1⟩
theorem spanHasWalk (l : List Span) (o : Int) (v : Value) (w : World) (h : Spans w w.heap.size v l) :
  Calls Tryz.prog 107 #[v, .int .i64 o] w fun e w' => e = .returned (.bool (spanHas l o)) ∧ Below w.heap.size w w' := by
 obtain ⟨A, c, rfl, _⟩ := id h
 have B0 := Blk.new w 3 #[.int .i64 o]
 have c0 := B0.cell 0
 simp only [List.getElem?_toArray, List.getElem?_cons_zero] at c0
 by_cases h0 : 0 ≤ o ∧ o ≤ 255
 ·obtain ⟨h1, h2⟩ := h0
  have Hres := Lib.hid (show spanHas l o = memB l o by rw [spanHas, decide_eq_true ⟨h1, h2⟩, Bool.true_and])
  have HC := Lib.hid (spanContainsFunc o l w.heap.size _ _ (h.next (balloc (o := .cells #[.int .i64 o] 3) (Below.refl _ _))) c0)
  unfold hasFn at HC
  clear h B0
  go_enter Tryz.func107, Tryz.ntmps107
  go_wp2_with fail
  refine HC.out.mono ?_
  rintro e w1 ⟨rfl, hb1⟩
  go_wp2_with fail
  go_ret
  exact ⟨ret_bool Hres.out.symm, bnext (balloc (Below.refl _ _)) hb1⟩
 ·have Hres := Lib.hid (show spanHas l o = false by rw [spanHas, decide_eq_false h0, Bool.false_and])
  have hc : o < 0 ∨ (0 ≤ o ∧ 255 < o) := by omega
  clear h0 h B0
  rcases hc with h1 | ⟨h1, h2⟩
  all_goals
   go_enter Tryz.func107, Tryz.ntmps107
   go_wp2_with fail
   go_ret
   exact ⟨ret_bool Hres.out.symm, balloc (Below.refl _ _)⟩
end Go.Proofs.YtkphfdmelfhnoaaGreatDoor
