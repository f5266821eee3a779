/- Contracts of sets of objects: the reference's form and membership, a copy; the program's membership. -/
import Derived.Test.YtaiekfeiaamemaaGreatDoorPSpanSet
set_option linter.all false
set_option linter.unnecessarySimpa false
set_option linter.unusedSimpArgs false
set_option linter.unusedVariables false
namespace Go.Proofs.YtaiekfeiaamemaaGreatDoor
open Go.ChangeShapes Go.WideShapes Go.ChangeAt Go.RowKit

theorem refSpanFormed (l : List Span) (v : Value) (w : World) (h : Spans w w.heap.size v l) :
    Calls Tryz.prog 153 #[v] w fun e w' => e = .returned (.bool (spanFormed l)) ∧ Below w.heap.size w w' := by
  have hle := h.len_le
  obtain ⟨A, c, rfl, _⟩ := id h
  by_cases hlt : l.length ≤ 128
  · have hres : decide (l = ofSet fun o => memB l o) = spanFormed l := by
      rw [Bool.eq_iff_iff, spanFormed_iff, decide_eq_true_eq]
      exact ⟨fun h => ⟨hlt, h⟩, fun h => h.2⟩
    have Hres := Lib.hid hres
    have hi : (l.length : Int) ≤ 128 := by omega
    clear hres
    go_enter Tryz.func153, Tryz.ntmps153
    go_wp2_with fail
    refine (refSet l _ _ h).mono ?_
    rintro e w1 ⟨rfl, hb1⟩
    go_wp2_with fail
    refine (refOf _ _).mono ?_
    rintro e w2 ⟨⟨v2, rfl, hown⟩, hb2⟩
    go_wp2_with fail
    refine (refSpanSame l _ _ _ _ ((h.next hb1).next hb2) hown.sl).mono ?_
    rintro e w3 ⟨rfl, hb3⟩
    have k3 := bnext (bnext hb1 hb2) hb3
    clear hown hb1 hb2 hb3 h
    rw [Hres.out]
    go_wp2_with fail
    go_ret
    exact ⟨rfl, k3⟩
  · have Hres : Hid (spanFormed l = false) := by
      rw [Bool.eq_false_iff]
      intro h
      exact hlt ((spanFormed_iff l).1 h).1
    have hi : 128 < (l.length : Int) := by omega
    go_enter Tryz.func153, Tryz.ntmps153
    go_wp2_with fail
    go_ret
    exact ⟨ret_bool Hres.out.symm, Below.refl _ _⟩

/-- is an object in it? -/
def spanHas (l : List Span) (o : Int) : Bool := decide (0 ≤ o ∧ o ≤ 255) && memB l o

theorem spans_empty (w : World) : OwnSl SpanR 2 (w.alloc (.cells #[] 46)) w.heap.size 46 (.slice (some ⟨w.heap.size, 0, none⟩) 0 0) [] :=
  ⟨[], ⟨rfl, .inr ⟨_, 0, #[], rfl, Nat.le_refl _, heap_alloc_new w _, Nat.le_refl _, Nat.zero_le _, rfl, rfl⟩⟩, rfl, Nat.zero_le _⟩

theorem refSpanCopy (l : List Span) (v : Value) (w : World) (h : Spans w w.heap.size v l) :
    Calls Tryz.prog 69 #[v] w fun e w' => (∃ v', e = .returned v' ∧ OwnSl SpanR 2 w' w.heap.size 46 v' l) ∧ Below w.heap.size w w' := by
  have hle := h.len_le
  obtain ⟨i0, hi, hz0, hz1, hz2⟩ := info_parts infoSpan
  obtain ⟨A, c, rfl, _⟩ := id h
  go_enter Tryz.func69, Tryz.ntmps69
  go_wp2_with (at_builtin; refine wpList_append_sl _ spanR_one rfl (.tmp 3) (.tmp 4) 47 rfl w.heap.size 46 i0 _ 16 Tryz.underlying47 hi hz0 hz1 hz2 rfl (by omega) _ [] rfl (spans_empty w) w.heap.size _ l rfl (h.keep (fun _ _ h => h) (Nat.le_refl _) (fun p hp => World.cell?_alloc_lt _ _ _ hp)) (by simp only [List.length_nil]; omega) (by omega) (by simp) ?_; intro v1 w1 hown hgr hat)
  simp only [List.nil_append] at hown
  have hb1 : Below w.heap.size w w1 := (balloc (Below.refl _ _)).grown hgr (by simp) (fun k hk => Nat.le_of_eq (Option.some.inj hk))
  have H1 := Lib.hid hown
  clear hown hgr hat hi hz0 hz1 hz2
  go_wp2_with fail
  go_ret
  exact ⟨⟨_, rfl, H1.out⟩, hb1⟩
end Go.Proofs.YtaiekfeiaamemaaGreatDoor
