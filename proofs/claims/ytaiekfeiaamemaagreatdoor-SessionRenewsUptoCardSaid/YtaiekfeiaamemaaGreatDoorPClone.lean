/- Contracts of slices.Clone, one for each element type. -/
import Derived.Test.YtaiekfeiaamemaaGreatDoorPMsg
import Derived.Test.YtaiekfeiaamemaaGreatDoorPExt
set_option linter.all false
set_option linter.unnecessarySimpa false
set_option linter.unusedSimpArgs false
set_option linter.unusedVariables false
namespace Go.Proofs.YtaiekfeiaamemaaGreatDoor
open Go.ChangeShapes Go.WideShapes Go.ChangeAt Go.RowKit

theorem oneSpanR : ∀ cs x, SpanR cs x → ∀ u ∈ cs, u.oneCell' = true := by
  rintro cs x ⟨rfl, _⟩ u hu; simp at hu; rcases hu with rfl | rfl <;> rfl
theorem oneStampR : ∀ cs x, StampR cs x → ∀ u ∈ cs, u.oneCell' = true := by
  rintro cs x ⟨rfl, _⟩ u hu; simp at hu; rcases hu with rfl | rfl <;> rfl
theorem Sl.one {α : Type} {R : List Value → α → Prop} {k : Nat} {w : World} {B : Nat} {v : Value} {l : List α} (h : Sl R k w B v l) : v.oneCell' = true := by
  obtain ⟨A, c, rfl, _⟩ := h; rfl
theorem oneSubR : ∀ w cs x, SubR w w.heap.size cs x → ∀ u ∈ cs, u.oneCell' = true := by
  rintro w cs x ⟨v, rfl, _, _, _, hv⟩ u hu; simp at hu; rcases hu with rfl | rfl | rfl | rfl | rfl | rfl | rfl <;> first | rfl | exact hv.one
theorem extSub : ExtR (fun w => SubR w w.heap.size) := fun _ _ _ _ he ⟨v, e, h1, h2, h3, hv⟩ => ⟨v, e, h1, h2, h3, hv.ext (fun _ _ h => h) he⟩
theorem ownEmptyRow {α : Type} {R : List Value → α → Prop} {k : Nat} (w : World) (e : TypeId) : OwnSl R k (w.alloc (.cells #[] e)) w.heap.size e (.slice (some ⟨w.heap.size, 0, none⟩) 0 0) [] :=
  ⟨[], ⟨by simp, .inr ⟨_, 0, #[], rfl, Nat.le_refl _, heap_alloc_new w _, Nat.le_refl _, Nat.zero_le _, by simp, by simp⟩⟩, rfl, Nat.zero_le _⟩

theorem infoSpanRow : (Tryz.prog.info? 46).map (fun i => (i.zero.map (·.cells.size), i.size, i.bytes)) = some (some 2, 2, 16) := by kernel_rfl
theorem cloneSpans (l : List Span) (v : Value) (w : World) (h : Spans w w.heap.size v l) :
    Calls Tryz.prog 75 #[v] w fun e w' => (∃ v', e = .returned v' ∧ OwnSl SpanR 2 w' w.heap.size 46 v' l) ∧ Below w.heap.size w w' := by
  have hle := h.len_le
  obtain ⟨i0, z0, hi, hz0, hzs, hz1, hz2⟩ := info_of infoSpanRow
  obtain ⟨A, c, rfl, -, -, hne⟩ := id h
  have he := fun (w : World) (a : Option Addr) (n c : Nat) => Lib.run_eql_slice_nil (P := Tryz.prog) w 47 46 a n c 0 0 Tryz.underlying47
  cases A with
  | none =>
    obtain rfl : l = [] := by
      rcases l with _ | ⟨y, l⟩
      · rfl
      · obtain ⟨b, off, h1, _⟩ := hne (by simp)
        cases h1
    clear hne h
    go_enter Tryz.func75, Tryz.ntmps75
    go_wp2_with fail
    go_ret
    exact ⟨⟨_, rfl, OwnSl.nil_ _ _ _⟩, Below.refl _ _⟩
  | some A =>
    have HH := Lib.hid h
    clear hne h
    go_enter Tryz.func75, Tryz.ntmps75
    go_wp2_with (at_builtin; refine wpList_append_sl _ (oneSpanR) rfl (.tmp 5) (.tmp 6) 47 rfl w.heap.size 46 i0 _ 16 Tryz.underlying47 hi hz0 hz1 hz2 hzs (by omega) _ [] rfl (ownEmptyRow (R := SpanR) (k := 2) w 46) w.heap.size _ l rfl (HH.out.keep (fun _ _ h => h) (Nat.le_refl _) (fun p hp => World.cell?_alloc_lt _ _ _ hp)) (by simp only [List.length_nil]; omega) (by omega) (by simp) ?_; intro v1 w1 hown hgr hat)
    simp only [List.nil_append] at hown
    have hb1 : Below w.heap.size w w1 := (balloc (Below.refl _ _)).grown hgr (by simp) (fun k hk => Nat.le_of_eq (Option.some.inj hk))
    have H1 := Lib.hid hown
    clear hown hgr hat hi hz0 hz1 hz2 hzs
    go_wp2_with fail
    go_ret
    exact ⟨⟨_, rfl, H1.out⟩, hb1⟩

theorem infoSubRow : (Tryz.prog.info? 123).map (fun i => (i.zero.map (·.cells.size), i.size, i.bytes)) = some (some 7, 7, 56) := by kernel_rfl
theorem cloneSubs (l : List Sub) (v : Value) (V : World) (w : World) (hV : Ext V w) (h : Subs V V.heap.size v l) :
    Calls Tryz.prog 162 #[v] w fun e w' => (∃ v', e = .returned v' ∧ OwnSl (SubR V V.heap.size) 7 w' w.heap.size 123 v' l) ∧ Below w.heap.size w w' := by
  have hle := h.len_le
  obtain ⟨i0, z0, hi, hz0, hzs, hz1, hz2⟩ := info_of infoSubRow
  obtain ⟨A, c, rfl, -, -, hne⟩ := id h
  have he := fun (w : World) (a : Option Addr) (n c : Nat) => Lib.run_eql_slice_nil (P := Tryz.prog) w 22 123 a n c 0 0 Tryz.underlying22
  cases A with
  | none =>
    obtain rfl : l = [] := by
      rcases l with _ | ⟨y, l⟩
      · rfl
      · obtain ⟨b, off, h1, _⟩ := hne (by simp)
        cases h1
    clear hne h
    go_enter Tryz.func162, Tryz.ntmps162
    go_wp2_with fail
    go_ret
    exact ⟨⟨_, rfl, OwnSl.nil_ _ _ _⟩, Below.refl _ _⟩
  | some A =>
    have HH := Lib.hid (Sl.ext h (fun _ _ h => h) hV)
    clear hne h
    go_enter Tryz.func162, Tryz.ntmps162
    go_wp2_with (at_builtin; refine wpList_append_sl _ (fun cs x h => oneSubR _ cs x h) rfl (.tmp 5) (.tmp 6) 22 rfl w.heap.size 123 i0 _ 56 Tryz.underlying22 hi hz0 hz1 hz2 hzs (by omega) _ [] rfl (ownEmptyRow (R := (SubR V V.heap.size)) (k := 7) w 123) w.heap.size _ l rfl (HH.out.keep (fun _ _ h => h) (Nat.le_refl _) (fun p hp => World.cell?_alloc_lt _ _ _ hp)) (by simp only [List.length_nil]; omega) (by omega) (by simp) ?_; intro v1 w1 hown hgr hat)
    simp only [List.nil_append] at hown
    have hb1 : Below w.heap.size w w1 := (balloc (Below.refl _ _)).grown hgr (by simp) (fun k hk => Nat.le_of_eq (Option.some.inj hk))
    have H1 := Lib.hid hown
    clear hown hgr hat hi hz0 hz1 hz2 hzs
    go_wp2_with fail
    go_ret
    exact ⟨⟨_, rfl, H1.out⟩, hb1⟩

theorem infoStampRow : (Tryz.prog.info? 63).map (fun i => (i.zero.map (·.cells.size), i.size, i.bytes)) = some (some 2, 2, 16) := by kernel_rfl
theorem cloneStamps (l : List Stamp) (v : Value) (w : World) (h : Stamps w w.heap.size v l) :
    Calls Tryz.prog 117 #[v] w fun e w' => (∃ v', e = .returned v' ∧ OwnSl StampR 2 w' w.heap.size 63 v' l) ∧ Below w.heap.size w w' := by
  have hle := h.len_le
  obtain ⟨i0, z0, hi, hz0, hzs, hz1, hz2⟩ := info_of infoStampRow
  obtain ⟨A, c, rfl, -, -, hne⟩ := id h
  have he := fun (w : World) (a : Option Addr) (n c : Nat) => Lib.run_eql_slice_nil (P := Tryz.prog) w 24 63 a n c 0 0 Tryz.underlying24
  cases A with
  | none =>
    obtain rfl : l = [] := by
      rcases l with _ | ⟨y, l⟩
      · rfl
      · obtain ⟨b, off, h1, _⟩ := hne (by simp)
        cases h1
    clear hne h
    go_enter Tryz.func117, Tryz.ntmps117
    go_wp2_with fail
    go_ret
    exact ⟨⟨_, rfl, OwnSl.nil_ _ _ _⟩, Below.refl _ _⟩
  | some A =>
    have HH := Lib.hid h
    clear hne h
    go_enter Tryz.func117, Tryz.ntmps117
    go_wp2_with (at_builtin; refine wpList_append_sl _ (oneStampR) rfl (.tmp 5) (.tmp 6) 24 rfl w.heap.size 63 i0 _ 16 Tryz.underlying24 hi hz0 hz1 hz2 hzs (by omega) _ [] rfl (ownEmptyRow (R := StampR) (k := 2) w 63) w.heap.size _ l rfl (HH.out.keep (fun _ _ h => h) (Nat.le_refl _) (fun p hp => World.cell?_alloc_lt _ _ _ hp)) (by simp only [List.length_nil]; omega) (by omega) (by simp) ?_; intro v1 w1 hown hgr hat)
    simp only [List.nil_append] at hown
    have hb1 : Below w.heap.size w w1 := (balloc (Below.refl _ _)).grown hgr (by simp) (fun k hk => Nat.le_of_eq (Option.some.inj hk))
    have H1 := Lib.hid hown
    clear hown hgr hat hi hz0 hz1 hz2 hzs
    go_wp2_with fail
    go_ret
    exact ⟨⟨_, rfl, H1.out⟩, hb1⟩

end Go.Proofs.YtaiekfeiaamemaaGreatDoor
