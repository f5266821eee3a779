/- Contracts of slices.Clone, one for each element type. -/
import Derived.Test.YtmdeokneablgaaaDoorPMsg
import Derived.Test.YtmdeokneablgaaaDoorPExt
namespace Go.Proofs.YtmdeokneablgaaaDoor
open Go.ChangeShapes Go.WideShapes Go.ChangeAt Go.RowKit

theorem oneSpanR : ∀ cs x, SpanR cs x → ∀ u ∈ cs, u.oneCell' = true := by
  rintro cs x ⟨rfl, _⟩ u hu; simp at hu; rcases hu with rfl | rfl <;> rfl
theorem oneStampR : ∀ cs x, StampR cs x → ∀ u ∈ cs, u.oneCell' = true := by
  rintro cs x ⟨rfl, _⟩ u hu; simp at hu; rcases hu with rfl | rfl <;> rfl
theorem oneWriteR : ∀ cs x, WriteR cs x → ∀ u ∈ cs, u.oneCell' = true := by
  rintro cs x ⟨rfl, _⟩ u hu; simp at hu; rcases hu with rfl | rfl | rfl | rfl <;> rfl
theorem Sl.one {α : Type} {R : List Value → α → Prop} {k : Nat} {w : World} {B : Nat} {v : Value} {l : List α} (h : Sl R k w B v l) : v.oneCell' = true := by
  obtain ⟨A, c, rfl, _⟩ := h; rfl
theorem oneSubR : ∀ w cs x, SubR w w.heap.size cs x → ∀ u ∈ cs, u.oneCell' = true := by
  rintro w cs x ⟨v, rfl, _, _, _, hv⟩ u hu; simp at hu; rcases hu with rfl | rfl | rfl | rfl | rfl | rfl | rfl <;> first | rfl | exact hv.one
theorem oneOutR : ∀ w cs x, OutR w w.heap.size cs x → ∀ u ∈ cs, u.oneCell' = true := by
  rintro w cs x ⟨v, rfl, _, _, _, _, hv⟩ u hu; simp at hu; rcases hu with rfl | rfl | rfl | rfl | rfl <;> first | rfl | exact hv.one
theorem extOut : ExtR (fun w => OutR w w.heap.size) := fun _ _ _ _ he ⟨v, e, h1, h2, h3, h4, hv⟩ => ⟨v, e, h1, h2, h3, h4, hv.ext (fun _ _ h => h) he⟩
theorem outs_at {w : World} {B : Nat} {v : Value} {l : List Out} (h : Outs w B v l) {m : Nat} {x : Out} (hx : l[m]? = some x) :
    ∃ b off c vi, v = .slice (some ⟨b, off, none⟩) l.length c ∧ b < B ∧ w.cell? ⟨b, off + m * 5, none⟩ = some (.int .i64 x.to_) ∧ w.cell? ⟨b, off + m * 5 + 1, none⟩ = some (.int .i64 x.session) ∧
      w.cell? ⟨b, off + m * 5 + 2, none⟩ = some vi ∧ w.cell? ⟨b, off + m * 5 + 3, none⟩ = some (.int .i64 x.at_) ∧ w.cell? ⟨b, off + m * 5 + 4, none⟩ = some (.int .i64 x.seq) ∧ Spans w B vi x.interest ∧ I64 x.to_ ∧ I64 x.session ∧ I64 x.at_ ∧ I64 x.seq := by
  obtain ⟨A, c, rfl, _, _, h3⟩ := h
  obtain ⟨b, off, rfl, hb, h4⟩ := h3 (by rintro rfl; simp at hx)
  obtain ⟨cs, ⟨vi, rfl, i1, i2, i3, i4, hv⟩, _, h5⟩ := h4 m x hx
  exact ⟨b, off, c, vi, rfl, hb, h5 0 _ rfl, h5 1 _ rfl, h5 2 _ rfl, h5 3 _ rfl, h5 4 _ rfl, hv, i1, i2, i3, i4⟩
theorem extSub : ExtR (fun w => SubR w w.heap.size) := fun _ _ _ _ he ⟨v, e, h1, h2, h3, hv⟩ => ⟨v, e, h1, h2, h3, hv.ext (fun _ _ h => h) he⟩
theorem ownEmptyRow {α : Type} {R : List Value → α → Prop} {k : Nat} (w : World) (e : TypeId) : OwnSl R k (w.alloc (.cells #[] e)) w.heap.size e (.slice (some ⟨w.heap.size, 0, none⟩) 0 0) [] :=
  ⟨[], ⟨by simp, .inr ⟨_, 0, #[], rfl, Nat.le_refl _, heap_alloc_new w _, Nat.le_refl _, Nat.zero_le _, by simp, by simp⟩⟩, rfl, Nat.zero_le _⟩

theorem infoSpanRow : (Tryd.prog.info? 33).map (fun i => (i.zero.map (·.cells.size), i.size, i.bytes)) = some (some 2, 2, 16) := by kernel_rfl
theorem cloneSpans (l : List Span) (v : Value) (w : World) (h : Spans w w.heap.size v l) :
    Calls Tryd.prog 44 #[v] w fun e w' => (∃ v', e = .returned v' ∧ OwnSl SpanR 2 w' w.heap.size 33 v' l) ∧ Below w.heap.size w w' := by
  have hle := h.len_le
  obtain ⟨i0, z0, hi, hz0, hzs, hz1, hz2⟩ := info_of infoSpanRow
  obtain ⟨A, c, rfl, -, -, hne⟩ := id h
  have he := fun (w : World) (a : Option Addr) (n c : Nat) => Lib.run_eql_slice_nil (P := Tryd.prog) w 28 33 a n c 0 0 Tryd.underlying28
  cases A with
  | none =>
    obtain rfl : l = [] := by
      rcases l with _ | ⟨y, l⟩
      · rfl
      · obtain ⟨b, off, h1, _⟩ := hne (by simp)
        cases h1
    clear hne h
    go_enter Tryd.func44, Tryd.ntmps44
    go_wp2_with fail
    go_ret
    exact ⟨⟨_, rfl, OwnSl.nil_ _ _ _⟩, Below.refl _ _⟩
  | some A =>
    have HH := Lib.hid h
    clear hne h
    go_enter Tryd.func44, Tryd.ntmps44
    go_wp2_with (at_builtin; refine wpList_append_sl _ (oneSpanR) rfl (.tmp 5) (.tmp 6) 28 rfl w.heap.size 33 i0 _ 16 Tryd.underlying28 hi hz0 hz1 hz2 hzs (by omega) _ [] rfl (ownEmptyRow (R := SpanR) (k := 2) w 33) w.heap.size _ l rfl (HH.out.keep (fun _ _ h => h) (Nat.le_refl _) (fun p hp => World.cell?_alloc_lt _ _ _ hp)) (by simp only [List.length_nil]; omega) (by omega) (by simp) ?_; intro v1 w1 hown hgr hat)
    simp only [List.nil_append] at hown
    have hb1 : Below w.heap.size w w1 := (balloc (Below.refl _ _)).grown hgr (by simp) (fun k hk => Nat.le_of_eq (Option.some.inj hk))
    have H1 := Lib.hid hown
    clear hown hgr hat hi hz0 hz1 hz2 hzs
    go_wp2_with fail
    go_ret
    exact ⟨⟨_, rfl, H1.out⟩, hb1⟩

theorem infoSubRow : (Tryd.prog.info? 35).map (fun i => (i.zero.map (·.cells.size), i.size, i.bytes)) = some (some 7, 7, 56) := by kernel_rfl
theorem cloneSubs (l : List Sub) (v : Value) (V : World) (w : World) (hV : Ext V w) (h : Subs V V.heap.size v l) :
    Calls Tryd.prog 60 #[v] w fun e w' => (∃ v', e = .returned v' ∧ OwnSl (SubR V V.heap.size) 7 w' w.heap.size 35 v' l) ∧ Below w.heap.size w w' := by
  have hle := h.len_le
  obtain ⟨i0, z0, hi, hz0, hzs, hz1, hz2⟩ := info_of infoSubRow
  obtain ⟨A, c, rfl, -, -, hne⟩ := id h
  have he := fun (w : World) (a : Option Addr) (n c : Nat) => Lib.run_eql_slice_nil (P := Tryd.prog) w 36 35 a n c 0 0 Tryd.underlying36
  cases A with
  | none =>
    obtain rfl : l = [] := by
      rcases l with _ | ⟨y, l⟩
      · rfl
      · obtain ⟨b, off, h1, _⟩ := hne (by simp)
        cases h1
    clear hne h
    go_enter Tryd.func60, Tryd.ntmps60
    go_wp2_with fail
    go_ret
    exact ⟨⟨_, rfl, OwnSl.nil_ _ _ _⟩, Below.refl _ _⟩
  | some A =>
    have HH := Lib.hid (Sl.ext h (fun _ _ h => h) hV)
    clear hne h
    go_enter Tryd.func60, Tryd.ntmps60
    go_wp2_with (at_builtin; refine wpList_append_sl _ (fun cs x h => oneSubR _ cs x h) rfl (.tmp 5) (.tmp 6) 36 rfl w.heap.size 35 i0 _ 56 Tryd.underlying36 hi hz0 hz1 hz2 hzs (by omega) _ [] rfl (ownEmptyRow (R := (SubR V V.heap.size)) (k := 7) w 35) w.heap.size _ l rfl (HH.out.keep (fun _ _ h => h) (Nat.le_refl _) (fun p hp => World.cell?_alloc_lt _ _ _ hp)) (by simp only [List.length_nil]; omega) (by omega) (by simp) ?_; intro v1 w1 hown hgr hat)
    simp only [List.nil_append] at hown
    have hb1 : Below w.heap.size w w1 := (balloc (Below.refl _ _)).grown hgr (by simp) (fun k hk => Nat.le_of_eq (Option.some.inj hk))
    have H1 := Lib.hid hown
    clear hown hgr hat hi hz0 hz1 hz2 hzs
    go_wp2_with fail
    go_ret
    exact ⟨⟨_, rfl, H1.out⟩, hb1⟩

theorem infoOutRow : (Tryd.prog.info? 54).map (fun i => (i.zero.map (·.cells.size), i.size, i.bytes)) = some (some 5, 5, 56) := by kernel_rfl
theorem cloneOuts (l : List Out) (v : Value) (V : World) (w : World) (hV : Ext V w) (h : Outs V V.heap.size v l) :
    Calls Tryd.prog 63 #[v] w fun e w' => (∃ v', e = .returned v' ∧ OwnSl (OutR V V.heap.size) 5 w' w.heap.size 54 v' l) ∧ Below w.heap.size w w' := by
  have hle := h.len_le
  obtain ⟨i0, z0, hi, hz0, hzs, hz1, hz2⟩ := info_of infoOutRow
  obtain ⟨A, c, rfl, -, -, hne⟩ := id h
  have he := fun (w : World) (a : Option Addr) (n c : Nat) => Lib.run_eql_slice_nil (P := Tryd.prog) w 52 54 a n c 0 0 Tryd.underlying52
  cases A with
  | none =>
    obtain rfl : l = [] := by
      rcases l with _ | ⟨y, l⟩
      · rfl
      · obtain ⟨b, off, h1, _⟩ := hne (by simp)
        cases h1
    clear hne h
    go_enter Tryd.func63, Tryd.ntmps63
    go_wp2_with fail
    go_ret
    exact ⟨⟨_, rfl, OwnSl.nil_ _ _ _⟩, Below.refl _ _⟩
  | some A =>
    have HH := Lib.hid (Sl.ext h (fun _ _ h => h) hV)
    clear hne h
    go_enter Tryd.func63, Tryd.ntmps63
    go_wp2_with (at_builtin; refine wpList_append_sl _ (fun cs x h => oneOutR _ cs x h) rfl (.tmp 5) (.tmp 6) 52 rfl w.heap.size 54 i0 _ 56 Tryd.underlying52 hi hz0 hz1 hz2 hzs (by omega) _ [] rfl (ownEmptyRow (R := (OutR V V.heap.size)) (k := 5) w 54) w.heap.size _ l rfl (HH.out.keep (fun _ _ h => h) (Nat.le_refl _) (fun p hp => World.cell?_alloc_lt _ _ _ hp)) (by simp only [List.length_nil]; omega) (by omega) (by simp) ?_; intro v1 w1 hown hgr hat)
    simp only [List.nil_append] at hown
    have hb1 : Below w.heap.size w w1 := (balloc (Below.refl _ _)).grown hgr (by simp) (fun k hk => Nat.le_of_eq (Option.some.inj hk))
    have H1 := Lib.hid hown
    clear hown hgr hat hi hz0 hz1 hz2 hzs
    go_wp2_with fail
    go_ret
    exact ⟨⟨_, rfl, H1.out⟩, hb1⟩



end Go.Proofs.YtmdeokneablgaaaDoor
