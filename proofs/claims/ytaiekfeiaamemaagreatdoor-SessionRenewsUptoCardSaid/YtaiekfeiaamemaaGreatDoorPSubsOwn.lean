/- Contracts of subscriptions of one's own: the program's and the reference's copies. -/
import Derived.Test.YtaiekfeiaamemaaGreatDoorPClone
import Derived.Test.YtaiekfeiaamemaaGreatDoorPSubsForm
set_option linter.all false
set_option linter.unnecessarySimpa false
set_option linter.unusedSimpArgs false
set_option linter.unusedVariables false
namespace Go.Proofs.YtaiekfeiaamemaaGreatDoor
open Go.ChangeShapes Go.WideShapes Go.ChangeAt Go.RowKit

theorem set_same {α : Type} {l : List α} {m : Nat} {x : α} (h : l[m]? = some x) : l.set m x = l := by
  obtain ⟨h1, rfl⟩ := List.getElem?_eq_some_iff.1 h
  simp
theorem Subs.ext {w w' : World} {v : Value} {l : List Sub} (h : Subs w w.heap.size v l) (he : Ext w w') : Subs w' w'.heap.size v l := Sl.ext h (fun cs x hx => extSub _ _ cs x he hx) he
abbrev OwnSubs := OwnN (fun w => SubR w w.heap.size) 7

theorem sessionSubs (l : List Sub) (v : Value) (V w : World) (hV : Ext V w) (h : Subs V V.heap.size v l) :
    Calls Tryz.prog 72 #[v] w fun e w' => (∃ v', e = .returned v' ∧ OwnSubs V w w' w.heap.size 123 v' l) ∧ Below w.heap.size w w' := by
  have hle := h.len_le
  have HC := Lib.hid (cloneSubs l v V w hV h)
  obtain ⟨A, c, rfl, -⟩ := id h
  clear h
  go_enter Tryz.func72, Tryz.ntmps72
  go_wp2_with fail
  refine HC.out.mono ?_
  rintro e w1 ⟨⟨v1, rfl, hown⟩, hb1⟩
  have hn : OwnSubs V w w1 w.heap.size 123 v1 l := OwnN.of_sl hown extSub hV hb1.size (Nat.le_refl _)
  rcases hown.forms with ⟨rfl, rfl⟩ | ⟨g, c1, rfl, hg1, hg2⟩
  · clear hown
    have HN := Lib.hid hn
    clear hn HC
    go_wp2_with fail
    go_loopw [9] (fun i wr => i = .int .i64 0 ∧ wr = w1) (fun _ _ => 0)
    case atStart => exact ⟨rfl, rfl⟩
    case round =>
      obtain ⟨rfl, rfl⟩ := hrel
      go_wp2_with fail
      go_ret
      exact ⟨⟨_, rfl, HN.out⟩, hb1⟩
  · clear hown
    have HN := Lib.hid hn
    clear hn HC
    go_wp2_with fail
    go_loopw [9] (fun i wr => ∃ m : Nat, m ≤ l.length ∧ i = .int .i64 m ∧ OwnSubs V w wr w.heap.size 123 (.slice (some ⟨g, 0, none⟩) l.length c1) l ∧ Below w.heap.size w wr) (fun i _ => l.length - (intOf i).toNat)
    case atStart => exact ⟨0, Nat.zero_le _, rfl, HN.out, hb1⟩
    case round =>
      obtain ⟨m, hm, rfl, hn, hb⟩ := hrel
      have hgw := (hn.lt g rfl).2
      by_cases hlt : m < l.length
      · obtain ⟨y, hy⟩ : ∃ y, l[m]? = some y := ⟨l[m], List.getElem?_eq_getElem hlt⟩
        obtain ⟨cs, ⟨vi, rfl, i1, i2, i3, hs⟩, _, hc⟩ := OwnSl.at_ hn hy
        have e1 := hc 1 vi rfl
        have hs1 : Spans wr wr.heap.size vi y.interest := hs.ext (fun _ _ h => h) ((minusO_ext _ (.slice (some ⟨g, 0, none⟩) l.length c1)).trans (mix_ext_w hV hb))
        have HN2 := Lib.hid hn
        have HY := Lib.hid hy
        obtain ⟨A2, c2, rfl, -⟩ := id hs1
        have HC := Lib.hid (cloneSpans _ _ _ hs1)
        clear hc hs hs1 hn hy HN
        go_wp2_with fail
        refine HC.out.mono ?_
        rintro e w2 ⟨⟨v2, rfl, hown2⟩, hb2⟩
        obtain ⟨A3, c3, rfl⟩ := hown2.form
        have hn2 := HN2.out.next extSub hb2
        have f1 := kept_cell hb2 e1
        have z1 := OwnSl.frozen hn2 (m * 7 + 1)
        have hap : Spans (minus (mixW V w w2) g) (minus (mixW V w w2) g).heap.size (.slice A3 y.interest.length c3) y.interest := OwnSl.apart (V := V) (w0 := w) (v := .slice (some ⟨g, 0, none⟩) l.length c1) hown2 hb.size (fun g' hg' => by simp [Value.ownBlock] at hg'; omega)
        have hn3 := OwnN.set_ (j := 1) (u := .slice A3 y.interest.length c3) (x' := y) hn2 HY.out (by omega) (by
          rintro cs ⟨v', rfl, k1, k2, k3, _⟩ _
          exact ⟨_, rfl, k1, k2, k3, hap⟩)
        rw [set_same HY.out] at hn3
        have HN3 := Lib.hid hn3
        have hb3 := bset (u := .slice A3 y.interest.length c3) (bnext hb hb2) (p := ⟨g, m * 7 + 1, none⟩) hg1
        clear hn3 hn2 hap hown2 e1 HC HN2
        go_wp2_with fail
        refine ⟨⟨m + 1, by omega, by go_num, HN3.out, hb3⟩, by simp [intOf]; omega⟩
      · obtain rfl : m = l.length := by omega
        have HN2 := Lib.hid hn
        clear hn
        go_wp2_with fail
        go_ret
        exact ⟨⟨_, rfl, HN2.out⟩, hb⟩

theorem grown_set (w : World) (p : Addr) (u : Value) : w.grownBy (w.setCell p u) (some p.block) :=
  ⟨rfl, rfl, rfl, by simp, fun k _ hne => Below.heap_setCell w p u k (by simpa using hne)⟩
theorem OwnSl.set_far {α : Type} {R : List Value → α → Prop} {k : Nat} {w : World} {base : Nat} {e : TypeId} {v : Value} {l : List α} (h : OwnSl R k w base e v l) {p : Addr} (hp : p.block < base) (u : Value) : OwnSl R k (w.setCell p u) base e v l := by
  refine h.kept (grown_set w p u) ?_
  cases hv : v.ownBlock with
  | none => exact .inl rfl
  | some g =>
    refine .inr ?_
    have := (h.lt g hv).1
    simp
    omega

set_option maxHeartbeats 1600000 in
set_option maxRecDepth 100000 in
theorem refOwn (l : List Sub) (v : Value) (V w : World) (hV : Ext V w) (h : Subs V V.heap.size v l) :
    Calls Tryz.prog 16 #[v] w fun e w' => (∃ v', e = .returned v' ∧ OwnSubs V w w' w.heap.size 123 v' l) ∧ Below w.heap.size w w' := by
  have hle := h.len_le
  obtain ⟨A, c, rfl, -⟩ := id h
  have HH := Lib.hid (Subs.ext h hV)
  clear h
  go_enter Tryz.func16, Tryz.ntmps16
  go_wp2_with fail
  go_loopw [3, 4] (fun o i wr => ∃ m : Nat, m ≤ l.length ∧ i = .int .i64 m ∧ OwnSubs V w wr w.heap.size 123 o (l.take m) ∧ Below w.heap.size w wr) (fun _ i _ => l.length - (intOf i).toNat)
  case atStart => exact ⟨0, Nat.zero_le _, rfl, OwnN.nil_ _ _ _ _ _, Below.refl _ _⟩
  case round =>
    obtain ⟨m, hm, rfl, hn, hb⟩ := hrel
    by_cases hlt : m < l.length
    · obtain ⟨y, hy⟩ : ∃ y, l[m]? = some y := ⟨l[m], List.getElem?_eq_getElem hlt⟩
      obtain ⟨b, off, c', vi, hv', hbb, e0, e1, e2, e3, e4, e5, e6, hs, i1, i2, i3⟩ := subs_at (HH.out.next hb) hy
      injection hv' with hv1 hv2 hv3
      have HY := Lib.hid (take_snoc hy)
      obtain ⟨yf, yi, ys, yq, yl, yh, yd⟩ := y
      simp only at e0 e1 e2 e3 e4 e5 e6 hs i1 i2 i3
      subst hv1
      obtain ⟨A4, c4, rfl, -⟩ := id hs
      have HS := Lib.hid hs
      have HN := Lib.hid hn
      clear hv2 hv3 hy hs hn
      go_wp2_with fail
      have kB := balloc (o := .cells #[.int .i64 yf, .slice A4 yi.length c4, .int .i64 ys, .int .i64 yq, .bool yl, .bool yh, .bool yd] 123) (Below.refl _ wr)
      have B := Blk.new wr 123 #[.int .i64 yf, .slice A4 yi.length c4, .int .i64 ys, .int .i64 yq, .bool yl, .bool yh, .bool yd]
      refine (refSpanCopy yi _ _ (HS.out.next kB)).mono ?_
      rintro e w2 ⟨⟨v2, rfl, hown2⟩, hb2⟩
      obtain ⟨A5, c5, rfl⟩ := hown2.form
      have B2 := (B.next hb2).set_ 1 (.slice A5 yi.length c5)
      have hb3 := bset (u := .slice A5 yi.length c5) (bnext kB hb2) (p := ⟨wr.heap.size, 1, none⟩) (Nat.le_refl _)
      have hown3 := hown2.set_far (p := ⟨wr.heap.size, 1, none⟩) (by simp) (.slice A5 yi.length c5)
      have BB := B.next hb2
      have f0 := BB.cell 0
      have f1 := BB.cell 1
      have f2 := BB.cell 2
      have f3 := BB.cell 3
      have f4 := BB.cell 4
      have f5 := BB.cell 5
      have f6 := BB.cell 6
      have z0 := BB.frozen 1
      simp only [List.getElem?_toArray, List.getElem?_cons_zero, List.getElem?_cons_succ] at f0 f1 f2 f3 f4 f5 f6
      clear B e0 e1 e2 e3 e4 e5 e6 BB B2
      have hn3 := HN.out.next extSub hb3
      have hlt3 := HN.out.lt
      have hsz : wr.heap.size < w2.heap.size := by have := hb2.size; simp at this; omega
      have HN3 := Lib.hid hn3
      have HO3 := Lib.hid hown3
      have HL3 := Lib.hid hlt3
      clear hn3 hown3 hlt3 hown2
      go_wp2_with (at_builtin; refine append_oneN infoSubRow Tryz.underlying22 (by omega) (by omega) extSub oneSubR rfl (.tmp 20) (.tmp 22) rfl w.heap.size _ _ rfl HN3.out #[.int .i64 yf, .slice A5 yi.length c5, .int .i64 ys, .int .i64 yq, .bool yl, .bool yh, .bool yd] ⟨yf, yi, ys, yq, yl, yh, yd⟩ _ rfl (by simp) ⟨_, rfl, i1, i2, i3, HO3.out.apart (V := V) (w0 := w) (by have := hb.size; simp; omega) (fun g hg => by have := (HL3.out g hg).2; simp; omega)⟩ rfl (by simp; omega) (by have := hb.size; simp; omega) ?_; intro v' w' h1 h2 h3)
      have hb4 := h3 w (Nat.le_refl _) (bnext hb hb3)
      rw [← HY.out] at h1
      have H1 := Lib.hid h1
      clear h1 h2 h3 f0 f1 f2 f3 f4 f5 f6 z0
      go_wp2_with fail
      refine ⟨⟨m + 1, by omega, by go_num, H1.out, hb4⟩, by simp [intOf]; omega⟩
    · obtain rfl : m = l.length := by omega
      rw [List.take_length] at hn
      have HN := Lib.hid hn
      clear hn
      go_wp2_with fail
      go_ret
      exact ⟨⟨_, rfl, HN.out⟩, hb⟩
end Go.Proofs.YtaiekfeiaamemaaGreatDoor
