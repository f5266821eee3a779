/- The law StampParses: each text is read as a stamp, or refused, as the reference says. -/
import Derived.Test.YtophbfnedglmdaaDoorParse3
namespace Go.Proofs.YtophbfnedglmdaaDoor
open Go.ChangeShapes Go.WideShapes Go.ChangeAt Go.RowKit

theorem showS_inj {c n c' n' : Int} (h : rightB c n = true) (h' : rightB c' n' = true) (he : showS c n = showS c' n') : c = c' ∧ n = n' := by
  have r := right_nat h
  have r' := right_nat h'
  have e := congrArg (fun s : ByteArray => s.data.toList) he
  simp only [showS_list] at e
  obtain ⟨e1, e2⟩ := at_split _ _ _ _ (no_at _) (no_at _) e
  have := dec_inj e1
  have := dec_inj e2
  omega

/-- what both calls answer at a text: one answer -/
def Reads (s : ByteArray) (x y z : Int) : Prop :=
  (∀ w : World, Env w → Calls Tryd.prog 8 #[.string s] w fun e w' => e = .returned (.tuple #[.agg #[.int .i64 x, .int .i64 y], .int .i64 z]) ∧ Below w.heap.size w w') ∧
  (∀ w : World, Calls Tryd.prog 9 #[.string s] w fun e w' => e = .returned (.tuple #[.agg #[.int .i64 x, .int .i64 y], .int .i64 z]) ∧ Below w.heap.size w w')
theorem reads_yes {s : ByteArray} {c n : Int} (hr : rightB c n = true) (hc : c ≤ 9223372036854775807) (hs : s = showS c n) : Reads s c n 0 := by
  subst hs
  refine ⟨fun w hE => stampParse_yes c n w hr hc hE, fun w => (refParse _ w (Nat.le_trans (showS_size hr hc) (by omega))).mono ?_⟩
  rintro e w' ⟨⟨c', n', h1, h2, h3, rfl⟩ | ⟨hno, _⟩, hb⟩
  · obtain ⟨rfl, rfl⟩ := showS_inj hr h1 h3
    exact ⟨rfl, hb⟩
  · exact absurd rfl (hno c n hr hc)
theorem reads_no {s : ByteArray} (hs : s.size ≤ 1048576) (hN : NoText s) : Reads s 0 0 17 := by
  refine ⟨fun w hE => stampParse_no s w hs hN hE, fun w => (refParse _ w hs).mono ?_⟩
  rintro e w' ⟨⟨c', n', h1, h2, h3, _⟩ | ⟨_, rfl⟩, hb⟩
  · exact absurd h3 (hN c' n' h1 h2)
  · exact ⟨rfl, hb⟩
theorem text_or (s : ByteArray) : (∃ c n, rightB c n = true ∧ c ≤ 9223372036854775807 ∧ s = showS c n) ∨ NoText s := by
  by_cases h : ∃ c n, rightB c n = true ∧ c ≤ 9223372036854775807 ∧ s = showS c n
  · exact Or.inl h
  · exact Or.inr fun c n h1 h2 h3 => h ⟨c, n, h1, h2, h3⟩
theorem reads_some (s : ByteArray) (hs : s.size ≤ 1048576) : ∃ x y z, Reads s x y z := by
  rcases text_or s with ⟨c, n, h1, h2, h3⟩ | h
  · exact ⟨_, _, _, reads_yes h1 h2 h3⟩
  · exact ⟨_, _, _, reads_no hs h⟩
theorem showS_ten' : showS 10 0 = ⟨#[49, 48, 64, 48]⟩ := by
  show dg 10 ++ ⟨#[64]⟩ ++ dg 0 = _
  rw [dg_big (q := 10) (by omega), dg_small (q := 10 / 10) (by omega), dg_small (q := 0) (by omega)]
  rfl

set_option maxHeartbeats 400000 in
theorem lawParses (s : ByteArray) (w : World) (hs : s.size ≤ 1048576) (hE : Env w) :
    Calls Tryd.prog 4 #[.string s] w fun e w' => e = .returned (.bool true) ∧ Below w.heap.size w w' := by
  obtain ⟨x, y, z, h1, h2⟩ := reads_some s hs
  have h3 := fun w hE => stampParse_yes 10 0 w (by decide) (by omega) hE
  rw [showS_ten'] at h3
  have H1 := Lib.hid h1
  have H2 := Lib.hid h2
  have H3 := Lib.hid h3
  clear h1 h2 h3
  go_enter Tryd.func4, Tryd.ntmps4
  go_wp2_with fail
  refine (H1.out _ hE).mono ?_
  rintro e w1 ⟨rfl, hb1⟩
  have E1 := hE.next hb1
  clear hE
  go_wp2_with fail
  have A1 := Blk.new w1 23 #[.int .i64 x, .int .i64 y]
  have k1 := balloc (o := .cells #[.int .i64 x, .int .i64 y] 23) hb1
  replace E1 := E1.next (balloc (o := .cells #[.int .i64 x, .int .i64 y] 23) (Below.refl _ _))
  clear hb1
  refine (H2.out _).mono ?_
  rintro e w2 ⟨rfl, hb2⟩
  replace A1 := A1.next hb2
  replace k1 := bnext k1 hb2
  replace E1 := E1.next hb2
  clear hb2
  go_wp2_with fail
  have A2 := Blk.new w2 23 #[.int .i64 x, .int .i64 y]
  replace A1 := A1.alloc (o := .cells #[.int .i64 x, .int .i64 y] 23)
  replace k1 := balloc (o := .cells #[.int .i64 x, .int .i64 y] 23) k1
  replace E1 := E1.next (balloc (o := .cells #[.int .i64 x, .int .i64 y] 23) (Below.refl _ _))
  refine (H3.out _ E1).mono ?_
  rintro e w3 ⟨rfl, hb3⟩
  replace A1 := A1.next hb3
  replace A2 := A2.next hb3
  replace k1 := bnext k1 hb3
  clear hb3 E1
  have b0 := A1.cell 0
  have b1 := A1.cell 1
  have b2 := A2.cell 0
  have b3 := A2.cell 1
  have l1 := A1.lt
  have l2 := A2.lt
  simp only [List.getElem?_toArray, List.getElem?_cons_zero, List.getElem?_cons_succ] at b0 b1 b2 b3
  go_wp2_with fail
  go_ret
  exact ⟨rfl, balloc k1⟩
end Go.Proofs.YtophbfnedglmdaaDoor
