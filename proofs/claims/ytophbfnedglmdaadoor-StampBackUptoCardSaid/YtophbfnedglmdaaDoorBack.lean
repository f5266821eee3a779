/- The law StampBack: a stamp that is shown is read again, and a text that is read is shown again. -/
import Derived.Test.YtophbfnedglmdaaDoorParses
namespace Go.Proofs.YtophbfnedglmdaaDoor
open Go.ChangeShapes Go.WideShapes Go.ChangeAt Go.RowKit

theorem right_is (c n : Int) (b : Bool) (h : rightB c n = b) (w : World) : Calls Tryd.prog 10 #[.agg #[.int .i64 c, .int .i64 n]] w fun e w' => e = .returned (.bool b) ∧ Below w.heap.size w w' := by
  have := stampRight c n w
  rwa [h] at this

set_option maxHeartbeats 1600000 in
set_option maxRecDepth 100000 in
theorem lawBack (a b : Int) (s : ByteArray) (w : World) (ha : a ≤ 9223372036854775807) (hs : s.size ≤ 1048576) (hE : Env w) :
    Calls Tryd.prog 5 #[.agg #[.int .i64 a, .int .i64 b], .string s] w fun e w' => e = .returned (.bool true) ∧ Below w.heap.size w w' := by
  have k0 : Below w.heap.size w (w.alloc (.cells #[.int .i64 a, .int .i64 b] 23)) := balloc (Below.refl _ _)
  have E0 := hE.next k0
  have A0 := Blk.new w 23 #[.int .i64 a, .int .i64 b]
  cases hr : rightB a b with
  | false =>
    have HR := Lib.hid hr
    clear hr hE
    go_enter Tryd.func5, Tryd.ntmps5
    go_wp2_with fail
    refine (stampShow_no _ _ _ HR.out).mono ?_
    rintro e w1 ⟨rfl, hb1⟩
    replace E0 := E0.next hb1
    replace A0 := A0.next hb1
    replace k0 := bnext k0 hb1
    clear hb1
    have c0 := A0.cell 0
    have c1 := A0.cell 1
    simp only [List.getElem?_toArray, List.getElem?_cons_zero, List.getElem?_cons_succ] at c0 c1
    go_wp2_with fail
    refine (right_is _ _ _ HR.out _).mono ?_
    rintro e w2 ⟨rfl, hb2⟩
    replace E0 := E0.next hb2
    replace k0 := bnext k0 hb2
    clear hb2 A0 c0 c1 HR
    go_wp2_with fail
    rcases text_or s with ⟨c, n, h1, h2, h3⟩ | h
    · subst h3
      have H1 := Lib.hid h1
      have hr := right_nat h1
      clear h1
      refine (stampParse_yes _ _ _ H1.out h2 E0).mono ?_
      rintro e w4 ⟨rfl, hb4⟩
      replace E0 := E0.next hb4
      replace k0 := bnext k0 hb4
      clear hb4
      go_wp2_with fail
      have A0 := Blk.new w4 23 #[.int .i64 c, .int .i64 n]
      replace E0 := E0.next (balloc (o := .cells #[.int .i64 c, .int .i64 n] 23) (Below.refl _ _))
      replace k0 := balloc (o := .cells #[.int .i64 c, .int .i64 n] 23) k0
      refine (stampShow_yes _ _ _ H1.out h2 E0.tab).mono ?_
      rintro e w5 ⟨rfl, hb5⟩
      replace A0 := A0.next hb5
      replace k0 := bnext k0 hb5
      clear hb5 E0
      have c0 := A0.cell 0
      have c1 := A0.cell 1
      simp only [List.getElem?_toArray, List.getElem?_cons_zero, List.getElem?_cons_succ] at c0 c1
      go_wp2_with fail
      refine (right_is _ _ _ H1.out _).mono ?_
      rintro e w6 ⟨rfl, hb6⟩
      go_wp2_with fail
      go_ret
      exact ⟨rfl, bnext k0 hb6⟩
    · refine (stampParse_no s _ hs h E0).mono ?_
      rintro e w4 ⟨rfl, hb4⟩
      replace k0 := bnext k0 hb4
      clear hb4 E0
      go_wp2_with fail
      refine (right_is 1 63 true (by decide) _).mono ?_
      rintro e w5 ⟨rfl, hb5⟩
      go_wp2_with fail
      go_ret
      exact ⟨rfl, bnext (balloc k0) hb5⟩
  | true =>
    have HR := Lib.hid hr
    clear hr hE
    go_enter Tryd.func5, Tryd.ntmps5
    go_wp2_with fail
    refine (stampShow_yes _ _ _ HR.out ha E0.tab).mono ?_
    rintro e w1 ⟨rfl, hb1⟩
    replace E0 := E0.next hb1
    replace A0 := A0.next hb1
    replace k0 := bnext k0 hb1
    clear hb1
    have c0 := A0.cell 0
    have c1 := A0.cell 1
    simp only [List.getElem?_toArray, List.getElem?_cons_zero, List.getElem?_cons_succ] at c0 c1
    go_wp2_with fail
    refine (right_is _ _ _ HR.out _).mono ?_
    rintro e w2 ⟨rfl, hb2⟩
    replace E0 := E0.next hb2
    replace A0 := A0.next hb2
    replace k0 := bnext k0 hb2
    clear hb2 c0 c1
    go_wp2_with fail
    refine (stampParse_yes _ _ _ HR.out ha E0).mono ?_
    rintro e w3 ⟨rfl, hb3⟩
    replace E0 := E0.next hb3
    replace A0 := A0.next hb3
    replace k0 := bnext k0 hb3
    clear hb3 HR
    have c0 := A0.cell 0
    have c1 := A0.cell 1
    have l0 := A0.lt
    simp only [List.getElem?_toArray, List.getElem?_cons_zero, List.getElem?_cons_succ] at c0 c1
    go_wp2_with fail
    replace E0 := E0.next (balloc (o := .cells #[.int .i64 a, .int .i64 b] 23) (Below.refl _ _))
    replace k0 := balloc (o := .cells #[.int .i64 a, .int .i64 b] 23) k0
    clear c0 c1 l0 A0
    rcases text_or s with ⟨c, n, h1, h2, h3⟩ | h
    · subst h3
      have H1 := Lib.hid h1
      have hr := right_nat h1
      clear h1
      refine (stampParse_yes _ _ _ H1.out h2 E0).mono ?_
      rintro e w4 ⟨rfl, hb4⟩
      replace E0 := E0.next hb4
      replace k0 := bnext k0 hb4
      clear hb4
      go_wp2_with fail
      have A0 := Blk.new w4 23 #[.int .i64 c, .int .i64 n]
      replace E0 := E0.next (balloc (o := .cells #[.int .i64 c, .int .i64 n] 23) (Below.refl _ _))
      replace k0 := balloc (o := .cells #[.int .i64 c, .int .i64 n] 23) k0
      refine (stampShow_yes _ _ _ H1.out h2 E0.tab).mono ?_
      rintro e w5 ⟨rfl, hb5⟩
      replace A0 := A0.next hb5
      replace k0 := bnext k0 hb5
      clear hb5 E0
      have c0 := A0.cell 0
      have c1 := A0.cell 1
      simp only [List.getElem?_toArray, List.getElem?_cons_zero, List.getElem?_cons_succ] at c0 c1
      go_wp2_with fail
      refine (right_is _ _ _ H1.out _).mono ?_
      rintro e w6 ⟨rfl, hb6⟩
      go_wp2_with fail
      go_ret
      exact ⟨rfl, bnext k0 hb6⟩
    · refine (stampParse_no s _ hs h E0).mono ?_
      rintro e w4 ⟨rfl, hb4⟩
      replace k0 := bnext k0 hb4
      clear hb4 E0
      go_wp2_with fail
      refine (right_is 1 63 true (by decide) _).mono ?_
      rintro e w5 ⟨rfl, hb5⟩
      go_wp2_with fail
      go_ret
      exact ⟨rfl, bnext (balloc k0) hb5⟩
end Go.Proofs.YtophbfnedglmdaaDoor
