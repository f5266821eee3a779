/- Contract of the program's Parse: a right stamp's text is read, all else is refused. -/
import Derived.Test.YtophbfnedglmdaaDoorParse2
import Derived.Lib.AtoiErrMem
namespace Go.Proofs.YtophbfnedglmdaaDoor
open Go.ChangeShapes Go.WideShapes Go.ChangeAt Go.RowKit

/-- a variable that holds an error, or none -/
def ErrIn (g : Nat) (w : World) : Prop := ∃ ev, w.cell? ⟨g, 0, none⟩ = some ev ∧ (ev = .nilIface ∨ ∃ te pe, ev = .iface te pe)
/-- what the library's variables hold -/
structure Env (w : World) : Prop where
  tab : Tab w
  len : ∃ m : Int, w.cell? ⟨0, 0, none⟩ = some (.int .i64 m)
  syn : ErrIn 1 w
  ran : ErrIn 2 w
theorem Env.next {w w1 : World} (h : Env w) (hb : Below w.heap.size w w1) : Env w1 := by
  obtain ⟨h1, ⟨m, h2⟩, ⟨e1, h3, h4⟩, ⟨e2, h5, h6⟩⟩ := h
  exact ⟨tab_next h1 hb, ⟨m, kept_cell hb h2⟩, ⟨e1, kept_cell hb h3, h4⟩, ⟨e2, kept_cell hb h5, h6⟩⟩

theorem atoi_le {l : List UInt8} {v : Int} (h : Lib.atoiAll l = .ok v) : v ≤ 9223372036854775807 := by
  unfold Lib.atoiAll at h
  cases l with
  | nil => cases h
  | cons c r =>
    simp only at h
    split at h
    · cases h
    · cases h
    · split at h
      · cases h
      · split at h
        · cases h
        · injection h with h
          subst h
          split <;> omega
/-- a number, and an error or none -/
def AtoiPost (e : Ending) : Prop := ∃ v : Int, v ≤ 9223372036854775807 ∧ (e = .returned (.tuple #[.int .i64 v, .nilIface]) ∨ ∃ p, e = .returned (.tuple #[.int .i64 v, .iface 49 (.pointer (some p))]))
theorem atoi_any (s : ByteArray) (w : World) (hs : s.size ≤ 1048576) (hE : Env w) :
    Calls Tryd.prog 15 #[.string s] w fun e w' => AtoiPost e ∧ Below w.heap.size w w' := by
  obtain ⟨_, _, ⟨e1, h1, h2⟩, ⟨e2, h3, h4⟩⟩ := hE
  rcases hr : Lib.atoiAll s.data.toList with v | _ | _
  · refine (Tryd.strconv_Atoi_ok s (by omega) v hr w).mono ?_
    rintro e w' ⟨rfl, rfl | ⟨t, rfl⟩⟩
    · exact ⟨⟨v, atoi_le hr, Or.inl rfl⟩, Below.refl _ _⟩
    · exact ⟨⟨v, atoi_le hr, Or.inl rfl⟩, Lib.bytesWorld_below _ _ _⟩
  · refine (Any.strconv_Atoi_syntax Tryd.laysC172 s (by omega) hr e1 w h1 h2).mono ?_
    rintro e w' ⟨N, rfl, _, _, hb⟩
    exact ⟨⟨0, by omega, Or.inr ⟨_, rfl⟩⟩, hb⟩
  · refine (Any.strconv_Atoi_range Tryd.laysC172 s (by omega) hr e2 w h3 h4).mono ?_
    rintro e w' ⟨N, rfl, _, _, hb⟩
    refine ⟨⟨_, ?_, Or.inr ⟨_, rfl⟩⟩, hb⟩
    unfold Lib.atoiSat
    split <;> omega
theorem atoi_dg (c : Int) (w : World) (h0 : 0 ≤ c) (hc : c ≤ 9223372036854775807) :
    Calls Tryd.prog 15 #[.string (dg c.toNat)] w fun e w' => e = .returned (.tuple #[.int .i64 c, .nilIface]) ∧ Below w.heap.size w w' := by
  have hs := dg_size (u := c.toNat) (by omega)
  have ha := atoi_dec (u := c.toNat) (by omega)
  rw [show ((c.toNat : Nat) : Int) = c by omega] at ha
  refine (Tryd.strconv_Atoi_ok (dg c.toNat) (by omega) c (by rw [dg_list]; exact ha) w).mono ?_
  rintro e w' ⟨rfl, rfl | ⟨t, rfl⟩⟩
  · exact ⟨rfl, Below.refl _ _⟩
  · exact ⟨rfl, Lib.bytesWorld_below _ _ _⟩

theorem cut_le (l r : List UInt8) : (Lib.cut l r).1.length ≤ l.length ∧ (Lib.cut l r).2.1.length ≤ l.length := by
  unfold Lib.cut
  split
  · exact ⟨by rw [List.length_take]; omega, by rw [List.length_drop]; omega⟩
  · exact ⟨Nat.le_refl _, Nat.zero_le _⟩
/-- a text cut at its first @ -/
def CutPost (s : ByteArray) (e : Ending) : Prop := ∃ (a b : ByteArray) (f : Bool), e = .returned (.tuple #[.string a, .string b, .bool f]) ∧ a.size ≤ s.size ∧ b.size ≤ s.size
theorem cut_any (s : ByteArray) (w : World) (hs : s.size ≤ 1048576) (hE : Env w) :
    Calls Tryd.prog 14 #[.string s, .string ⟨#[64]⟩] w fun e w' => CutPost s e ∧ Below w.heap.size w w' := by
  obtain ⟨_, ⟨m, hm⟩, _, _⟩ := hE
  refine (Tryd.strings_Cut s ⟨#[64]⟩ m w (by omega) hm).mono ?_
  rintro e w' ⟨rfl, n, rfl⟩
  have := cut_le s.data.toList [64]
  rw [size_list, ← List.size_toArray, ← List.size_toArray] at this
  exact ⟨⟨_, _, _, rfl, this.1, this.2⟩, bdrewN (Below.refl _ _) _⟩
theorem cut_text (c n : Int) (w : World) (hs : (showS c n).size ≤ 1048576) (hE : Env w) :
    Calls Tryd.prog 14 #[.string (showS c n), .string ⟨#[64]⟩] w fun e w' => e = .returned (.tuple #[.string (dg c.toNat), .string (dg n.toNat), .bool true]) ∧ Below w.heap.size w w' := by
  obtain ⟨_, ⟨m, hm⟩, _, _⟩ := hE
  refine (Tryd.strings_Cut (showS c n) ⟨#[64]⟩ m w (by omega) hm).mono ?_
  rintro e w' ⟨rfl, k, rfl⟩
  refine ⟨?_, bdrewN (Below.refl _ _) _⟩
  rw [showS_list, show (⟨#[64]⟩ : ByteArray).data.toList = [64] from rfl, cut_at _ _ (no_at _)]
  rfl

theorem showS_size {c n : Int} (h : rightB c n = true) (hc : c ≤ 9223372036854775807) : (showS c n).size ≤ 40 := by
  have r := right_nat h
  have h1 := dg_size (u := c.toNat) (by omega)
  have h2 := dg_size (u := n.toNat) (by omega)
  rw [showS, size_app, size_app]
  have h3 : (⟨#[64]⟩ : ByteArray).size = 1 := rfl
  omega

set_option maxHeartbeats 400000 in
theorem stampParse_yes (c n : Int) (w : World) (h : rightB c n = true) (hc : c ≤ 9223372036854775807) (hE : Env w) :
    Calls Tryd.prog 8 #[.string (showS c n)] w fun e w' => e = .returned (.tuple #[.agg #[.int .i64 c, .int .i64 n], .int .i64 0]) ∧ Below w.heap.size w w' := by
  have r := right_nat h
  have HS : Hid ((showS c n).size ≤ 1048576) := Nat.le_trans (showS_size h hc) (by omega)
  have H := Lib.hid h
  clear h
  go_enter Tryd.func8, Tryd.ntmps8
  go_wp2_with fail
  have E1 := hE.next (balloc (o := .cells #[.int .i64 0, .int .i64 0] 23) (Below.refl _ _))
  refine (cut_text c n _ HS.out E1).mono ?_
  rintro e w1 ⟨rfl, hb1⟩
  have E2 := E1.next hb1
  have B1 := (Blk.new w 23 #[.int .i64 0, .int .i64 0]).next hb1
  have k1 := bnext (balloc (Below.refl _ _)) hb1
  clear hE E1 hb1
  go_wp2_with fail
  refine (atoi_dg _ _ (by omega) (by omega)).mono ?_
  rintro e w2 ⟨rfl, hb2⟩
  replace E2 := E2.next hb2
  replace B1 := B1.next hb2
  replace k1 := bnext k1 hb2
  clear hb2
  go_wp2_with fail
  refine (atoi_dg _ _ (by omega) (by omega)).mono ?_
  rintro e w3 ⟨rfl, hb3⟩
  replace E2 := E2.next hb3
  replace B1 := B1.next hb3
  replace k1 := bnext k1 hb3
  clear hb3
  go_wp2_with fail
  have E3 := E2.next (balloc (o := .cells #[.int .i64 c, .int .i64 n] 23) (Below.refl _ _))
  refine (stampShow_yes _ _ _ H.out hc E3.tab).mono ?_
  rintro e w4 ⟨rfl, hb4⟩
  have B2 := (Blk.new w3 23 #[.int .i64 c, .int .i64 n]).next hb4
  replace B1 := B1.alloc.next hb4
  replace k1 := bnext (balloc k1) hb4
  clear hb4 E2 E3
  have b0 := B1.cell 0
  have b1 := B1.cell 1
  have b2 := B2.cell 0
  have b3 := B2.cell 1
  have f0 := B1.frozen 0
  have f1 := B1.frozen 1
  simp only [List.getElem?_toArray, List.getElem?_cons_zero, List.getElem?_cons_succ] at b0 b1 b2 b3
  go_wp2_with fail
  have B3 := (B1.set_ 0 (.int .i64 c)).set_ 1 (.int .i64 n)
  have k0 := B3.cell 0
  have k2 := B3.cell 1
  simp only [List.setIfInBounds_toArray, List.set_cons_zero, List.set_cons_succ, List.getElem?_toArray, List.getElem?_cons_zero, List.getElem?_cons_succ] at k0 k2
  refine ⟨rfl, _, by simp [results, Tryd.results8, go_sem, k0, k2] <;> rfl, rfl, bset (bset k1 (by simp)) (by simp)⟩

theorem ba_ne {a b : ByteArray} (h : a ≠ b) : (a.toList == b.toList) = false := by
  rw [beq_eq_false_iff_ne, ByteArray.toList_eq, ByteArray.toList_eq]
  exact fun e => h (ByteArray.ext (Array.ext' e))

set_option maxHeartbeats 1600000 in
theorem stampParse_no (s : ByteArray) (w : World) (hs : s.size ≤ 1048576) (hN : NoText s) (hE : Env w) :
    Calls Tryd.prog 8 #[.string s] w fun e w' => e = .returned (.tuple #[.agg #[.int .i64 0, .int .i64 0], .int .i64 17]) ∧ Below w.heap.size w w' := by
  have HN := Lib.hid hN
  clear hN
  go_enter Tryd.func8, Tryd.ntmps8
  go_wp2_with fail
  have E1 := hE.next (balloc (o := .cells #[.int .i64 0, .int .i64 0] 23) (Below.refl _ _))
  refine (cut_any s _ hs E1).mono ?_
  rintro e w1 ⟨⟨a, b, f, rfl, ha, hb⟩, hb1⟩
  have E2 := E1.next hb1
  have B1 := (Blk.new w 23 #[.int .i64 0, .int .i64 0]).next hb1
  have k1 := bnext (balloc (Below.refl _ _)) hb1
  clear hE E1 hb1
  go_wp2_with fail
  refine (atoi_any _ _ (by omega) E2).mono ?_
  rintro e w2 ⟨⟨u, hu, he⟩, hb2⟩
  replace E2 := E2.next hb2
  replace B1 := B1.next hb2
  replace k1 := bnext k1 hb2
  clear hb2
  rcases he with rfl | ⟨p, rfl⟩
  all_goals
    go_wp2_with fail
    refine (atoi_any _ _ (by omega) E2).mono ?_
    rintro e w3 ⟨⟨v, hv, he⟩, hb3⟩
    replace E2 := E2.next hb3
    replace B1 := B1.next hb3
    replace k1 := bnext k1 hb3
    clear hb3
    rcases he with rfl | ⟨q, rfl⟩
  all_goals
    go_wp2_with fail
    have E3 := E2.next (balloc (o := .cells #[.int .i64 u, .int .i64 v] 23) (Below.refl _ _))
    replace B1 := B1.alloc (o := .cells #[.int .i64 u, .int .i64 v] 23)
    replace k1 := balloc (o := .cells #[.int .i64 u, .int .i64 v] 23) k1
    cases hr : rightB u v with
    | false =>
      refine (stampShow_no _ _ _ hr).mono ?_
      rintro e w4 ⟨rfl, hb4⟩
      replace B1 := B1.next hb4
      replace k1 := bnext k1 hb4
      clear hb4 E2 E3 hr
      have b0 := B1.cell 0
      have b1 := B1.cell 1
      have f0 := B1.frozen 0
      have f1 := B1.frozen 1
      have B3 := (B1.set_ 0 (.int .i64 0)).set_ 1 (.int .i64 0)
      simp only [List.getElem?_toArray, List.getElem?_cons_zero, List.getElem?_cons_succ] at b0 b1
      go_wp2_with fail
      all_goals
        have k0 := B3.cell 0
        have k2 := B3.cell 1
        simp only [List.setIfInBounds_toArray, List.set_cons_zero, List.set_cons_succ, List.getElem?_toArray, List.getElem?_cons_zero, List.getElem?_cons_succ] at k0 k2
        refine ⟨rfl, _, by simp [results, Tryd.results8, go_sem, k0, k2] <;> rfl, rfl, bset (bset k1 (by simp)) (by simp)⟩
    | true =>
      have hne := ba_ne (fun h => HN.out u v hr hu (Eq.symm h))
      refine (stampShow_yes _ _ _ hr hu E3.tab).mono ?_
      rintro e w4 ⟨rfl, hb4⟩
      replace B1 := B1.next hb4
      replace k1 := bnext k1 hb4
      clear hb4 E2 E3 hr
      have b0 := B1.cell 0
      have b1 := B1.cell 1
      have f0 := B1.frozen 0
      have f1 := B1.frozen 1
      have B3 := (B1.set_ 0 (.int .i64 0)).set_ 1 (.int .i64 0)
      simp only [List.getElem?_toArray, List.getElem?_cons_zero, List.getElem?_cons_succ] at b0 b1
      go_wp2_with fail
      all_goals
        have k0 := B3.cell 0
        have k2 := B3.cell 1
        simp only [List.setIfInBounds_toArray, List.set_cons_zero, List.set_cons_succ, List.getElem?_toArray, List.getElem?_cons_zero, List.getElem?_cons_succ] at k0 k2
        refine ⟨rfl, _, by simp [results, Tryd.results8, go_sem, k0, k2] <;> rfl, rfl, bset (bset k1 (by simp)) (by simp)⟩
end Go.Proofs.YtophbfnedglmdaaDoor
