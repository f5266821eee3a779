/- Contracts of a stamp's text: the program's Show, the reference's Digits and Show. -/
import Derived.Test.YtophbfnedglmdaaDoorRight
import Derived.Test.YtophbfnedglmdaaDoorShelf
namespace Go.Proofs.YtophbfnedglmdaaDoor
open Go.ChangeShapes Go.WideShapes Go.ChangeAt Go.RowKit

/-- the decimal digits of a number -/
def dg (u : Nat) : ByteArray := ⟨(Lib.decDigits u).toArray⟩
theorem nDigits_le : ∀ (k u : Nat), 1 ≤ k → u < 10 ^ k → Lib.nDigits u ≤ k
  | 0, _, h, _ => by omega
  | 1, u, _, h => by rw [Lib.nDigits_small (by simpa using h)]; exact Nat.le_refl 1
  | k + 2, u, _, h => by
    by_cases h10 : u < 10
    · rw [Lib.nDigits_small h10]; omega
    · rw [Lib.nDigits_big h10]
      have := nDigits_le (k + 1) (u / 10) (by omega) (by rw [Nat.pow_succ] at h; omega)
      omega
theorem dg_size {u : Nat} (h : u ≤ 9223372036854775807) : (dg u).size ≤ 19 := by
  show (Lib.decDigits u).toArray.size ≤ 19
  rw [List.size_toArray, Lib.decDigits_length]
  exact nDigits_le 19 u (by omega) (by omega)
/-- what a right stamp is shown as -/
def showS (c n : Int) : ByteArray := dg c.toNat ++ ⟨#[64]⟩ ++ dg n.toNat
theorem size_app (a b : ByteArray) : (a ++ b).size = a.size + b.size := ByteArray.size_append

theorem gTab : Tryd.prog.globalNamed "internal/strconv.uint64pow10" = some 3 := by kernel_rfl
abbrev Tab (w : World) : Prop := Lib.TabIs Tryd.prog w "internal/strconv.uint64pow10" .u64 Lib.pow10Tab
theorem tab_next {w w1 : World} (h : Tab w) (hb : Below w.heap.size w w1) : Tab w1 :=
  var?_below hb gTab (World.block_lt_of_cell? w _ (Lib.TabIs.cell h gTab 0 (by decide))) h
theorem tab_drew {w : World} (h : Tab w) : Tab w.drew := h
theorem below_grow (w : World) (k : Nat) (os : Array Obj) : Below w.heap.size w (Sort.grow (w.drewN k) os) :=
  ⟨rfl, rfl, rfl, by show w.heap.size ≤ (w.heap ++ os).size; simp, fun i hi => by show (w.heap ++ os)[i]? = _; rw [Array.getElem?_append_left hi]⟩
theorem itoa_any (n : Int) (w : World) (h0 : 0 ≤ n) (h1 : n ≤ 9223372036854775807) (htab : Tab w) :
    Calls Tryd.prog 11 #[.int .i64 n] w fun e w' => e = .returned (.string (dg n.toNat)) ∧ Below w.heap.size w w' := by
  refine (Tryd.strconv_Itoa n (by omega) h1 w htab).mono ?_
  rintro e w' ⟨rfl, k, os, rfl⟩
  exact ⟨by rw [Lib.itoa, if_neg (by omega)]; rfl, below_grow _ _ _⟩

theorem stampShow_no (c n : Int) (w : World) (h : rightB c n = false) :
    Calls Tryd.prog 6 #[.agg #[.int .i64 c, .int .i64 n]] w fun e w' => e = .returned (.tuple #[.string .empty, .int .i64 1]) ∧ Below w.heap.size w w' := by
  have H := Lib.hid (fun w => h ▸ stampRight c n w)
  go_enter Tryd.func6, Tryd.ntmps6
  go_wp2_with fail
  refine (H.out _).mono ?_
  rintro e w1 ⟨rfl, hb⟩
  go_wp2_with fail
  go_ret2
  exact ⟨rfl, bnext (balloc (Below.refl _ _)) hb⟩

theorem stampShow_yes (c n : Int) (w : World) (h : rightB c n = true) (hc : c ≤ 9223372036854775807) (htab : Lib.TabIs Tryd.prog w "internal/strconv.uint64pow10" .u64 Lib.pow10Tab) :
    Calls Tryd.prog 6 #[.agg #[.int .i64 c, .int .i64 n]] w fun e w' => e = .returned (.tuple #[.string (showS c n), .int .i64 0]) ∧ Below w.heap.size w w' := by
  have H := Lib.hid (fun w => h ▸ stampRight c n w)
  simp only [rightB, decide_eq_true_eq] at h
  go_enter Tryd.func6, Tryd.ntmps6
  go_wp2_with fail
  refine (H.out _).mono ?_
  rintro e w1 ⟨rfl, hb⟩
  have c0 : w1.cell? ⟨w.heap.size, 0, none⟩ = some (.int .i64 c) := kept_cell hb (by simp)
  have c1 : w1.cell? ⟨w.heap.size, 1, none⟩ = some (.int .i64 n) := kept_cell hb (by simp)
  have hb1 := bnext (balloc (Below.refl _ _)) hb
  clear hb H
  go_wp2_with fail
  have ht1 := tab_next htab hb1
  clear htab
  have y0 := dg_size (u := c.toNat) (by omega)
  have y1 := dg_size (u := n.toNat) (by omega)
  have z0 : ¬ 9223372036854775807 < (dg c.toNat).size + 1 := by omega
  have z1 : ¬ 9223372036854775807 < (dg c.toNat).size + 1 + (dg n.toNat).size := by omega
  go_region_held3 (fun w' => w'.cell? ⟨w.heap.size, 0, none⟩ = some (.int .i64 c) ∧ w'.cell? ⟨w.heap.size, 1, none⟩ = some (.int .i64 n) ∧ Tab w') ((((try dsimp only); (refine ⟨?_, ?_, ?_⟩)) <;> first | (simp [*]; done) | (refine kept_cell (by assumption) ?_; simp [*]; done) | (exact tab_drew (by assumption)) | (exact tab_next (‹_ ∧ _ ∧ Tab _›).2.2 (by assumption)) | (exact tab_next (tab_drew (by assumption)) (by assumption))))
    (first | (go_at_call 11; refine (itoa_any _ _ ?_ ?_ ?_).mono ?_; omega; omega; (first | (exact tab_drew (by assumption)) | (exact (‹_ ∧ _ ∧ Tab _›).2.2)); rintro e w2 ⟨rfl, hb2⟩))
  go_wp2_with fail
  go_ret2
  exact ⟨rfl, bnext (bnext hb1.drew (by assumption)) hb2⟩

theorem one_cell (W : World) (x : Int) (t : TypeId) (i : Nat) (hi : i < 1) : (W.alloc (.cells #[.int .u8 x] t)).cell? ⟨W.heap.size, 0 + i, none⟩ = some (.int .u8 ([x].getD i 0)) := by
  obtain rfl : i = 0 := by omega
  simp
theorem conv_one (W : World) (x : Int) : (convert 41 9 (.slice (some ⟨W.heap.size, 0, none⟩) 1 1)).run Tryd.prog (W.alloc (.cells #[.int .u8 x] 5)) = .ok (.string (strOfNums [x])) (W.alloc (.cells #[.int .u8 x] 5)) :=
  run_convert_bytes_arg (P := Tryd.prog) _ 41 5 Tryd.underlying41 Tryd.underlying5 W.heap.size 0 1 1 [x] rfl (one_cell W x _) 9 Tryd.underlying9

theorem one_str (q : Nat) : strOfNums [48 + (q : Int) % 10] = ⟨[UInt8.ofNat (48 + q % 10)].toArray⟩ := by
  unfold strOfNums
  simp only [List.map_cons, List.map_nil]
  rw [show (48 + (q : Int) % 10).toNat = 48 + q % 10 by omega]
theorem dg_small {q : Nat} (h : q < 10) : dg q = strOfNums [48 + (q : Int) % 10] := by
  rw [one_str, dg, Lib.decDigits, dif_pos h, Nat.mod_eq_of_lt h]
theorem dg_big {q : Nat} (h : ¬ q < 10) : dg q = dg (q / 10) ++ strOfNums [48 + (q : Int) % 10] := by
  rw [one_str, dg, Lib.decDigits, dif_neg h]
  apply ByteArray.ext
  simp [dg, ByteArray.data_append]
theorem ba_assoc (a b c : ByteArray) : a ++ b ++ c = a ++ (b ++ c) := by
  apply ByteArray.ext
  simp [ByteArray.data_append, Array.append_assoc]

theorem refDigits (n : Int) (w : World) (h0 : 0 ≤ n) (h1 : n ≤ 9223372036854775807) :
    Calls Tryd.prog 13 #[.int .i64 n] w fun e w' => e = .returned (.string (dg n.toNat)) ∧ Below w.heap.size w w' := by
  have hcv := conv_one
  obtain ⟨N, rfl⟩ : ∃ N : Nat, n = N := ⟨n.toNat, by omega⟩
  rw [Int.toNat_natCast]
  have hs := dg_size (u := N) (by omega)
  go_enter Tryd.func13, Tryd.ntmps13
  go_wp2_with fail
  go_loopw [0, 3] (fun a b wr => ∃ (q : Nat) (s : ByteArray), q ≤ N ∧ a = .int .i64 q ∧ b = .string s ∧ (q < 10 → s = dg N) ∧ (10 ≤ q → dg (q / 10) ++ s = dg N) ∧ Below w.heap.size w wr) (fun a _ _ => (intOf a).toNat)
  case atStart =>
    refine ⟨N, _, Nat.le_refl _, rfl, rfl, fun h => (dg_small h).symm, fun h => (dg_big (by omega)).symm, balloc (Below.refl _ _)⟩
  case round =>
    obtain ⟨q, s, hq, rfl, rfl, hsm, hbg, hb⟩ := hrel
    by_cases h10 : q < 10
    · rw [hsm h10]
      clear hsm hbg
      go_wp2_with fail
      go_ret
      exact ⟨rfl, hb⟩
    · have hbg' := hbg (by omega)
      have hz : s.size ≤ 19 := by rw [← hbg', size_app] at hs; omega
      have hz' : ¬ 9223372036854775807 < 1 + s.size := by omega
      have HB := Lib.hid hbg'
      clear hsm hbg hbg'
      go_wp2_with fail
      refine ⟨⟨q / 10, _, by omega, by go_num, rfl, fun h => ?_, fun h => ?_, balloc hb⟩, by simp [intOf]; omega⟩
      · rw [← HB.out, dg_small h]; simp
      · rw [← HB.out, dg_big (q := q / 10) (by omega), ba_assoc]; simp

theorem refShow_no (c n : Int) (w : World) (h : rightB c n = false) :
    Calls Tryd.prog 7 #[.agg #[.int .i64 c, .int .i64 n]] w fun e w' => e = .returned (.tuple #[.string .empty, .int .i64 1]) ∧ Below w.heap.size w w' := by
  have H := Lib.hid (fun w => h ▸ refRight c n w)
  go_enter Tryd.func7, Tryd.ntmps7
  go_wp2_with fail
  refine (H.out _).mono ?_
  rintro e w1 ⟨rfl, hb⟩
  go_wp2_with fail
  go_ret2
  exact ⟨rfl, bnext (balloc (Below.refl _ _)) hb⟩

theorem refShow_yes (c n : Int) (w : World) (h : rightB c n = true) (hc : c ≤ 9223372036854775807) :
    Calls Tryd.prog 7 #[.agg #[.int .i64 c, .int .i64 n]] w fun e w' => e = .returned (.tuple #[.string (showS c n), .int .i64 0]) ∧ Below w.heap.size w w' := by
  have H := Lib.hid (fun w => h ▸ refRight c n w)
  simp only [rightB, decide_eq_true_eq] at h
  go_enter Tryd.func7, Tryd.ntmps7
  go_wp2_with fail
  refine (H.out _).mono ?_
  rintro e w1 ⟨rfl, hb⟩
  have c0 : w1.cell? ⟨w.heap.size, 0, none⟩ = some (.int .i64 c) := kept_cell hb (by simp)
  have c1 : w1.cell? ⟨w.heap.size, 1, none⟩ = some (.int .i64 n) := kept_cell hb (by simp)
  have hb1 := bnext (balloc (Below.refl _ _)) hb
  clear hb H
  go_wp2_with fail
  have y0 := dg_size (u := c.toNat) (by omega)
  have y1 := dg_size (u := n.toNat) (by omega)
  have z0 : ¬ 9223372036854775807 < (dg c.toNat).size + 1 := by omega
  have z1 : ¬ 9223372036854775807 < (dg c.toNat).size + 1 + (dg n.toNat).size := by omega
  go_region_held3 (fun w' => w'.cell? ⟨w.heap.size, 0, none⟩ = some (.int .i64 c) ∧ w'.cell? ⟨w.heap.size, 1, none⟩ = some (.int .i64 n)) ((((try dsimp only); (refine ⟨?_, ?_⟩)) <;> first | (simp [*]; done) | (refine kept_cell (by assumption) ?_; simp [*]; done)))
    (first | (go_at_call 13; refine (refDigits _ _ ?_ ?_).mono ?_; omega; omega; rintro e w2 ⟨rfl, hb2⟩))
  go_wp2_with fail
  go_ret2
  exact ⟨rfl, bnext (bnext hb1.drew (by assumption)) hb2⟩
end Go.Proofs.YtophbfnedglmdaaDoor
