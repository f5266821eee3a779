/- Contracts of the program's read of a vector's counts, and the number of zeros behind a number's last one. -/
import Derived.Test.YtkphfdmelfhnoaaGreatDoorPCounts
import Derived.Laws.BitsAllLaws
import Derived.Shelf.Spec.TrailingZeros
set_option linter.all false
set_option linter.unnecessarySimpa false
set_option linter.unusedSimpArgs false
set_option linter.unusedVariables false
namespace Go.Proofs.YtkphfdmelfhnoaaGreatDoor
open Go.ChangeShapes Go.WideShapes Go.ChangeAt Go.RowKit
def tzRen : Go.Shelf.Ren := ⟨fun | 29 => 249 | n => n, fun | 0 => 0 | 3 => 3 | 4 => 4 | 5 => 5 | 22 => 227 | 25 => 44 | 54 => 280 | n => n, fun | 1 => 0 | n => n⟩
theorem tzLays : Go.Proofs.Lays7.n29 Tryz.prog tzRen := {
 mixed := by kernel_rfl
 f29 := Tryz.func249.trans (congrArg some (by kernel_rfl))
 t0 := Tryz.underlying0
 a0 := Tryz.isAgg0
 z0 := Tryz.sizeOf0
 v0 := Tryz.zeroValue0
 i0 := by kernel_rfl
 t3 := Tryz.underlying3
 a3 := Tryz.isAgg3
 z3 := Tryz.sizeOf3
 v3 := Tryz.zeroValue3
 i3 := by kernel_rfl
 t4 := Tryz.underlying4
 a4 := Tryz.isAgg4
 z4 := Tryz.sizeOf4
 v4 := Tryz.zeroValue4
 i4 := by kernel_rfl
 t5 := Tryz.underlying5
 a5 := Tryz.isAgg5
 z5 := Tryz.sizeOf5
 v5 := Tryz.zeroValue5
 i5 := by kernel_rfl
 t22 := Tryz.underlying227
 a22 := Tryz.isAgg227
 z22 := Tryz.sizeOf227
 v22 := Tryz.zeroValue227
 i22 := by kernel_rfl
 t25 := Tryz.underlying44
 a25 := Tryz.isAgg44
 z25 := Tryz.sizeOf44
 v25 := Tryz.zeroValue44
 i25 := by kernel_rfl
 t54 := Tryz.underlying280
 a54 := Tryz.isAgg280
 z54 := Tryz.sizeOf280
 g1 := by kernel_rfl }
def TzTab (w : World) : Prop := TabAt 0 Lib.deBruijn64tab w
theorem TzTab.next {w w1 : World} (h : TzTab w) (hb : Below w.heap.size w w1) : TzTab w1 := fun j hj => kept_cell hb (h j hj)
theorem trailing (x : Nat) (hx : x < 18446744073709551616) (w : World) (hT : TzTab w) :
  Calls Tryz.prog 249 #[.int .u64 x] w fun e w' => e = .returned (.int .i64 (Lib.ctz 64 x)) ∧ w = w' :=
 (Any7.bits_TrailingZeros64 tzLays x hx w fun _ => hT).mono fun _ _ ⟨h1, h2⟩ => ⟨h1, h2.symm⟩
def cnts (f : Nat → Int) (M : Nat) : Array Value := rowOf 65 fun i => if i < 64 then .int .i64 (f i) else .int .u64 M
theorem cnts_size (f : Nat → Int) (M : Nat) : (cnts f M).size = 65 := rowOf_size _ _
theorem cnts_one (f : Nat → Int) (M : Nat) : (cnts f M).all (·.oneCell') = true := rowOf_one fun i => by split <;> rfl
theorem infoCnts (f : Nat → Int) (M : Nat) : (Tryz.prog.info? 229).map (·.size) = some (cnts f M).size := by rw [cnts_size]; kernel_rfl
theorem cnts_at {f : Nat → Int} {M n : Nat} (h : n < 64) : (cnts f M)[n]? = some (.int .i64 (f n)) := by rw [cnts, rowOf_at (by omega), if_pos h]
theorem cnts_has {f : Nat → Int} {M : Nat} : (cnts f M)[64]? = some (.int .u64 M) := by rw [cnts, rowOf_at (by omega)]; rfl
theorem cnts_set {f : Nat → Int} {M n : Nat} (h : n < 64) (x : Int) : (cnts f M).setIfInBounds n (.int .i64 x) = cnts (fun k => if k = n then x else f k) M := by
 rw [cnts, rowOf_set, cnts]
 refine rowOf_congr fun i _ => ?_
 by_cases hi : i = n
 ·subst hi; simp [h]
 ·simp [hi]
theorem cnts_set_has {f : Nat → Int} {M M' : Nat} : (cnts f M).setIfInBounds 64 (.int .u64 M') = cnts f M' := by
 rw [cnts, rowOf_set, cnts]
 refine rowOf_congr fun i _ => ?_
 by_cases hi : i = 64
 ·subst hi; simp
 ·have : i < 64 := by omega
  simp [hi, this]
theorem cnts_zero : cnts (fun _ => 0) 0 = #[.int .i64 0, .int .i64 0, .int .i64 0, .int .i64 0, .int .i64 0, .int .i64 0, .int .i64 0, .int .i64 0, .int .i64 0, .int .i64 0, .int .i64 0, .int .i64 0, .int .i64 0, .int .i64 0, .int .i64 0, .int .i64 0, .int .i64 0, .int .i64 0, .int .i64 0, .int .i64 0, .int .i64 0, .int .i64 0, .int .i64 0, .int .i64 0, .int .i64 0, .int .i64 0, .int .i64 0, .int .i64 0, .int .i64 0, .int .i64 0, .int .i64 0, .int .i64 0, .int .i64 0, .int .i64 0, .int .i64 0, .int .i64 0, .int .i64 0, .int .i64 0, .int .i64 0, .int .i64 0, .int .i64 0, .int .i64 0, .int .i64 0, .int .i64 0, .int .i64 0, .int .i64 0, .int .i64 0, .int .i64 0, .int .i64 0, .int .i64 0, .int .i64 0, .int .i64 0, .int .i64 0, .int .i64 0, .int .i64 0, .int .i64 0, .int .i64 0, .int .i64 0, .int .i64 0, .int .i64 0, .int .i64 0, .int .i64 0, .int .i64 0, .int .i64 0, .int .u64 0] := by kernel_rfl
theorem div_pow_nat (M n : Nat) : (M : Int) / 2 ^ n = ((M / 2 ^ n : Nat) : Int) := by
 rw [Int.natCast_ediv, Int.natCast_pow]; rfl
theorem bit_test {M n : Nat} (hM : M < 18446744073709551616) : (bits .and .u64 ((M : Int) / 2 ^ n) 1 == 0) = !M.testBit n := by
 have h1 : M / 2 ^ n < 18446744073709551616 := Nat.lt_of_le_of_lt (Nat.div_le_self _ _) hM
 have e : bits .and .u64 ((M : Int) / 2 ^ n) 1 = ((M / 2 ^ n &&& 1 : Nat) : Int) := by
  rw [div_pow_nat]
  exact u64_and_nat _ 1 h1 (by omega)
 rw [e, Nat.testBit, Nat.shiftRight_eq_div_pow, Nat.and_comm 1]
 generalize M / 2 ^ n &&& 1 = q
 cases q with
 | zero => rfl
 | succ q => rw [bne, Bool.not_not]; simp <;> omega
theorem set_bit {M n : Nat} (hM : M < 18446744073709551616) (hn : n < 64) : bits .or .u64 (M : Int) (IntKind.u64.wrap (2 ^ n)) = ((M ||| 2 ^ n : Nat) : Int) := by
 have h2 : 2 ^ n < 18446744073709551616 := Nat.pow_lt_pow_right (by omega) hn
 have e : IntKind.u64.wrap (2 ^ n) = ((2 ^ n : Nat) : Int) := by
  rw [IntKind.wrap_u64, show ((2 : Int) ^ n) = ((2 ^ n : Nat) : Int) by rw [Int.natCast_pow]; rfl]
  generalize 2 ^ n = q at h2
  omega
 rw [e, u64_or_nat _ _ hM h2]
theorem or_bit_lt {M n : Nat} (hM : M < 18446744073709551616) (hn : n < 64) : M ||| 2 ^ n < 18446744073709551616 :=
 Nat.or_lt_two_pow (n := 64) hM (Nat.pow_lt_pow_right (by omega) hn)
theorem or_bit (M n i : Nat) : (M ||| 2 ^ n).testBit i = (M.testBit i || decide (n = i)) := by
 rw [Nat.testBit_or, Nat.testBit_two_pow]
theorem countOf_pos {l : List Stamp} {n : Int} (h : countOf l n ≠ 0) : 1 ≤ countOf l n := by
 induction l with
 | nil => exact absurd rfl h
 | cons s l ih =>
  rw [countOf] at h ⊢
  split
  ·rename_i hs
   simp only [rightB, decide_eq_true_eq] at hs
   omega
  ·rename_i hs
   rw [if_neg hs] at h
   exact ih h
theorem countOf_snoc (l : List Stamp) (x : Stamp) (n : Int) : countOf (l ++ [x]) n = if countOf l n = 0 then (if x.node = n ∧ rightB x.count x.node = true then x.count else 0) else countOf l n := by
 induction l with
 | nil => simp [countOf]
 | cons s l ih =>
  rw [List.cons_append, countOf, countOf, ih]
  by_cases hs : s.node = n ∧ rightB s.count s.node = true
  ·rw [if_pos hs, if_pos hs, if_neg]
   have := hs.2
   simp only [rightB, decide_eq_true_eq] at this
   omega
  ·rw [if_neg hs, if_neg hs]
def bitsOf (p : Nat → Bool) : Nat → Nat
 | 0 => 0
 | k + 1 => if p k then bitsOf p k ||| 2 ^ k else bitsOf p k
theorem bitsOf_bit (p : Nat → Bool) : ∀ k i, (bitsOf p k).testBit i = (decide (i < k) && p i)
 | 0, i => by simp [bitsOf]
 | k + 1, i => by
  have ih := bitsOf_bit p k i
  rw [bitsOf]
  by_cases hk : p k = true
  ·rw [if_pos hk, or_bit, ih]
   by_cases hi : k = i
   ·subst hi; simp [hk]
   ·rw [decide_eq_false hi, Bool.or_false]
    congr 1
    exact decide_eq_decide.2 ⟨fun h => by omega, fun h => by omega⟩
  ·rw [if_neg hk, ih]
   by_cases hi : k = i
   ·subst hi; simp [hk]
   ·congr 1
    exact decide_eq_decide.2 ⟨fun h => by omega, fun h => by omega⟩
theorem bitsOf_lt (p : Nat → Bool) : ∀ k, k ≤ 64 → bitsOf p k < 18446744073709551616
 | 0, _ => by simp [bitsOf]
 | k + 1, h => by
  rw [bitsOf]
  split
  ·exact or_bit_lt (bitsOf_lt p k (by omega)) (by omega)
  ·exact bitsOf_lt p k (by omega)
theorem bits_same {M N : Nat} (hM : M < 18446744073709551616) (hN : N < 18446744073709551616) (h : ∀ i, i < 64 → M.testBit i = N.testBit i) : M = N := by
 apply Nat.eq_of_testBit_eq
 intro i
 rcases Nat.lt_or_ge i 64 with c | c
 ·exact h i c
 ·have hp : (18446744073709551616 : Nat) ≤ 2 ^ i := Nat.pow_le_pow_right (n := 2) (by omega) c
  rw [Nat.testBit_lt_two_pow (Nat.lt_of_lt_of_le hM hp), Nat.testBit_lt_two_pow (Nat.lt_of_lt_of_le hN hp)]
def maskOf (l : List Stamp) : Nat := bitsOf (fun n => !decide (countOf l n = 0)) 64
theorem maskOf_bit {l : List Stamp} {i : Nat} (h : i < 64) : (maskOf l).testBit i = !decide (countOf l i = 0) := by
 rw [maskOf, bitsOf_bit, decide_eq_true h, Bool.true_and]
theorem maskOf_lt (l : List Stamp) : maskOf l < 18446744073709551616 := bitsOf_lt _ 64 (by omega)
set_option maxRecDepth 100000 in
theorem vectorRead (l : List Stamp) (v : Value) (w : World) (h : Stamps w w.heap.size v l) :
  Calls Tryz.prog 191 #[v] w fun e w' => e = .returned (.agg (cnts (fun n => countOf l n) (maskOf l))) ∧ Below w.heap.size w w' := by
 have hle := h.len_le
 obtain ⟨A, c, rfl, _⟩ := id h
 go_enter Tryz.func191, Tryz.ntmps191
 go_wp2_with fail
 go_loopw [7] (fun k wr => ∃ (m M : Nat), m ≤ l.length ∧ k = .int .i64 m ∧ M < 18446744073709551616 ∧ (∀ i : Nat, i < 64 → M.testBit i = !decide (countOf (l.take m) i = 0)) ∧ Below w.heap.size w wr ∧ Blk wr w.heap.size 229 (cnts (fun n => countOf (l.take m) n) M)) (fun k _ => l.length - (intOf k).toNat)
 case atStart => 
  refine ⟨0, 0, Nat.zero_le _, rfl, by omega, fun i _ => by simp [countOf], balloc (Below.refl _ _), ?_⟩
  rw [show (fun n : Nat => countOf (l.take 0) n) = fun _ => 0 from funext fun n => by simp [countOf], cnts_zero]
  exact Blk.new _ _ _
 case round =>
  obtain ⟨m, M, hm, rfl, hM, hbit, hb, hC⟩ := hrel
  have Hbit := Lib.hid hbit
  clear hbit
  by_cases hlt : m < l.length
  ·obtain ⟨x, hx⟩ : ∃ x, l[m]? = some x := ⟨l[m], List.getElem?_eq_getElem hlt⟩
   obtain ⟨b, off, c', hv', hbb, e0, e1, _, _⟩ := stamps_at h hx
   injection hv' with hv1 hv2 hv3
   subst hv1
   have f0 := (hb.cell (p := ⟨b, off + m * 2, none⟩) hbb).trans e0
   have f1 := (hb.cell (p := ⟨b, off + m * 2 + 1, none⟩) hbb).trans e1
   have ht := take_snoc hx
   obtain ⟨xc, xn⟩ := x
   simp only at f0 f1 ht
   have Ht := Lib.hid ht
   clear ht hv2 hv3 e0 e1 hx
   cases hr : rightB xc xn with
   | false =>
    go_wp2_with fail
    refine (stampRightOf _ _ _ hr).mono ?_
    rintro e w1 ⟨rfl, hb1⟩
    go_wp2_with fail
    refine ⟨⟨m + 1, M, by omega, by go_num, hM, fun i hi => ?_, bnext (balloc hb) hb1, ?_⟩, by simp [intOf]; omega⟩
    ·rw [Hbit.out i hi, Ht.out, countOf_snoc]
     simp only [hr]
     split <;> simp_all
    ·have e : (fun n : Nat => countOf (l.take (m + 1)) n) = fun n : Nat => countOf (l.take m) n := by
      funext n
      rw [Ht.out, countOf_snoc]
      simp only [hr]
      split <;> simp_all
     rw [e]
     exact hC.alloc.next hb1
   | true =>
    go_wp2_with fail
    refine (stampRightOf _ _ _ hr).mono ?_
    rintro e w1 ⟨rfl, hb1⟩
    have B1 := (Blk.new wr 49 #[.int .i64 xc, .int .i64 xn]).next hb1
    have hC0 := hC
    have hb0 := hb
    replace hC := hC.alloc (o := .cells #[.int .i64 xc, .int .i64 xn] 49) |>.next hb1
    replace hb := bnext (balloc hb) hb1
    simp only [rightB, decide_eq_true_eq] at hr
    obtain ⟨r1, r2, r3⟩ := hr
    obtain ⟨n, rfl⟩ : ∃ n : Nat, xn = n := ⟨xn.toNat, by omega⟩
    have r4 : n < 64 := by omega
    have c0 := (hC.cell n).trans (cnts_at r4)
    have c1 := (hC.cell 64).trans cnts_has
    have d0 := hC.frozen n
    have d1 := hC.frozen 64
    have b0 := B1.cell 0
    have b1 := B1.cell 1
    simp only [List.getElem?_toArray, List.getElem?_cons_zero, List.getElem?_cons_succ] at b0 b1
    have hne : w.heap.size < wr.heap.size := by have := hb0.size; exact hC0.lt
    have ht := bit_test (n := n) hM
    have Hb1 := Lib.hid hb1
    clear hb1 hC0 hb0
    cases hq : M.testBit n with
    | true =>
     rw [hq] at ht
     simp only [Bool.not_true] at ht
     go_wp2_with fail
     rw [Hbit.out n r4, Bool.not_eq_true', decide_eq_false_iff_not] at hq
     have key : ∀ i : Nat, countOf (l.take (m + 1)) i = countOf (l.take m) i := fun i => by
      rw [Ht.out, countOf_snoc]
      split
      ·rename_i h0
       rw [if_neg, h0]
       rintro ⟨h1, _⟩
       simp only at h1
       rw [← h1] at h0
       exact hq h0
      ·rfl
     refine ⟨⟨m + 1, M, by omega, by go_num, hM, fun i hi => by rw [key, Hbit.out i hi], hb, ?_⟩, by simp [intOf]; omega⟩
     rw [funext key]
     exact hC
    | false =>
     rw [hq] at ht
     simp only [Bool.not_false] at ht
     go_wp2_with fail
     rw [Hbit.out n r4, Bool.not_eq_false', decide_eq_true_eq] at hq
     have key : ∀ i : Nat, countOf (l.take (m + 1)) i = if i = n then xc else countOf (l.take m) i := fun i => by
      rw [Ht.out, countOf_snoc]
      have hr : rightB xc n = true := by simp only [rightB, decide_eq_true_eq]; omega
      by_cases hi : i = n
      ·subst hi
       rw [if_pos hq, if_pos ⟨rfl, hr⟩, if_pos rfl]
      ·rw [if_neg hi]
       split
       ·rename_i h0
        rw [if_neg (by rintro ⟨h1, _⟩; simp only at h1; omega), h0]
       ·rfl
     refine ⟨⟨m + 1, M ||| 2 ^ n, by omega, by go_num, or_bit_lt hM r4, fun i hi => ?_, bset (bset hb (by simp)) (by simp), ?_⟩, by simp [intOf]; omega⟩
     ·rw [key, or_bit, Hbit.out i hi]
      by_cases hin : i = n
      ·subst hin; simp; omega
      ·rw [if_neg hin, decide_eq_false (p := n = i) (fun e => hin e.symm), Bool.or_false]
     ·rw [funext key, set_bit hM r4]
      have := (hC.set_ n (.int .i64 xc)).set_ 64 (.int .u64 ((M ||| 2 ^ n : Nat) : Int))
      rw [cnts_set r4, cnts_set_has] at this
      exact this
  ·obtain rfl : m = l.length := by omega
   have hT : l.take l.length = l := List.take_length
   have hMm : M = maskOf l := bits_same hM (maskOf_lt l) fun i hi => by rw [Hbit.out i hi, hT, maskOf_bit hi]
   rw [hT, hMm] at hC
   clear hT hMm
   go_wp2_with (first
    | (with_reducible refine wpList_load_row rfl 229 (.tmp 2) rfl w.heap.size rfl 229 _ (0, 0) _ hC.raw Tryz.underlying229 rfl (infoCnts _ _) ?_)
    | (with_reducible refine wpList_store_row rfl 229 (.tmp 2) (.tmp 38) rfl w.heap.size _ rfl rfl 229 _ hC.raw (infoCnts _ _) rfl (cnts_one _ _) ?_))
   exact bodyPost_ret (results_cell_row Tryz.results191 _ _ w.heap.size 229 _ (0, 0) _ rfl (hC.setRow (cs' := cnts (fun n => countOf l n) (maskOf l))).raw Tryz.underlying229 rfl (infoCnts _ _)) rfl ⟨rfl, bsetRow hb (by simp)⟩
end Go.Proofs.YtkphfdmelfhnoaaGreatDoor
