/- Contracts of reading a stamp's text: the reference's Number and Parse, the program's Parse. -/
import Derived.Test.YtophbfnedglmdaaDoorNum
import Derived.Laws.BitsAllLaws
import Derived.IntWalk
namespace Go.Proofs.YtophbfnedglmdaaDoor
open Go.ChangeShapes Go.WideShapes Go.ChangeAt Go.RowKit

/-- a number was read, or the text is no number's digits -/
def NumPost (s : ByteArray) (e : Ending) : Prop :=
  (∃ u : Nat, u ≤ 9223372036854775807 ∧ s = dg u ∧ e = .returned (.tuple #[.int .i64 u, .bool true])) ∨
  ((∀ u : Nat, u ≤ 9223372036854775807 → s ≠ dg u) ∧ ∃ x : Int, e = .returned (.tuple #[.int .i64 x, .bool false]))

theorem dg_list (u : Nat) : (dg u).data.toList = Lib.decDigits u := rfl
theorem ba_of_list {s : ByteArray} {u : Nat} (h : s.data.toList = Lib.decDigits u) : s = dg u := by
  apply ByteArray.ext
  apply Array.ext'
  rw [h, dg_list]
theorem size_list (s : ByteArray) : s.data.toList.length = s.size := by rw [Array.length_toList]; rfl
theorem NumPost.no {s : ByteArray} {x : Int} (h : ∀ u : Nat, u ≤ 9223372036854775807 → s ≠ dg u) : NumPost s (.returned (.tuple #[.int .i64 x, .bool false])) := Or.inr ⟨h, x, rfl⟩
theorem bytes_snoc (s : ByteArray) (k : Nat) (h : k < s.size) : s.data.toList.take (k + 1) = s.data.toList.take k ++ [s[k]] := by
  rw [List.take_succ_eq_append_getElem (by rw [size_list]; exact h)]; rfl

/-- what holds ahead of round k of the reference's Number -/
def NumRel (s : ByteArray) (k : Nat) (n : Nat) : Prop := n = valFrom 0 (s.data.toList.take k) ∧ (∀ c ∈ s.data.toList.take k, isDig c) ∧ n < 10 ^ k
theorem NumRel.step {s : ByteArray} {k n : Nat} (h : NumRel s k n) (hk : k < s.size) (hd : 48 ≤ s[k].toNat ∧ s[k].toNat ≤ 57) : NumRel s (k + 1) (10 * n + (s[k].toNat - 48)) := by
  obtain ⟨rfl, h2, h3⟩ := h
  refine ⟨?_, ?_, ?_⟩
  · rw [bytes_snoc s k hk, valFrom_snoc]
  · rw [bytes_snoc s k hk]
    intro c hc
    rcases List.mem_append.1 hc with h | h
    · exact h2 c h
    · rw [List.mem_singleton.1 h]; exact hd
  · rw [Nat.pow_succ]; omega
theorem pow_le19 {k : Nat} (h : k ≤ 18) : 10 ^ k ≤ 1000000000000000000 := Nat.pow_le_pow_right (by omega) h
theorem mask_eq {n : Nat} (h : n ≤ 9223372036854775807) : n &&& 9223372036854775807 = n := by
  have := Nat.and_two_pow_sub_one_of_lt_two_pow (n := 63) (x := n) (by omega)
  simpa using this

theorem not_dig {s : ByteArray} {k : Nat} (hk : k < s.size) (h : ¬ (48 ≤ s[k].toNat ∧ s[k].toNat ≤ 57)) (u : Nat) : s ≠ dg u := by
  rintro rfl
  exact h (dec_dig u _ (by rw [← dg_list]; exact List.getElem_mem (l := (dg u).data.toList) (n := k) (by rw [size_list]; exact hk)))
theorem NumPost.fin {s : ByteArray} {m : Nat} (h : NumRel s s.size m) (hz : s.size = 1 ∨ ¬ s[0]!.toNat = 48) (h0 : 0 < s.size) :
    NumPost s (.returned (.tuple #[.int .i64 (wrap64 (bits .and .u64 (m : Int) 9223372036854775807)), .bool (decide ((m : Int) ≤ 9223372036854775807))])) := by
  obtain ⟨h1, h2, _⟩ := h
  rw [List.take_of_length_le (by rw [size_list]; exact Nat.le_refl _)] at h1 h2
  have hs : s.data.toList = Lib.decDigits m := by
    rw [h1]
    refine (dec_of_val _ _ rfl (fun h => ?_) h2 (fun r hr => ?_)).symm
    · rw [← size_list, h] at h0; simp at h0
    · rcases hz with hz | hz
      · rw [← size_list, hr] at hz
        simpa using hz
      · exfalso
        apply hz
        have : s[0]! = 48 := by
          rw [getElem!_pos s 0 h0]
          have e : s[0] = s.data.toList[0]'(by rw [size_list]; exact h0) := rfl
          rw [e]
          simp [hr]
        rw [this]; rfl
  by_cases hm : m ≤ 9223372036854775807
  · refine Or.inl ⟨m, hm, ba_of_list hs, ?_⟩
    have e1 : bits .and .u64 (m : Int) 9223372036854775807 = (m : Int) := by
      have := u64_and_nat m 9223372036854775807 (by omega) (by omega)
      rw [mask_eq hm] at this
      exact this
    rw [e1, decide_eq_true (by omega), IntWalk.wrap64_in _ ⟨by omega, by omega⟩]
  · rw [decide_eq_false (by omega)]
    refine NumPost.no fun u hu he => hm ?_
    have : m = u := dec_inj (by rw [← hs, he, dg_list])
    omega

set_option maxHeartbeats 400000 in
theorem refNumber_loop (s : ByteArray) (w : World) (h0 : 0 < s.size) (h19 : s.size ≤ 19) (hz : s.size = 1 ∨ ¬ s[0].toNat = 48) :
    Calls Tryd.prog 16 #[.string s] w fun e w' => NumPost s e ∧ w = w' := by
  have q0 : ((s.size : Int) == 0) = false := by rw [beq_eq_false_iff_ne]; omega
  have q1 : ¬ (19 : Int) < (s.size : Int) := by omega
  have q2 : (((s[0].toNat : Nat) : Int) == 48) = false ∨ ¬ (1 : Int) < (s.size : Int) := by
    rcases hz with h | h
    · exact Or.inr (by omega)
    · exact Or.inl (by rw [beq_eq_false_iff_ne]; omega)
  have Hz := Lib.hid hz
  clear hz
  rcases q2 with q2 | q2
  all_goals
    go_enter Tryd.func16, Tryd.ntmps16
    go_wp2_with fail
  all_goals
    clear q0
    go_loop [4, 5] (fun n i => ∃ (k m : Nat), k ≤ s.size ∧ i = .int .i64 k ∧ n = .int .u64 m ∧ NumRel s k m) (fun _ i => s.size - (intOf i).toNat)
    case atStart => exact ⟨0, 0, Nat.zero_le _, rfl, rfl, rfl, by simp, by simp⟩
    case round =>
      obtain ⟨k, m, hk, rfl, rfl, hR⟩ := hrel
      by_cases hlt : k < s.size
      · have hm : m ≤ 1000000000000000000 := by
          have h1 := hR.2.2
          have h2 := pow_le19 (k := k) (by omega)
          omega
        have HR := Lib.hid hR
        clear hR
        go_wp2_with fail
        all_goals first
          | (go_ret2
             exact ⟨NumPost.no fun u _ => not_dig hlt (by omega) u, rfl⟩)
          | exact ⟨⟨k + 1, 10 * m + (s[k].toNat - 48), by omega, by go_num, congrArg (Value.int .u64) (by omega), HR.out.step hlt ⟨by omega, by omega⟩⟩, by simp [intOf]; omega⟩
      · obtain rfl : k = s.size := by omega
        have HR := Lib.hid hR
        clear hR
        go_wp2_with fail
        go_ret2
        exact ⟨NumPost.fin HR.out (by rw [getElem!_pos s 0 h0]; exact Hz.out) h0, rfl⟩

theorem refNumber (s : ByteArray) (w : World) :
    Calls Tryd.prog 16 #[.string s] w fun e w' => NumPost s e ∧ w = w' := by
  by_cases h0 : s.size = 0
  · have hno : ∀ u : Nat, u ≤ 9223372036854775807 → s ≠ dg u := by
      rintro u _ rfl
      have := dec_ne u
      rw [← dg_list] at this
      exact this (List.eq_nil_of_length_eq_zero (by rw [size_list]; exact h0))
    have q0 : ((s.size : Int) == 0) = true := by rw [beq_iff_eq]; omega
    have hno' := Lib.hid hno
    clear h0 hno
    go_enter Tryd.func16, Tryd.ntmps16
    go_wp2_with fail
    all_goals
      go_ret2
      exact ⟨NumPost.no hno'.out, rfl⟩
  · have q0 : ((s.size : Int) == 0) = false := by rw [beq_eq_false_iff_ne]; omega
    by_cases h19 : 19 < s.size
    · have hno : ∀ u : Nat, u ≤ 9223372036854775807 → s ≠ dg u := by
        rintro u hu rfl
        have := dg_size hu
        omega
      have q1 : (19 : Int) < (s.size : Int) := by omega
      have hno' := Lib.hid hno
      clear h0 hno h19
      go_enter Tryd.func16, Tryd.ntmps16
      go_wp2_with fail
      all_goals
        go_ret2
        exact ⟨NumPost.no hno'.out, rfl⟩
    · by_cases hz : s.size = 1 ∨ ¬ s[0].toNat = 48
      · exact refNumber_loop s w (by omega) (by omega) hz
      · have hp : 0 < s.size := by omega
        have h1 : ¬ s.size = 1 := fun h => hz (Or.inl h)
        have h48 : s[0].toNat = 48 := Decidable.byContradiction fun h => hz (Or.inr h)
        have hno : ∀ u : Nat, u ≤ 9223372036854775807 → s ≠ dg u := by
          rintro u hu rfl
          have hl := size_list (dg u)
          rw [dg_list] at hl
          match hd : Lib.decDigits u, dec_ne u with
          | x :: r, _ =>
            rw [hd] at hl
            have hx : (dg u)[0] = x := by
              show (Lib.decDigits u).toArray[0] = x
              simp [hd]
            rw [hx] at h48
            have hx48 : x = 48 := by rw [← UInt8.ofNat_toNat (x := x), h48]; rfl
            subst hx48
            have := dec_nought u r hd
            subst this
            simp at hl
            omega
        have q1 : ¬ (19 : Int) < (s.size : Int) := by omega
        have q2 : (((s[0].toNat : Nat) : Int) == 48) = true := by rw [beq_iff_eq]; omega
        have q3 : (1 : Int) < (s.size : Int) := by omega
        have hno' := Lib.hid hno
        clear h0 hno h19 hz h1 h48
        go_enter Tryd.func16, Tryd.ntmps16
        go_wp2_with fail
        all_goals
          go_ret2
          exact ⟨NumPost.no hno'.out, rfl⟩
end Go.Proofs.YtophbfnedglmdaaDoor
