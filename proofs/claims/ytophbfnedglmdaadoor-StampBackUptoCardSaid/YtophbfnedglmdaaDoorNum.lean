/- Plain laws on decimal digits: a number's digits are read back as that number, and digits without a nought ahead are those of their number. No program is known here. -/
import Derived.Test.YtophbfnedglmdaaDoorText
namespace Go.Proofs.YtophbfnedglmdaaDoor
open Go.Lib (decDigits)

def isDig (c : UInt8) : Prop := 48 ≤ c.toNat ∧ c.toNat ≤ 57
/-- what digits spell, behind what was read -/
def valFrom (a : Nat) (l : List UInt8) : Nat := l.foldl (fun a c => 10 * a + (c.toNat - 48)) a
theorem valFrom_snoc (a : Nat) (l : List UInt8) (c : UInt8) : valFrom a (l ++ [c]) = 10 * valFrom a l + (c.toNat - 48) := by simp [valFrom]
theorem ofNat_dig {d : Nat} (h : d < 10) : (UInt8.ofNat (48 + d)).toNat = 48 + d := by
  rw [UInt8.toNat_ofNat']; omega

theorem dec_val (u : Nat) : valFrom 0 (decDigits u) = u := by
  induction u using Nat.strongRecOn with
  | ind u ih =>
    rw [decDigits]
    split
    · simp only [valFrom, List.foldl_cons, List.foldl_nil, ofNat_dig (by assumption)]; omega
    · rw [valFrom_snoc, ih (u / 10) (by omega), ofNat_dig (by omega)]; omega
theorem dec_dig (u : Nat) : ∀ c ∈ decDigits u, isDig c := by
  induction u using Nat.strongRecOn with
  | ind u ih =>
    intro c hc
    rw [decDigits] at hc
    split at hc
    · have e := List.mem_singleton.1 hc; subst e; unfold isDig; rw [ofNat_dig (by assumption)]; omega
    · rcases List.mem_append.1 hc with h | h
      · exact ih _ (by omega) c h
      · have e := List.mem_singleton.1 h; subst e; unfold isDig; rw [ofNat_dig (by omega)]; omega
theorem dec_ne (u : Nat) : decDigits u ≠ [] := by
  rw [decDigits]; split <;> simp
theorem valFrom_mono (a : Nat) (l : List UInt8) : a ≤ valFrom a l := by
  induction l generalizing a with
  | nil => exact Nat.le_refl _
  | cons c l ih =>
    have := ih (10 * a + (c.toNat - 48))
    simp only [valFrom, List.foldl_cons] at this ⊢
    omega

/-- digits without a nought ahead are those of their number -/
theorem dec_of_val : ∀ (n : Nat) (l : List UInt8), l.length = n → l ≠ [] → (∀ c ∈ l, isDig c) → (∀ r, l = 48 :: r → r = []) → decDigits (valFrom 0 l) = l
  | 0, l, hn, h, _, _ => absurd (List.eq_nil_of_length_eq_zero hn) h
  | n + 1, l, hn, h, hd, h0 => by
    obtain ⟨l', c, rfl⟩ : ∃ l' c, l = l' ++ [c] := ⟨l.dropLast, l.getLast h, (List.dropLast_concat_getLast h).symm⟩
    have hc : isDig c := hd c (by simp)
    unfold isDig at hc
    by_cases hl : l' = []
    · subst hl
      simp only [List.nil_append, valFrom, List.foldl_cons, List.foldl_nil]
      rw [decDigits, dif_pos (by omega)]
      rw [show 48 + (10 * 0 + (c.toNat - 48)) = c.toNat by omega, UInt8.ofNat_toNat]
    · have h0' : ∀ r, l' = 48 :: r → r = [] := by
        rintro r rfl
        have := h0 (r ++ [c]) rfl
        simp at this
      have ih := dec_of_val n l' (by simp at hn; omega) hl (fun x hx => hd x (by simp [hx])) h0'
      have hpos : 0 < valFrom 0 l' := by
        match l', hl with
        | x :: r, _ =>
          have hx : isDig x := hd x (by simp)
          have hx0 : x ≠ 48 := by
            rintro rfl
            have := h0 (r ++ [c]) rfl
            simp at this
          have hxn : x.toNat ≠ 48 := fun e => hx0 (by rw [← UInt8.ofNat_toNat (x := x), e]; rfl)
          have := valFrom_mono (10 * 0 + (x.toNat - 48)) r
          unfold isDig at hx
          simp only [valFrom, List.foldl_cons] at this ⊢
          omega
      rw [valFrom_snoc, decDigits, dif_neg (by omega)]
      rw [show (10 * valFrom 0 l' + (c.toNat - 48)) / 10 = valFrom 0 l' by omega, ih]
      rw [show 48 + (10 * valFrom 0 l' + (c.toNat - 48)) % 10 = c.toNat by omega, UInt8.ofNat_toNat]
/-- no nought ahead of another digit -/
theorem dec_nought (u : Nat) : ∀ r, decDigits u = 48 :: r → r = [] := by
  induction u using Nat.strongRecOn with
  | ind u ih =>
    intro r hr
    rw [decDigits] at hr
    split at hr
    · simp at hr; exact hr.2
    · exfalso
      match hq : decDigits (u / 10), dec_ne (u / 10) with
      | x :: t, _ =>
        rw [hq] at hr
        simp only [List.cons_append, List.cons.injEq] at hr
        obtain ⟨rfl, _⟩ := hr
        have ht := ih (u / 10) (by omega) t hq
        subst ht
        have := dec_val (u / 10)
        rw [hq] at this
        simp only [valFrom, List.foldl_cons, List.foldl_nil] at this
        have h48 : (48 : UInt8).toNat = 48 := rfl
        omega
theorem dec_inj {u v : Nat} (h : decDigits u = decDigits v) : u = v := by rw [← dec_val u, ← dec_val v, h]

theorem parseUint_digits : ∀ (l : List UInt8) (a : Nat), (∀ c ∈ l, isDig c) → valFrom a l < 18446744073709551616 → Lib.parseUint10 a l = .ok (valFrom a l)
  | [], a, _, _ => rfl
  | c :: l, a, hd, hv => by
    have hc : isDig c := hd c (by simp)
    unfold isDig at hc
    have hv' : valFrom (10 * a + (c.toNat - 48)) l < 18446744073709551616 := hv
    have hm := valFrom_mono (10 * a + (c.toNat - 48)) l
    rw [Lib.parseUint10, if_pos hc, if_neg (by omega), if_neg (by omega), Nat.mul_comm a 10]
    exact parseUint_digits l _ (fun x hx => hd x (by simp [hx])) hv'
theorem atoi_dec {u : Nat} (h : u ≤ 9223372036854775807) : Lib.atoiAll (decDigits u) = .ok (u : Int) := by
  have hd := dec_dig u
  have hv := dec_val u
  match hl : decDigits u, dec_ne u with
  | c :: r, _ =>
    rw [hl] at hd hv
    have hc : isDig c := hd c (by simp)
    unfold isDig at hc
    have hp : Lib.parseMag (c :: r) = .ok u := by
      unfold Lib.parseMag
      rw [if_neg (by simp), parseUint_digits _ _ hd (by rw [hv]; omega), hv]
    unfold Lib.atoiAll
    simp only
    rw [if_neg (by omega), hp]
    simp only
    rw [if_neg (by omega), if_neg (by omega), if_neg (by omega)]

theorem no_at (u : Nat) : (64 : UInt8) ∉ decDigits u := by
  intro h
  have := dec_dig u _ h
  unfold isDig at this
  have e : (64 : UInt8).toNat = 64 := rfl
  omega
theorem index_at : ∀ (l r : List UInt8), (64 : UInt8) ∉ l → Lib.index (l ++ 64 :: r) [64] = (l.length : Int)
  | [], r, _ => by simp [Lib.index]
  | c :: l, r, h => by
    have hc : ¬ (64 : UInt8) = c := fun e => h (by simp [e])
    have ih := index_at l r (fun hh => h (by simp [hh]))
    rw [List.cons_append, Lib.index, if_neg (by simp [hc]), ih, if_neg (by simp)]
    simp
theorem cut_at (l r : List UInt8) (h : (64 : UInt8) ∉ l) : Lib.cut (l ++ 64 :: r) [64] = (l, r, true) := by
  rw [Lib.cut, index_at l r h, if_pos (by omega)]
  simp
end Go.Proofs.YtophbfnedglmdaaDoor
