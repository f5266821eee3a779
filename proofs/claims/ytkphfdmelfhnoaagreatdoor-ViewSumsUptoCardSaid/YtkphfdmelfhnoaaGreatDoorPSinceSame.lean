/- Up to where an interest is known: the program's and the reference's are one. -/
import Derived.Test.YtkphfdmelfhnoaaGreatDoorPPieces
set_option linter.all false
set_option linter.unnecessarySimpa false
set_option linter.unusedSimpArgs false
set_option linter.unusedVariables false
namespace Go.Proofs.YtkphfdmelfhnoaaGreatDoor
open Go.ChangeShapes Go.WideShapes Go.ChangeAt Go.RowKit
attribute [local irreducible] AW AWY vops vopsY vop vopL vdraw callW qop binQ lenQ storeQ appendQ callQ ACalls AIter setI
attribute [local go_sem] storeQ_bp storeQ_rp
theorem i64_litS {n : Int} (h : (-9223372036854775808 ≤ n && n ≤ 9223372036854775807) = true) : I64 n := by
 simp only [Bool.and_eq_true, decide_eq_true_eq] at h
 exact I64.of h.1 h.2
def MeetOk : Prop := ∀ ls : List (List Stamp), (∀ l ∈ ls, vecFormed l = true) → ACalls Tryz.prog TzTab 217 [.iv (stsI ls)] (.iv (stI (meetS ls))) []
def reachT (it : List Span) (ps : List Zone) : List (List Stamp) := (ps.filter fun x => touchS it [x.span]).map (·.vec)
def sinceT (z : List Zone) (known : List Stamp) (it : List Span) : List Stamp := if zonesFormed z = true ∧ vecFormed known = true then (if (reachT it (piecesZ z known)).length = 0 then known else meetS (reachT it (piecesZ z known))) else []
theorem pieces_len (z : List Zone) (known : List Stamp) : (piecesZ z known).length ≤ 2 * z.length + 1 := by
 have h : ∀ i, (uptoZ z known i).length ≤ 2 * i := fun i => by
  induction i with
  | zero => exact Nat.le_refl _
  | succ i ih =>
   rw [uptoZ, List.length_append]
   split
   ·unfold gapZ
    split <;> simp <;> omega
   ·simp; omega
 have := h z.length
 rw [piecesZ, List.length_append]
 have : (tailZ z known).length ≤ 1 := by unfold tailZ; split <;> simp
 omega
theorem zones_len : ∀ {l : List Zone} {p : Option Zone}, zonesFrom p l = true → zoneEnd p ≤ 255 → (l.length : Int) ≤ 255 - zoneEnd p
 | [], p, _, hp => by simp; omega
 | y :: l, p, h, hp => by
  simp only [zonesFrom, zoneNext, zoneOk, Bool.and_eq_true, decide_eq_true_eq] at h
  obtain ⟨⟨⟨h1, _⟩, ⟨h2, h3⟩, _⟩, h4⟩ := h
  have h5 : (l.length : Int) ≤ 255 - y.span.hi := zones_len h4 h3
  rw [List.length_cons]
  omega
theorem upto_in {z : List Zone} {known : List Stamp} (hF : zonesFormed z = true) (hk : vecFormed known = true) : ∀ i, ∀ x ∈ uptoZ z known i, (0 ≤ x.span.lo ∧ x.span.lo ≤ 255 ∧ 0 ≤ x.span.hi ∧ x.span.hi ≤ 255) ∧ vecFormed x.vec = true
 | 0, x, hx => by simp [uptoZ] at hx
 | i + 1, x, hx => by
  rw [uptoZ, List.mem_append] at hx
  rcases hx with hx | hx
  ·exact upto_in hF hk i x hx
  ·cases hc : z[i]? with
   | none => rw [hc] at hx; simp at hx
   | some y =>
    rw [hc] at hx
    have hy : y ∈ z := List.mem_of_getElem? hc
    have h1 := zones_each hF (by decide) y hy
    have h2 := zonesFrom_mem hF y hy
    simp only [zoneOk, Bool.and_eq_true] at h2
    have h3 := zoneEnd_at (zones_pre hF i)
    simp only [List.mem_append, List.mem_singleton] at hx
    rcases hx with hx | rfl
    ·unfold gapZ at hx
     split at hx
     ·rw [List.mem_singleton] at hx
      subst hx
      exact ⟨⟨by show 0 ≤ zoneEnd _ + 1; omega, by show zoneEnd _ + 1 ≤ 255; omega, by show 0 ≤ y.span.lo - 1; omega, by show y.span.lo - 1 ≤ 255; omega⟩, hk⟩
     ·simp at hx
    ·exact ⟨by omega, h2.2⟩
theorem pieces_in {z : List Zone} {known : List Stamp} (hF : zonesFormed z = true) (hk : vecFormed known = true) : ∀ x ∈ piecesZ z known, (0 ≤ x.span.lo ∧ x.span.lo ≤ 255 ∧ 0 ≤ x.span.hi ∧ x.span.hi ≤ 255) ∧ vecFormed x.vec = true := fun x hx => by
 rw [piecesZ, List.mem_append] at hx
 rcases hx with hx | hx
 ·exact upto_in hF hk _ x hx
 ·unfold tailZ at hx
  have h3 := zoneEnd_at (zones_pre hF z.length)
  rw [List.take_length] at h3
  split at hx
  ·rw [List.mem_singleton] at hx
   subst hx
   exact ⟨⟨by show 0 ≤ zoneEnd _ + 1; omega, by show zoneEnd _ + 1 ≤ 255; omega, by show (0 : Int) ≤ 255; decide, by show (255 : Int) ≤ 255; decide⟩, hk⟩
  ·simp at hx
end Go.Proofs.YtkphfdmelfhnoaaGreatDoor
namespace Go.Proofs.YtkphfdmelfhnoaaGreatDoor
theorem zones_pair : ∀ {l : List Zone} {p : Option Zone}, zonesFrom p l = true → l.Pairwise (fun x y => x.span.hi < y.span.lo) ∧ ∀ x ∈ l, zoneEnd p < x.span.lo ∧ x.span.lo ≤ x.span.hi
 | [], _, _ => ⟨.nil, fun x hx => by simp at hx⟩
 | x :: l, p, h => by
  simp only [zonesFrom, zoneNext, zoneOk, Bool.and_eq_true, decide_eq_true_eq] at h
  obtain ⟨⟨⟨h1, _⟩, ⟨h2, h3⟩, _⟩, h4⟩ := h
  obtain ⟨g1, g2⟩ := zones_pair h4
  have g3 : ∀ y ∈ l, x.span.hi < y.span.lo := fun y hy => (g2 y hy).1
  refine ⟨.cons g3 g1, fun y hy => ?_⟩
  rcases List.mem_cons.1 hy with rfl | hy
  ·exact ⟨h1, h2⟩
  ·have := g3 y hy
   have := (g2 y hy).2
   omega
theorem zone_lt {z : List Zone} (hF : zonesFormed z = true) {i j : Nat} (h : i < j) (hj : j < z.length) : z[i].span.hi < z[j].span.lo := List.pairwise_iff_getElem.1 (zones_pair hF).1 i j (by omega) hj h
theorem zone_le {z : List Zone} (hF : zonesFormed z = true) {i : Nat} (hi : i < z.length) : -1 < z[i].span.lo ∧ z[i].span.lo ≤ z[i].span.hi := (zones_pair hF).2 z[i] (List.getElem_mem hi)
theorem end_at' {l : List Zone} {m : Nat} (h0 : 0 < m) (h : m - 1 < l.length) : zoneEnd (l.take m).getLast? = l[m - 1].span.hi := by
 rw [take_last' h0 h]; rfl
theorem end_ge {z : List Zone} (hF : zonesFormed z = true) {i j : Nat} (hj : j < i) (hi : i ≤ z.length) : z[j].span.hi ≤ zoneEnd (z.take i).getLast? := by
 rw [end_at' (l := z) (m := i) (by omega) (by omega)]
 rcases Nat.lt_or_ge j (i - 1) with h | h
 ·have := zone_lt hF h (by omega)
  have := zone_le hF (show i - 1 < z.length by omega)
  omega
 ·obtain rfl : j = i - 1 := by omega
  exact Int.le_refl _
theorem no_below {z : List Zone} (hF : zonesFormed z = true) {i : Nat} (hi : i ≤ z.length) {o : Int} (ho : zoneEnd (z.take i).getLast? < o) : ∀ x ∈ z.take i, x.has o = false := fun x hx => by
 obtain ⟨j, hj, rfl⟩ := List.mem_take_iff_getElem.1 hx
 have := end_ge hF (show j < i by omega) hi
 simp [Zone.has]; omega
theorem end_lt {z : List Zone} (hF : zonesFormed z = true) {i : Nat} (hi : i < z.length) : zoneEnd (z.take i).getLast? < z[i].span.lo := by
 rcases Nat.eq_zero_or_pos i with rfl | h
 ·exact (zone_le hF hi).1
 ·rw [end_at' h (by omega)]
  exact zone_lt hF (by omega) hi
theorem reach_at {z : List Zone} (hF : zonesFormed z = true) (known : List Stamp) {i : Nat} (hi : i < z.length) {o : Int} (h : z[i].span.lo ≤ o ∧ o ≤ z[i].span.hi) : reachOf z known o = z[i].vec := by
 have := end_lt hF hi
 unfold reachOf
 rw [zoneAt_take (no_below hF (by omega) (by omega)) hi (by simp [Zone.has]; omega)]
theorem reach_gap {z : List Zone} (hF : zonesFormed z = true) (known : List Stamp) {i : Nat} (hi : i ≤ z.length) {o : Int} (h : zoneEnd (z.take i).getLast? < o) (h2 : ∀ hl : i < z.length, o < z[i].span.lo) : reachOf z known o = known := by
 unfold reachOf
 rw [zoneAt_none]
 intro x hx
 obtain ⟨k, hk, rfl⟩ := List.mem_iff_getElem.1 hx
 rcases Nat.lt_or_ge k i with h3 | h3
 ·have := end_ge hF h3 hi
  simp [Zone.has]; omega
 ·have h4 := h2 (by omega)
  have h5 : z[i].span.lo ≤ z[k].span.lo := by
   rcases Nat.eq_or_lt_of_le h3 with rfl | h6
   ·exact Int.le_refl _
   ·have := zone_lt hF h6 hk
    have := zone_le hF (show i < z.length by omega)
    omega
  simp [Zone.has]; omega
theorem piece_reach {z : List Zone} (hF : zonesFormed z = true) (known : List Stamp) : ∀ x ∈ piecesZ z known, ∀ o, x.span.lo ≤ o → o ≤ x.span.hi → reachOf z known o = x.vec := by
 have hu : ∀ i, i ≤ z.length → ∀ x ∈ uptoZ z known i, ∀ o, x.span.lo ≤ o → o ≤ x.span.hi → reachOf z known o = x.vec := by
  intro i
  induction i with
  | zero => intro _ x hx; simp [uptoZ] at hx
  | succ i ih =>
   intro hi x hx o h1 h2
   rw [upto_step (by omega), List.mem_append, List.mem_append, List.mem_singleton] at hx
   rcases hx with hx | hx | hx
   ·exact ih (by omega) x hx o h1 h2
   ·unfold gapZ at hx
    split at hx
    ·rw [List.mem_singleton] at hx
     rw [hx] at h1 h2 ⊢
     simp only at h1 h2 ⊢
     exact reach_gap hF known (i := i) (by omega) (by omega) fun _ => by omega
    ·simp at hx
   ·rw [hx] at h1 h2 ⊢
    exact reach_at hF known (by omega) ⟨h1, h2⟩
 intro x hx o h1 h2
 rw [piecesZ, List.mem_append] at hx
 rcases hx with hx | hx
 ·exact hu _ (Nat.le_refl _) x hx o h1 h2
 ·unfold tailZ at hx
  split at hx
  ·rw [List.mem_singleton] at hx
   subst hx
   simp only at h1 h2 ⊢
   refine reach_gap hF known (i := z.length) (Nat.le_refl _) ?_ fun hl => absurd hl (Nat.lt_irrefl _)
   rw [List.take_length]; omega
  ·simp at hx
theorem piece_of {z : List Zone} (hF : zonesFormed z = true) (known : List Stamp) {o : Int} (h0 : 0 ≤ o) (h1 : o ≤ 255) : ∃ x ∈ piecesZ z known, x.span.lo ≤ o ∧ o ≤ x.span.hi := by
 obtain ⟨i, hi⟩ : ∃ i, z.findIdx (fun x => decide (o ≤ x.span.hi)) = i := ⟨_, rfl⟩
 have hil : i ≤ z.length := hi ▸ List.findIdx_le_length
 have hlow : zoneEnd (z.take i).getLast? < o := by
  rcases Nat.eq_zero_or_pos i with rfl | h
  ·show (-1 : Int) < o; omega
  ·rw [end_at' (l := z) (m := i) h (by omega)]
   have := List.not_of_lt_findIdx (p := fun x : Zone => decide (o ≤ x.span.hi)) (xs := z) (i := i - 1) (by rw [hi]; omega)
   simp at this
   exact this
 rcases Nat.lt_or_ge i z.length with h | h
 ·have h3 : o ≤ z[i].span.hi := by
   have := List.findIdx_getElem (p := fun x : Zone => decide (o ≤ x.span.hi)) (xs := z) (w := by rw [hi]; exact h)
   simp only [hi] at this
   simpa using this
  have hs := upto_all (known := known) (show i + 1 ≤ z.length from h)
  rw [upto_step h] at hs
  rcases Int.lt_or_le o z[i].span.lo with h4 | h4
  ·refine ⟨⟨⟨zoneEnd (z.take i).getLast? + 1, z[i].span.lo - 1⟩, known⟩, hs.subset ?_, by show zoneEnd _ + 1 ≤ o; omega, by show o ≤ z[i].span.lo - 1; omega⟩
   rw [gapZ, if_pos (by omega)]
   simp
  ·exact ⟨z[i], hs.subset (by simp), h4, h3⟩
 ·obtain rfl : i = z.length := by omega
  rw [List.take_length] at hlow
  refine ⟨⟨⟨zoneEnd z.getLast? + 1, 255⟩, known⟩, ?_, by show zoneEnd _ + 1 ≤ o; omega, h1⟩
  rw [piecesZ, tailZ, if_pos (by omega)]
  simp
theorem touch_iff (a b : List Span) : touchS a b = true ↔ ∃ o : Nat, o < 256 ∧ memB a o = true ∧ memB b o = true := by
 rw [touchS, decide_eq_true_eq]
 constructor
 ·intro hp
  obtain ⟨x, hx⟩ : ∃ x, x ∈ meetS2 a b := by
   cases hc : meetS2 a b with
   | nil => rw [hc] at hp; simp at hp
   | cons x l => exact ⟨x, by simp⟩
  have hf := (formed_all (ofSet_formed _) x hx).2
  obtain ⟨o, ho⟩ : ∃ o : Nat, (o : Int) = x.lo := ⟨x.lo.toNat, by omega⟩
  have ho' : o < 256 := by omega
  have m3 : memB (meetS2 a b) o = true := by
   rw [memB, List.any_eq_true]
   exact ⟨x, hx, by simp; omega⟩
  unfold meetS2 at m3
  rw [memB_ofSet _ ho', Bool.and_eq_true] at m3
  exact ⟨o, ho', m3⟩
 ·rintro ⟨o, ho, h1, h2⟩
  have m3 : memB (meetS2 a b) o = true := by
   unfold meetS2
   rw [memB_ofSet _ ho, h1, h2]; rfl
  cases hc : meetS2 a b with
  | nil => rw [hc] at m3; simp [memB] at m3
  | cons x l => simp
end Go.Proofs.YtkphfdmelfhnoaaGreatDoor
