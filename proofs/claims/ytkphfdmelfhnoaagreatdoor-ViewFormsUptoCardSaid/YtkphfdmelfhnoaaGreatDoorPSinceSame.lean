/- Up to where an interest is known: the program's and the reference's are one. -/
import Derived.Test.YtkphfdmelfhnoaaGreatDoorPSince
set_option linter.all false
set_option linter.unnecessarySimpa false
set_option linter.unusedSimpArgs false
set_option linter.unusedVariables false
namespace Go.Proofs.YtkphfdmelfhnoaaGreatDoor
theorem zones_pair : ∀ {l : List Zone} {p : Option Zone}, zonesFrom p l = true → l.Pairwise (fun x y => x.span.hi < y.span.lo) ∧ ∀ x ∈ l, zoneEnd p < x.span.lo ∧ x.span.lo ≤ x.span.hi
 | [], _, _ => ⟨.nil, fun x hx => by simp at hx⟩
 | x :: l, p, h => by
  simp only [zonesFrom, zoneNext, zoneOk, Bool.and_eq_true, decide_eq_true_eq] at h
  obtain ⟨⟨⟨h1, _⟩, ⟨h2, h3⟩, _⟩, h4⟩ := h
  obtain ⟨g1, g2⟩ := zones_pair h4
  have g3 : ∀ y ∈ l, x.span.hi < y.span.lo := fun y hy => (g2 y hy).1
  refine ⟨.cons g3 g1, fun y hy => ?_⟩
  rcases List.mem_cons.1 hy with rfl | hy
  ·exact ⟨h1, h2⟩
  ·have := g3 y hy
   have := (g2 y hy).2
   omega
theorem zone_lt {z : List Zone} (hF : zonesFormed z = true) {i j : Nat} (h : i < j) (hj : j < z.length) : z[i].span.hi < z[j].span.lo := List.pairwise_iff_getElem.1 (zones_pair hF).1 i j (by omega) hj h
theorem zone_le {z : List Zone} (hF : zonesFormed z = true) {i : Nat} (hi : i < z.length) : -1 < z[i].span.lo ∧ z[i].span.lo ≤ z[i].span.hi := (zones_pair hF).2 z[i] (List.getElem_mem hi)
theorem end_at' {l : List Zone} {m : Nat} (h0 : 0 < m) (h : m - 1 < l.length) : zoneEnd (l.take m).getLast? = l[m - 1].span.hi := by
 rw [take_last' h0 h]; rfl
theorem end_ge {z : List Zone} (hF : zonesFormed z = true) {i j : Nat} (hj : j < i) (hi : i ≤ z.length) : z[j].span.hi ≤ zoneEnd (z.take i).getLast? := by
 rw [end_at' (l := z) (m := i) (by omega) (by omega)]
 rcases Nat.lt_or_ge j (i - 1) with h | h
 ·have := zone_lt hF h (by omega)
  have := zone_le hF (show i - 1 < z.length by omega)
  omega
 ·obtain rfl : j = i - 1 := by omega
  exact Int.le_refl _
theorem no_below {z : List Zone} (hF : zonesFormed z = true) {i : Nat} (hi : i ≤ z.length) {o : Int} (ho : zoneEnd (z.take i).getLast? < o) : ∀ x ∈ z.take i, x.has o = false := fun x hx => by
 obtain ⟨j, hj, rfl⟩ := List.mem_take_iff_getElem.1 hx
 have := end_ge hF (show j < i by omega) hi
 simp [Zone.has]; omega
theorem end_lt {z : List Zone} (hF : zonesFormed z = true) {i : Nat} (hi : i < z.length) : zoneEnd (z.take i).getLast? < z[i].span.lo := by
 rcases Nat.eq_zero_or_pos i with rfl | h
 ·exact (zone_le hF hi).1
 ·rw [end_at' h (by omega)]
  exact zone_lt hF (by omega) hi
theorem reach_at {z : List Zone} (hF : zonesFormed z = true) (known : List Stamp) {i : Nat} (hi : i < z.length) {o : Int} (h : z[i].span.lo ≤ o ∧ o ≤ z[i].span.hi) : reachOf z known o = z[i].vec := by
 have := end_lt hF hi
 unfold reachOf
 rw [zoneAt_take (no_below hF (by omega) (by omega)) hi (by simp [Zone.has]; omega)]
theorem reach_gap {z : List Zone} (hF : zonesFormed z = true) (known : List Stamp) {i : Nat} (hi : i ≤ z.length) {o : Int} (h : zoneEnd (z.take i).getLast? < o) (h2 : ∀ hl : i < z.length, o < z[i].span.lo) : reachOf z known o = known := by
 unfold reachOf
 rw [zoneAt_none]
 intro x hx
 obtain ⟨k, hk, rfl⟩ := List.mem_iff_getElem.1 hx
 rcases Nat.lt_or_ge k i with h3 | h3
 ·have := end_ge hF h3 hi
  simp [Zone.has]; omega
 ·have h4 := h2 (by omega)
  have h5 : z[i].span.lo ≤ z[k].span.lo := by
   rcases Nat.eq_or_lt_of_le h3 with rfl | h6
   ·exact Int.le_refl _
   ·have := zone_lt hF h6 hk
    have := zone_le hF (show i < z.length by omega)
    omega
  simp [Zone.has]; omega
theorem piece_reach {z : List Zone} (hF : zonesFormed z = true) (known : List Stamp) : ∀ x ∈ piecesZ z known, ∀ o, x.span.lo ≤ o → o ≤ x.span.hi → reachOf z known o = x.vec := by
 have hu : ∀ i, i ≤ z.length → ∀ x ∈ uptoZ z known i, ∀ o, x.span.lo ≤ o → o ≤ x.span.hi → reachOf z known o = x.vec := by
  intro i
  induction i with
  | zero => intro _ x hx; simp [uptoZ] at hx
  | succ i ih =>
   intro hi x hx o h1 h2
   rw [upto_step (by omega), List.mem_append, List.mem_append, List.mem_singleton] at hx
   rcases hx with hx | hx | hx
   ·exact ih (by omega) x hx o h1 h2
   ·unfold gapZ at hx
    split at hx
    ·rw [List.mem_singleton] at hx
     rw [hx] at h1 h2 ⊢
     simp only at h1 h2 ⊢
     exact reach_gap hF known (i := i) (by omega) (by omega) fun _ => by omega
    ·simp at hx
   ·rw [hx] at h1 h2 ⊢
    exact reach_at hF known (by omega) ⟨h1, h2⟩
 intro x hx o h1 h2
 rw [piecesZ, List.mem_append] at hx
 rcases hx with hx | hx
 ·exact hu _ (Nat.le_refl _) x hx o h1 h2
 ·unfold tailZ at hx
  split at hx
  ·rw [List.mem_singleton] at hx
   subst hx
   simp only at h1 h2 ⊢
   refine reach_gap hF known (i := z.length) (Nat.le_refl _) ?_ fun hl => absurd hl (Nat.lt_irrefl _)
   rw [List.take_length]; omega
  ·simp at hx
theorem piece_of {z : List Zone} (hF : zonesFormed z = true) (known : List Stamp) {o : Int} (h0 : 0 ≤ o) (h1 : o ≤ 255) : ∃ x ∈ piecesZ z known, x.span.lo ≤ o ∧ o ≤ x.span.hi := by
 obtain ⟨i, hi⟩ : ∃ i, z.findIdx (fun x => decide (o ≤ x.span.hi)) = i := ⟨_, rfl⟩
 have hil : i ≤ z.length := hi ▸ List.findIdx_le_length
 have hlow : zoneEnd (z.take i).getLast? < o := by
  rcases Nat.eq_zero_or_pos i with rfl | h
  ·show (-1 : Int) < o; omega
  ·rw [end_at' (l := z) (m := i) h (by omega)]
   have := List.not_of_lt_findIdx (p := fun x : Zone => decide (o ≤ x.span.hi)) (xs := z) (i := i - 1) (by rw [hi]; omega)
   simp at this
   exact this
 rcases Nat.lt_or_ge i z.length with h | h
 ·have h3 : o ≤ z[i].span.hi := by
   have := List.findIdx_getElem (p := fun x : Zone => decide (o ≤ x.span.hi)) (xs := z) (w := by rw [hi]; exact h)
   simp only [hi] at this
   simpa using this
  have hs := upto_all (known := known) (show i + 1 ≤ z.length from h)
  rw [upto_step h] at hs
  rcases Int.lt_or_le o z[i].span.lo with h4 | h4
  ·refine ⟨⟨⟨zoneEnd (z.take i).getLast? + 1, z[i].span.lo - 1⟩, known⟩, hs.subset ?_, by show zoneEnd _ + 1 ≤ o; omega, by show o ≤ z[i].span.lo - 1; omega⟩
   rw [gapZ, if_pos (by omega)]
   simp
  ·exact ⟨z[i], hs.subset (by simp), h4, h3⟩
 ·obtain rfl : i = z.length := by omega
  rw [List.take_length] at hlow
  refine ⟨⟨⟨zoneEnd z.getLast? + 1, 255⟩, known⟩, ?_, by show zoneEnd _ + 1 ≤ o; omega, h1⟩
  rw [piecesZ, tailZ, if_pos (by omega)]
  simp
theorem touch_iff (a b : List Span) : touchS a b = true ↔ ∃ o : Nat, o < 256 ∧ memB a o = true ∧ memB b o = true := by
 rw [touchS, decide_eq_true_eq]
 constructor
 ·intro hp
  obtain ⟨x, hx⟩ : ∃ x, x ∈ meetS2 a b := by
   cases hc : meetS2 a b with
   | nil => rw [hc] at hp; simp at hp
   | cons x l => exact ⟨x, by simp⟩
  have hf := (formed_all (ofSet_formed _) x hx).2
  obtain ⟨o, ho⟩ : ∃ o : Nat, (o : Int) = x.lo := ⟨x.lo.toNat, by omega⟩
  have ho' : o < 256 := by omega
  have m3 : memB (meetS2 a b) o = true := by
   rw [memB, List.any_eq_true]
   exact ⟨x, hx, by simp; omega⟩
  unfold meetS2 at m3
  rw [memB_ofSet _ ho', Bool.and_eq_true] at m3
  exact ⟨o, ho', m3⟩
 ·rintro ⟨o, ho, h1, h2⟩
  have m3 : memB (meetS2 a b) o = true := by
   unfold meetS2
   rw [memB_ofSet _ ho, h1, h2]; rfl
  cases hc : meetS2 a b with
  | nil => rw [hc] at m3; simp [memB] at m3
  | cons x l => simp
theorem fold_min (n : Nat) : ∀ (l : List (List Stamp)) (x : Int), l.foldl (fun a m => min a (countOf m n)) x ≤ x ∧ (∀ m ∈ l, l.foldl (fun a m => min a (countOf m n)) x ≤ countOf m n) ∧ (l.foldl (fun a m => min a (countOf m n)) x = x ∨ ∃ m ∈ l, l.foldl (fun a m => min a (countOf m n)) x = countOf m n)
 | [], x => ⟨Int.le_refl _, fun m hm => by simp at hm, .inl rfl⟩
 | y :: l, x => by
  obtain ⟨h1, h2, h3⟩ := fold_min n l (min x (countOf y n))
  rw [List.foldl_cons]
  refine ⟨by omega, fun m hm => ?_, ?_⟩
  ·rcases List.mem_cons.1 hm with rfl | hm
   ·omega
   ·exact h2 m hm
  ·rcases h3 with h3 | ⟨m, hm, h3⟩
   ·rcases Int.le_total x (countOf y n) with h4 | h4
    ·exact .inl (by omega)
    ·exact .inr ⟨y, by simp, by omega⟩
   ·exact .inr ⟨m, List.mem_cons_of_mem _ hm, h3⟩
theorem meet_le {ls : List (List Stamp)} (n : Nat) : (∀ m ∈ ls, meetC ls n ≤ countOf m n) ∧ (ls ≠ [] → ∃ m ∈ ls, meetC ls n = countOf m n) := by
 cases ls with
 | nil => exact ⟨fun m hm => by simp at hm, fun h => absurd rfl h⟩
 | cons a l =>
  obtain ⟨h1, h2, h3⟩ := fold_min n l (countOf a n)
  refine ⟨fun m hm => ?_, fun _ => ?_⟩
  ·rcases List.mem_cons.1 hm with rfl | hm
   ·exact h1
   ·exact h2 m hm
  ·rcases h3 with h3 | ⟨m, hm, h3⟩
   ·exact ⟨a, by simp, h3⟩
   ·exact ⟨m, List.mem_cons_of_mem _ hm, h3⟩
theorem meetS_set {ls ms : List (List Stamp)} (h : ∀ x, x ∈ ls ↔ x ∈ ms) : meetS ls = meetS ms := by
 unfold meetS
 congr 1
 funext n
 obtain ⟨a1, a2⟩ := meet_le (ls := ls) n
 obtain ⟨b1, b2⟩ := meet_le (ls := ms) n
 by_cases hl : ls = []
 ·subst hl
  have : ms = [] := List.eq_nil_iff_forall_not_mem.2 fun x hx => by simpa using (h x).2 hx
  rw [this]
 ·have hm : ms ≠ [] := fun e => hl (List.eq_nil_iff_forall_not_mem.2 fun x hx => by simpa [e] using (h x).1 hx)
  obtain ⟨x, hx, e1⟩ := a2 hl
  obtain ⟨y, hy, e2⟩ := b2 hm
  have := a1 y ((h y).2 hy)
  have := b1 x ((h x).1 hx)
  omega
theorem rows_mem {z : List Zone} {known : List Stamp} {it : List Span} {v : List Stamp} : ∀ {m : Nat}, v ∈ sinceRows z known it m ↔ ∃ o : Nat, o < m ∧ memB it o = true ∧ v = reachS z known o
 | 0 => by simp [sinceRows]
 | m + 1 => by
  rw [sinceRows, List.mem_append, rows_mem]
  constructor
  ·rintro (⟨o, h1, h2⟩ | h)
   ·exact ⟨o, by omega, h2⟩
   ·split at h
    ·rename_i hb
     exact ⟨m, by omega, hb, List.mem_singleton.1 h⟩
    ·simp at h
  ·rintro ⟨o, h1, h2, h3⟩
   rcases Nat.lt_or_ge o m with h4 | h4
   ·exact .inl ⟨o, h4, h2, h3⟩
   ·obtain rfl : o = m := by omega
    right
    rw [if_pos h2, h3]
    simp
theorem since_set {z : List Zone} {known : List Stamp} (it : List Span) (hF : zonesFormed z = true) (hk : vecFormed known = true) (v : List Stamp) : v ∈ reachT it (piecesZ z known) ↔ v ∈ sinceRows z known it 256 := by
 have hr : ∀ o : Nat, o < 256 → reachS z known o = reachOf z known o := fun o ho => by
  unfold reachS
  rw [if_pos ⟨hF, hk, by omega, by omega⟩]
 rw [rows_mem]
 unfold reachT
 rw [List.mem_map]
 constructor
 ·rintro ⟨x, hx, rfl⟩
  obtain ⟨hx, ht⟩ := List.mem_filter.1 hx
  obtain ⟨o, ho, m1, m2⟩ := (touch_iff _ _).1 ht
  simp [memB] at m2
  exact ⟨o, ho, m1, by rw [hr o ho, piece_reach hF known x hx o m2.1 m2.2]⟩
 ·rintro ⟨o, ho, m1, rfl⟩
  obtain ⟨x, hx, h1, h2⟩ := piece_of hF known (o := (o : Int)) (by omega) (by omega)
  refine ⟨x, List.mem_filter.2 ⟨hx, (touch_iff _ _).2 ⟨o, ho, m1, ?_⟩⟩, ?_⟩
  ·simp [memB]; omega
  ·rw [hr o ho, piece_reach hF known x hx o h1 h2]
theorem since_same (z : List Zone) (known : List Stamp) (it : List Span) : sinceT z known it = sinceS z known it := by
 unfold sinceT sinceS
 by_cases h : zonesFormed z = true ∧ vecFormed known = true
 ·rw [if_pos h, if_pos h]
  have hs := since_set (z := z) (known := known) it h.1 h.2
  by_cases he : reachT it (piecesZ z known) = []
  ·have h2 : sinceRows z known it 256 = [] := List.eq_nil_iff_forall_not_mem.2 fun x hx => by simpa [he] using (hs x).2 hx
   rw [he, h2]
  ·have h2 : sinceRows z known it 256 ≠ [] := fun e => he (List.eq_nil_iff_forall_not_mem.2 fun x hx => by simpa [e] using (hs x).1 hx)
   rw [if_neg (fun e => he (List.length_eq_zero_iff.1 e)), if_neg (fun e => h2 (List.length_eq_zero_iff.1 e)), meetS_set hs]
 ·rw [if_neg h, if_neg h]
end Go.Proofs.YtkphfdmelfhnoaaGreatDoor
