/- Whether two rows of spans share an object (the program's). -/
import Derived.Test.YtkphfdmelfhnoaaGreatDoorPRefTouch
import Derived.Test.YtkphfdmelfhnoaaGreatDoorPTidy
set_option linter.all false
set_option linter.unnecessarySimpa false
set_option linter.unusedSimpArgs false
set_option linter.unusedVariables false
namespace Go.Proofs.YtkphfdmelfhnoaaGreatDoor
open Go.ChangeShapes Go.WideShapes Go.ChangeAt Go.RowKit
attribute [local irreducible] AW AWY vops vopsY vop vopL vdraw callW qop binQ lenQ storeQ appendQ callQ ACalls AIter setI c64I
attribute [local go_sem] enSp storeQ_bp storeQ_rp
theorem stidy_call (l : List Span) : ACalls Tryz.prog TzTab 186 [.iv (spI l)] (.own 0) [.row 0 78 2 ((tidyS l).map enSp)] :=
 bridge_own (fun _ _ _ h => sp_rep h) Tryz.func186 rfl (by kernel_rfl) fun V w E vs hV hG hr => by
  obtain ⟨v0, rfl, h0⟩ := args1 hr
  exact spanTidy l _ w (iv_spans hV h0)
theorem stidyD (l : List Span) : ACalls Tryz.prog TzTab 186 [.iv (spI l)] (.iv (spI (tidyS l))) [] := (stidy_call l).frz trivial
theorem formed_all : ∀ {l : List Span} {e : Int}, formedFrom e l = true → ∀ s ∈ l, e < s.lo ∧ s.lo ≤ s.hi ∧ s.hi ≤ 255 ∧ 0 ≤ s.lo
 | [], _, _, s, hs => by simp at hs
 | x :: l, e, h, s, hs => by
  obtain ⟨h1, h2⟩ := formedFrom_cons.1 h
  rcases List.mem_cons.1 hs with rfl | hs
  ·omega
  ·have := formed_all h2 s hs
   omega
theorem formed_pair : ∀ {l : List Span} {e : Int}, formedFrom e l = true → l.Pairwise fun s t => s.hi < t.lo
 | [], _, _ => .nil
 | x :: l, e, h => by
  obtain ⟨h1, h2⟩ := formedFrom_cons.1 h
  exact .cons (fun t ht => (formed_all h2 t ht).1) (formed_pair h2)
theorem tidy_all (l : List Span) : ∀ s ∈ tidyS l, s.lo ≤ s.hi ∧ s.hi ≤ 255 ∧ 0 ≤ s.lo := fun s hs => (formed_all (ofSet_formed _) s hs).2
def ovS (s t : Span) : Prop := s.lo ≤ t.hi ∧ t.lo ≤ s.hi
theorem memB_tidy (l : List Span) {o : Nat} (ho : o < 256) : memB (tidyS l) o = memB l o := memB_ofSet (fun o => memB l o) ho
theorem touch_yes {a b : List Span} {s t : Span} (hs : s ∈ tidyS a) (ht : t ∈ tidyS b) (h : ovS s t) : touchS a b = true := by
 have h1 := tidy_all a s hs
 have h2 := tidy_all b t ht
 obtain ⟨o, ho⟩ : ∃ o : Nat, (o : Int) = max s.lo t.lo := ⟨(max s.lo t.lo).toNat, by omega⟩
 obtain ⟨k1, k2⟩ := h
 have ho' : o < 256 := by omega
 have m1 : memB a o = true := by
  rw [← memB_tidy a ho', memB, List.any_eq_true]
  exact ⟨s, hs, by simp; omega⟩
 have m2 : memB b o = true := by
  rw [← memB_tidy b ho', memB, List.any_eq_true]
  exact ⟨t, ht, by simp; omega⟩
 have m3 : memB (meetS2 a b) o = true := by
  unfold meetS2
  rw [memB_ofSet _ ho', m1, m2]; rfl
 rw [touchS, decide_eq_true_eq]
 cases hc : meetS2 a b with
 | nil => rw [hc] at m3; simp [memB] at m3
 | cons x l => simp
theorem touch_no {a b : List Span} (h : ∀ s ∈ tidyS a, ∀ t ∈ tidyS b, ¬ ovS s t) : touchS a b = false := by
 rw [touchS, decide_eq_false_iff_not]
 intro hp
 obtain ⟨x, hx⟩ : ∃ x, x ∈ meetS2 a b := by
  cases hc : meetS2 a b with
  | nil => rw [hc] at hp; simp at hp
  | cons x l => exact ⟨x, by simp⟩
 have hf := (formed_all (ofSet_formed _) x hx).2
 obtain ⟨o, ho⟩ : ∃ o : Nat, (o : Int) = x.lo := ⟨x.lo.toNat, by omega⟩
 have ho' : o < 256 := by omega
 have m3 : memB (meetS2 a b) o = true := by
  rw [memB, List.any_eq_true]
  exact ⟨x, hx, by simp; omega⟩
 unfold meetS2 at m3
 rw [memB_ofSet _ ho', Bool.and_eq_true, ← memB_tidy a ho', ← memB_tidy b ho', memB, memB, List.any_eq_true, List.any_eq_true] at m3
 obtain ⟨⟨s, hs, h1⟩, ⟨t, ht, h2⟩⟩ := m3
 simp at h1 h2
 exact h s hs t ht ⟨by omega, by omega⟩
theorem ov_step {l m : List Span} {i : Nat} (h : i < l.length) (hI : ∀ s ∈ l.take i, ∀ t ∈ m, ¬ ovS s t) (hx : ∀ t ∈ m, ¬ ovS l[i] t) : ∀ s ∈ l.take (i + 1), ∀ t ∈ m, ¬ ovS s t := fun s hs => by
 rw [List.take_succ_eq_append_getElem h] at hs
 rcases List.mem_append.1 hs with h1 | h1
 ·exact hI s h1
 ·rw [List.mem_singleton.1 h1]; exact hx
theorem ov_beyond {x : Span} {l : List Span} {j : Nat} (h : j < l.length) (hp : l.Pairwise fun s t => s.hi < t.lo) (hf : ∀ s ∈ l, s.lo ≤ s.hi) (hJ : ∀ t ∈ l.take j, t.hi < x.lo) (hx : x.hi < l[j].lo) : ∀ t ∈ l, ¬ ovS x t := fun t ht hov => by
 have e : l = l.take j ++ l[j] :: l.drop (j + 1) := by rw [← List.drop_eq_getElem_cons h, List.take_append_drop]
 rw [e] at ht
 rcases List.mem_append.1 ht with h1 | h1
 ·have := hJ t h1
  have := hov.1
  omega
 ·rcases List.mem_cons.1 h1 with rfl | h1
  ·have := hov.2
   omega
  ·rw [e] at hp
   have hp2 := (List.pairwise_cons.1 (List.pairwise_append.1 hp).2.1).1 t h1
   have := hf l[j] (List.getElem_mem h)
   have := hov.2
   omega
set_option maxRecDepth 100000 in
theorem stouch_call (a b : List Span) : ACalls Tryz.prog TzTab 116 [.iv (spI a), .iv (spI b)] (.val (.bool (touchS a b))) [] := by
 refine ACalls.of (n := 37) (rs := [.tmp 4]) Tryz.func116 rfl (by kernel_rfl) Tryz.ntmps116 (by kernel_rfl) (by simp) (fun _ _ => TzTab.later) ?_
 intro hok V w0
 have hla : (tidyS a).length ≤ 1073741824 := Nat.le_trans (ofSet_len _) (by decide)
 have hlb : (tidyS b).length ≤ 1073741824 := Nat.le_trans (ofSet_len _) (by decide)
 obtain ⟨B, hB⟩ : ∃ B, touchS a b = B := ⟨_, rfl⟩
 rw [hB]
 refine g ?_
 repeat' (first | refine st_ rfl (g ?_) | refine call_ (stidyD _) rfl (g ?_))
 unfold spI
 refine g ?_
 repeat' refine st_ rfl (g ?_)
 refine AW.loop (fun i : {i : Nat // i ≤ (tidyS a).length ∧ ∀ s ∈ (tidyS a).take i, ∀ t ∈ tidyS b, ¬ ovS s t} => ⟨[(1, .iv (spI b)), (10, .iv (.sl 2 ((tidyS a).map enSp))), (11, .val (.int .i64 ((tidyS a).length : Nat))), (12, .val (.int .i64 (i.1 : Nat)))], []⟩) (fun i => (tidyS a).length - i.1) ⟨0, Nat.zero_le _, fun s hs => by simp at hs⟩ id ⟨⟨rfl, rfl, rfl, rfl, trivial⟩, trivial, List.nodup_nil⟩ fun ⟨i, hi, hI⟩ => ?_
 refine g ?_
 repeat' (first | refine st_ rfl (g ?_) | refine cond_d (fun h => g ?_) (fun h => g ?_) | refine ix_ (by omega) (g ?_) | refine call_ (stidyD _) rfl (g ?_))
 ·have hlt : i < (tidyS a).length := by omega
  unfold spI
  refine g ?_
  repeat' refine st_ rfl (g ?_)
  refine AW.loop (fun j : {j : Nat // j ≤ (tidyS b).length ∧ ∀ t ∈ (tidyS b).take j, t.hi < (tidyS a)[i].lo} => ⟨[(1, .iv (spI b)), (6, .bp 700 0), (10, .iv (.sl 2 ((tidyS a).map enSp))), (11, .val (.int .i64 ((tidyS a).length : Nat))), (12, .val (.int .i64 (i : Nat))), (17, .iv (.sl 2 ((tidyS b).map enSp))), (18, .val (.int .i64 ((tidyS b).length : Nat))), (19, .val (.int .i64 (j.1 : Nat)))], [.box 700 [.val (.int .i64 (tidyS a)[i].lo), .val (.int .i64 (tidyS a)[i].hi)]]⟩) (fun j => (tidyS b).length - j.1) ⟨0, Nat.zero_le _, fun s hs => by simp at hs⟩ id ⟨⟨rfl, rfl, rfl, rfl, rfl, rfl, rfl, rfl, trivial⟩, ⟨rfl, trivial⟩, by simp [idsOf, BA.id]⟩ fun ⟨j, hj, hJ⟩ => ?_
  refine g ?_
  repeat' (first | refine st_ rfl (g ?_) | refine cond_d (fun h => g ?_) (fun h => g ?_) | refine ix_ (by omega) (g ?_))
  ·refine ⟨⟨j + 1, by omega, fun t ht => ?_⟩, id, ⟨⟨rfl, rfl, rfl, rfl, rfl, rfl, rfl, rfl, trivial⟩, ⟨rfl, trivial⟩, by simp [idsOf, BA.id]⟩, by show (tidyS b).length - (j + 1) < (tidyS b).length - j; omega⟩
   rw [List.take_succ_eq_append_getElem (by omega)] at ht
   rcases List.mem_append.1 ht with h1 | h1
   ·exact hJ t h1
   ·rw [List.mem_singleton.1 h1]; omega
  ·exact ⟨⟨i + 1, hlt, ov_step hlt hI (ov_beyond (by omega) (formed_pair (ofSet_formed _)) (fun s hs => (tidy_all b s hs).1) hJ h)⟩, id, ⟨⟨rfl, rfl, rfl, rfl, trivial⟩, trivial, List.nodup_nil⟩, by show (tidyS a).length - (i + 1) < (tidyS a).length - i; omega⟩
  ·rw [← hB]
   have hjt : j < (tidyS b).length := by omega
   exact (touch_yes (List.getElem_mem hlt) (List.getElem_mem hjt) ⟨by omega, by omega⟩).symm
  ·obtain rfl : j = (tidyS b).length := by omega
   rw [List.take_length] at hJ
   exact ⟨⟨i + 1, hlt, ov_step hlt hI fun t ht hov => by have := hJ t ht; have := hov.1; omega⟩, id, ⟨⟨rfl, rfl, rfl, rfl, trivial⟩, trivial, List.nodup_nil⟩, by show (tidyS a).length - (i + 1) < (tidyS a).length - i; omega⟩
 ·obtain rfl : i = (tidyS a).length := by omega
  rw [List.take_length] at hI
  rw [← hB, touch_no hI]
end Go.Proofs.YtkphfdmelfhnoaaGreatDoor
