/- Contracts of the reference's vectors: the same one, a copy, the vector of counts, the join. -/
import Derived.Test.YtkphfdmelfhnoaaGreatDoorPVecLaw
import Derived.Test.YtkphfdmelfhnoaaGreatDoorPFlat
set_option linter.all false
set_option linter.unnecessarySimpa false
set_option linter.unusedSimpArgs false
set_option linter.unusedVariables false
namespace Go.Proofs.YtkphfdmelfhnoaaGreatDoor
open Go.ChangeShapes Go.WideShapes Go.ChangeAt Go.RowKit
theorem refVecSame (l m : List Stamp) (v u : Value) (w : World) (h : Stamps w w.heap.size v l) (h' : Stamps w w.heap.size u m) :
  Calls Tryz.prog 44 #[v, u] w fun e w' => e = .returned (.bool (decide (l = m))) ∧ Below w.heap.size w w' := by
 have hle := h.len_le
 have hle' := h'.len_le
 obtain ⟨A, c, rfl, _⟩ := id h
 obtain ⟨A', c', rfl, _⟩ := id h'
 by_cases hlen : l.length = m.length
 ·have Hlen := Lib.hid hlen
  have ht : ((l.length : Int) != (m.length : Int)) = false := by rw [hlen]; simp
  clear hlen
  go_enter Tryz.func44, Tryz.ntmps44
  go_wp2_with fail
  go_loopw [5] (fun k wr => ∃ n : Nat, n ≤ l.length ∧ k = .int .i64 n ∧ l.take n = m.take n ∧ Below w.heap.size w wr) (fun k _ => l.length - (intOf k).toNat)
  case atStart => exact ⟨0, Nat.zero_le _, rfl, rfl, Below.refl _ _⟩
  case round =>
   obtain ⟨n, hn, rfl, ht2, hb⟩ := hrel
   have Ht := Lib.hid ht2
   clear ht2 ht
   by_cases hlt : n < l.length
   ·obtain ⟨x, hx⟩ : ∃ x, l[n]? = some x := ⟨l[n], List.getElem?_eq_getElem hlt⟩
    obtain ⟨y, hy⟩ : ∃ y, m[n]? = some y := ⟨m[n]'(by have := Hlen.out; omega), List.getElem?_eq_getElem (by have := Hlen.out; omega)⟩
    obtain ⟨b, off, _, hv, hbb, e0, e1, _, _⟩ := stamps_at h hx
    obtain ⟨b', off', _, hv', hbb', e0', e1', _, _⟩ := stamps_at h' hy
    injection hv with hv1 hv2 hv3
    injection hv' with hv1' hv2' hv3'
    subst hv1 hv1'
    have f0 := (hb.cell (p := ⟨b, off + n * 2, none⟩) hbb).trans e0
    have f1 := (hb.cell (p := ⟨b, off + n * 2 + 1, none⟩) hbb).trans e1
    have f0' := (hb.cell (p := ⟨b', off' + n * 2, none⟩) hbb').trans e0'
    have f1' := (hb.cell (p := ⟨b', off' + n * 2 + 1, none⟩) hbb').trans e1'
    have Hx := Lib.hid hx
    have Hy := Lib.hid hy
    have i1 : (n : Int) < (l.length : Int) := by omega
    have i2 : (n : Int) < (m.length : Int) := by have := Hlen.out; omega
    clear hv2 hv3 hv2' hv3' e0 e1 e0' e1' hx hy
    obtain ⟨xl, xh⟩ := x
    obtain ⟨yl, yh⟩ := y
    simp only at f0 f1 f0' f1'
    by_cases p1 : xl = yl
    ·subst p1
     by_cases p2 : xh = yh
     ·subst p2
      go_wp2_with fail
      go_quiet (fail)
      go_wp2_with fail
      refine ⟨⟨n + 1, by omega, by go_num, ?_, bdrewN hb _⟩, by simp [intOf]; omega⟩
      rw [take_snoc Hx.out, take_snoc Hy.out, Ht.out]
     ·have Hres : Hid (decide (l = m) = false) := by
       refine decide_eq_false fun e => ?_
       have := Hx.out
       rw [e, Hy.out] at this
       simp at this
       exact p2 this.symm
      go_wp2_with fail
      go_quiet (fail)
      go_wp2_with fail
      go_ret
      exact ⟨ret_bool Hres.out.symm, bdrewN hb _⟩
    ·have Hres : Hid (decide (l = m) = false) := by
      refine decide_eq_false fun e => ?_
      have := Hx.out
      rw [e, Hy.out] at this
      simp at this
      exact p1 this.1.symm
     go_wp2_with fail
     go_quiet (fail)
     go_wp2_with fail
     go_ret
     exact ⟨ret_bool Hres.out.symm, bdrewN hb _⟩
   ·obtain rfl : n = l.length := by omega
    have Hres : Hid (decide (l = m) = true) := by
     refine decide_eq_true ?_
     have := Ht.out
     rwa [List.take_length, Hlen.out, List.take_length] at this
    go_wp2_with fail
    go_ret
    exact ⟨ret_bool Hres.out.symm, hb⟩
 ·have ht : ((l.length : Int) != (m.length : Int)) = true := by simp; omega
  have Hres : Hid (decide (l = m) = false) := decide_eq_false fun e => hlen (by rw [e])
  clear hlen
  go_enter Tryz.func44, Tryz.ntmps44
  go_wp2_with fail
  go_ret
  exact ⟨ret_bool Hres.out.symm, Below.refl _ _⟩
theorem stampOne : ∀ cs x, StampR cs x → ∀ u ∈ cs, u.oneCell' = true := by
 rintro cs x ⟨rfl, _⟩ u hu; simp at hu; rcases hu with rfl | rfl <;> rfl
theorem infoStamp2 : (Tryz.prog.info? 49).map (fun i => (i.zero.map (·.cells.size), i.size, i.bytes)) = some (some 2, 2, 16) := by kernel_rfl
theorem stamps_empty (w : World) : OwnSl StampR 2 (w.alloc (.cells #[] 49)) w.heap.size 49 (.slice (some ⟨w.heap.size, 0, none⟩) 0 0) [] :=
 ⟨[], ⟨rfl, .inr ⟨_, 0, #[], rfl, Nat.le_refl _, heap_alloc_new w _, Nat.le_refl _, Nat.zero_le _, rfl, rfl⟩⟩, rfl, Nat.zero_le _⟩
theorem refVecCopy (l : List Stamp) (v : Value) (w : World) (h : Stamps w w.heap.size v l) :
  Calls Tryz.prog 57 #[v] w fun e w' => (∃ v', e = .returned v' ∧ OwnSl StampR 2 w' w.heap.size 49 v' l) ∧ Below w.heap.size w w' := by
 have hle := h.len_le
 obtain ⟨A, c, rfl, _⟩ := id h
 go_enter Tryz.func57, Tryz.ntmps57
 go_wp2_with (at_builtin; refine append_sl infoStamp2 Tryz.underlying22 (by omega) (by omega) stampOne rfl (.tmp 3) (.tmp 4) rfl w.heap.size _ [] rfl (stamps_empty w) w.heap.size _ l rfl (h.keep (fun _ _ h => h) (Nat.le_refl _) (fun p hp => World.cell?_alloc_lt _ _ _ hp)) (by simp only [List.length_nil]; omega) (by simp) ?_; intro v1 w1 hown hgr hat)
 simp only [List.nil_append] at hown
 have hb1 : Below w.heap.size w w1 := (balloc (Below.refl _ _)).grown hgr (by simp) (fun k hk => Nat.le_of_eq (Option.some.inj hk))
 have H1 := Lib.hid hown
 clear hown hgr hat
 go_wp2_with fail
 go_ret
 exact ⟨⟨_, rfl, H1.out⟩, hb1⟩
def StampsR (w : World) (B : Nat) (cs : List Value) (l : List Stamp) : Prop := ∃ v, cs = [v] ∧ Stamps w B v l
abbrev StampRows (w : World) (B : Nat) := Sl (StampsR w B) 1 w B
theorem extStamps : ExtR (fun w => StampsR w w.heap.size) := fun _ _ _ _ he ⟨v, e, h⟩ => ⟨v, e, h.ext (fun _ _ h => h) he⟩
theorem StampRows.next {w w' : World} {v : Value} {ls : List (List Stamp)} (h : StampRows w w.heap.size v ls) (hb : Below w.heap.size w w') : StampRows w' w'.heap.size v ls :=
 h.ext (fun cs x hx => extStamps _ _ cs x (Ext.of_below hb) hx) (Ext.of_below hb)
theorem rows_at {w : World} {B : Nat} {v : Value} {ls : List (List Stamp)} (h : StampRows w B v ls) {m : Nat} {x : List Stamp} (hx : ls[m]? = some x) :
  ∃ b off c vi, v = .slice (some ⟨b, off, none⟩) ls.length c ∧ b < B ∧ w.cell? ⟨b, off + m, none⟩ = some vi ∧ Stamps w B vi x := by
 obtain ⟨A, c, rfl, _, _, h3⟩ := h
 obtain ⟨b, off, rfl, hb, h4⟩ := h3 (by rintro rfl; simp at hx)
 obtain ⟨cs, ⟨vi, rfl, hs⟩, _, h5⟩ := h4 m x hx
 have := h5 0 vi rfl
 rw [Nat.mul_one, Nat.add_zero] at this
 exact ⟨b, off, c, vi, rfl, hb, this, hs⟩
def maxUpto (f d : Nat → Int) (k n : Nat) : Int := if n < k then max (f n) (d n) else f n
theorem max_i64 {a b : Int} (h1 : I64 a) (h2 : I64 b) : I64 (max a b) := by
 rcases Int.le_total a b with h | h
 ·rw [Int.max_eq_right h]; exact h2
 ·rw [Int.max_eq_left h]; exact h1
def CountsI (l : List Stamp) : Prop := ∀ n : Nat, n < 64 → I64 (countOf l n)
theorem countsI_of {w : World} {B : Nat} {v : Value} {l : List Stamp} (h : Stamps w B v l) : CountsI l := by
 intro n _
 have key : ∀ m : List Stamp, (∀ s ∈ m, I64 s.count) → I64 (countOf m n) := by
  intro m
  induction m with
  | nil => exact fun _ => I64.of (by simp [countOf]) (by simp [countOf])
  | cons s m ih =>
   intro hm
   rw [countOf]
   split
   ·exact hm s (List.mem_cons_self ..)
   ·exact ih fun t ht => hm t (List.mem_cons_of_mem _ ht)
 refine key l fun s hs => ?_
 obtain ⟨i, hi⟩ := List.mem_iff_getElem?.1 hs
 obtain ⟨b, off, c, _, _, _, _, h1, _⟩ := stamps_at h hi
 exact h1
theorem joinC_i64 {ls : List (List Stamp)} (h : ∀ l ∈ ls, CountsI l) (n : Nat) (hn : n < 64) : I64 (joinC ls n) := by
 have key : ∀ (ls : List (List Stamp)) (a : Int), I64 a → (∀ l ∈ ls, CountsI l) → I64 (ls.foldl (fun a l => max a (countOf l n)) a) := by
  intro ls
  induction ls with
  | nil => exact fun a h _ => h
  | cons l ls ih => exact fun a ha hl => ih _ (max_i64 ha (hl l (List.mem_cons_self ..) n hn)) fun m hm => hl m (List.mem_cons_of_mem _ hm)
 exact key ls 0 (I64.of (by omega) (by omega)) h
end Go.Proofs.YtkphfdmelfhnoaaGreatDoor
