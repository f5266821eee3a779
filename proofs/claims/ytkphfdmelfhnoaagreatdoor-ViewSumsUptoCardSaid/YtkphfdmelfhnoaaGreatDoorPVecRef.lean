/- Contracts of the reference's vectors: the same one, a copy, the vector of counts, the join. -/
import Derived.Test.YtkphfdmelfhnoaaGreatDoorPRead
import Derived.Test.YtkphfdmelfhnoaaGreatDoorPFlat
set_option linter.all false
set_option linter.unnecessarySimpa false
set_option linter.unusedSimpArgs false
set_option linter.unusedVariables false
namespace Go.Proofs.YtkphfdmelfhnoaaGreatDoor
open Go.ChangeShapes Go.WideShapes Go.ChangeAt Go.RowKit
theorem countOf_nonneg (l : List Stamp) (n : Int) : 0 ≤ countOf l n := by
 by_cases h : countOf l n = 0
 ·omega
 ·have := countOf_pos h; omega
def vecUpto (c : Nat → Int) : Nat → List Stamp
 | 0 => []
 | k + 1 => if 0 < c k then vecUpto c k ++ [⟨c k, k⟩] else vecUpto c k
def vecOf (c : Nat → Int) : List Stamp := vecUpto c 64
theorem vecUpto_congr {c d : Nat → Int} : ∀ {k : Nat}, (∀ n, n < k → c n = d n) → vecUpto c k = vecUpto d k
 | 0, _ => rfl
 | k + 1, h => by rw [vecUpto, vecUpto, vecUpto_congr (k := k) (fun n hn => h n (by omega)), h k (by omega)]
theorem vecOf_congr {c d : Nat → Int} (h : ∀ n, n < 64 → c n = d n) : vecOf c = vecOf d := vecUpto_congr h
theorem countOf_append (l m : List Stamp) (n : Int) : countOf (l ++ m) n = if countOf l n = 0 then countOf m n else countOf l n := by
 induction l with
 | nil => simp [countOf]
 | cons s l ih =>
  rw [List.cons_append, countOf, countOf, ih]
  by_cases hs : s.node = n ∧ rightB s.count s.node = true
  ·rw [if_pos hs, if_pos hs, if_neg]
   have := hs.2
   simp only [rightB, decide_eq_true_eq] at this
   omega
  ·rw [if_neg hs, if_neg hs]
theorem countOf_upto (c : Nat → Int) : ∀ (k : Nat), k ≤ 64 → ∀ n : Nat, countOf (vecUpto c k) n = if n < k ∧ 0 < c n then c n else 0
 | 0, _, n => by simp [vecUpto, countOf]
 | k + 1, hk, n => by
  have ih := countOf_upto c k (by omega) n
  unfold vecUpto
  by_cases h0 : 0 < c k
  ·rw [if_pos h0, countOf_append, ih]
   by_cases hn : n < k ∧ 0 < c n
   ·rw [if_pos hn, if_neg (by omega), if_pos ⟨by omega, hn.2⟩]
   ·rw [if_neg hn, if_pos rfl, countOf]
    by_cases he : n = k
    ·subst he
     rw [if_pos ⟨rfl, by simp only [rightB, decide_eq_true_eq]; omega⟩, if_pos ⟨by omega, h0⟩]
    ·rw [if_neg (by simp only; omega), if_neg (by omega)]
     rfl
  ·rw [if_neg h0, ih]
   by_cases he : n = k
   ·subst he
    rw [if_neg (by omega), if_neg (by omega)]
   ·by_cases hn : n < k ∧ 0 < c n
    ·rw [if_pos hn, if_pos ⟨by omega, hn.2⟩]
    ·rw [if_neg hn, if_neg (by omega)]
theorem countOf_vecOf (c : Nat → Int) {n : Nat} (hn : n < 64) (h0 : 0 ≤ c n) : countOf (vecOf c) n = c n := by
 rw [vecOf, countOf_upto c 64 (by omega)]
 split <;> omega
theorem vecFrom_snoc : ∀ {l : List Stamp} {e : Int} {s : Stamp}, vecFrom e (l ++ [s]) = (vecFrom e l && (rightB s.count s.node && decide ((l.getLast?.map (·.node)).getD e < s.node)))
 | [], e, s => by
  show ((rightB s.count s.node && decide (e < s.node)) && true) = (true && (rightB s.count s.node && decide (e < s.node)))
  rw [Bool.and_true, Bool.true_and]
 | x :: l, e, s => by
  have : ((x :: l).getLast?.map (·.node)).getD e = (l.getLast?.map (·.node)).getD x.node := by
   cases l with
   | nil => rfl
   | cons y l => simp [List.getLast?_cons]
  rw [this]
  show ((rightB x.count x.node && decide (e < x.node)) && vecFrom x.node (l ++ [s])) = (((rightB x.count x.node && decide (e < x.node)) && vecFrom x.node l) && _)
  rw [vecFrom_snoc, Bool.and_assoc, Bool.and_assoc, Bool.and_assoc]
theorem vecUpto_from (c : Nat → Int) : ∀ k, k ≤ 64 → vecFrom (-1) (vecUpto c k) = true ∧ ((vecUpto c k).getLast?.map (·.node)).getD (-1) < (k : Int)
 | 0, _ => ⟨rfl, by simp [vecUpto]⟩
 | k + 1, hk => by
  obtain ⟨h1, h2⟩ := vecUpto_from c k (by omega)
  unfold vecUpto
  split
  ·rename_i h0
   refine ⟨?_, by simp; omega⟩
   rw [vecFrom_snoc, h1, Bool.true_and, Bool.and_eq_true, decide_eq_true_eq]
   exact ⟨by simp only [rightB, decide_eq_true_eq]; omega, h2⟩
  ·exact ⟨h1, by omega⟩
theorem vecOf_formed (c : Nat → Int) : vecFormed (vecOf c) = true := (vecUpto_from c 64 (by omega)).1
theorem vecFrom_count {e : Int} : ∀ {l : List Stamp}, vecFrom e l = true → ∀ n : Int, n ≤ e → countOf l n = 0
 | [], _, _, _ => rfl
 | s :: l, h, n, hn => by
  simp only [vecFrom, Bool.and_eq_true, decide_eq_true_eq] at h
  rw [countOf, if_neg (by omega)]
  exact vecFrom_count h.2 n (by omega)
theorem vec_unique : ∀ {l m : List Stamp} {e : Int}, -1 ≤ e → vecFrom e l = true → vecFrom e m = true → (∀ n : Nat, n < 64 → countOf l n = countOf m n) → l = m
 | [], [], _, _, _, _, _ => rfl
 | [], s :: m, e, he, _, h', h => by
  simp only [vecFrom, Bool.and_eq_true, decide_eq_true_eq, rightB] at h'
  have := h s.node.toNat (by omega)
  rw [countOf, countOf, show ((s.node.toNat : Nat) : Int) = s.node by omega, if_pos ⟨rfl, by simp only [rightB, decide_eq_true_eq]; omega⟩] at this
  omega
 | s :: l, [], e, he, h', _, h => by
  simp only [vecFrom, Bool.and_eq_true, decide_eq_true_eq, rightB] at h'
  have := h s.node.toNat (by omega)
  rw [countOf, countOf, show ((s.node.toNat : Nat) : Int) = s.node by omega, if_pos ⟨rfl, by simp only [rightB, decide_eq_true_eq]; omega⟩] at this
  omega
 | s :: l, t :: m, e, he, hl, hm, h => by
  have h1 := hl
  have h2 := hm
  simp only [vecFrom, Bool.and_eq_true, decide_eq_true_eq, rightB] at h1 h2
  have hs := h s.node.toNat (by omega)
  have ht := h t.node.toNat (by omega)
  rw [show ((s.node.toNat : Nat) : Int) = s.node by omega] at hs
  rw [show ((t.node.toNat : Nat) : Int) = t.node by omega] at ht
  have cs : countOf (s :: l) s.node = s.count := by rw [countOf, if_pos ⟨rfl, by simp only [rightB, decide_eq_true_eq]; omega⟩]
  have ct : countOf (t :: m) t.node = t.count := by rw [countOf, if_pos ⟨rfl, by simp only [rightB, decide_eq_true_eq]; omega⟩]
  have hn : s.node = t.node := by
   rcases Int.lt_trichotomy s.node t.node with c | c | c
   ·exfalso
    rw [cs, countOf, if_neg (by omega), vecFrom_count h2.2 _ (by omega)] at hs
    omega
   ·exact c
   ·exfalso
    rw [ct, countOf, if_neg (by omega), vecFrom_count h1.2 _ (by omega)] at ht
    omega
  rw [cs, hn, ct] at hs
  obtain ⟨sc, sn⟩ := s
  obtain ⟨tc, tn⟩ := t
  simp only at hn hs h1 h2
  subst hn hs
  have : l = m := by
   refine vec_unique (e := sn) (by omega) h1.2 h2.2 fun n hn' => ?_
   have := h n hn'
   rw [countOf, countOf] at this
   by_cases he' : sn = n
   ·rw [vecFrom_count h1.2 _ (by omega), vecFrom_count h2.2 _ (by omega)]
   ·rw [if_neg (by simp only; omega), if_neg (by simp only; omega)] at this
    exact this
  rw [this]
theorem vecOf_count {l : List Stamp} (h : vecFormed l = true) : vecOf (fun n => countOf l n) = l :=
 vec_unique (e := -1) (by omega) (vecOf_formed _) h fun n hn => by rw [countOf_vecOf _ hn (countOf_nonneg _ _)]
def joinC (ls : List (List Stamp)) (n : Nat) : Int := ls.foldl (fun a l => max a (countOf l n)) 0
theorem joinC_snoc (ls : List (List Stamp)) (l : List Stamp) (n : Nat) : joinC (ls ++ [l]) n = max (joinC ls n) (countOf l n) := by simp [joinC]
theorem joinC_nonneg (ls : List (List Stamp)) (n : Nat) : 0 ≤ joinC ls n := by
 have key : ∀ (ls : List (List Stamp)) (a : Int), 0 ≤ a → 0 ≤ ls.foldl (fun a l => max a (countOf l n)) a := by
  intro ls
  induction ls with
  | nil => exact fun a h => h
  | cons l ls ih => exact fun a h => ih _ (by show 0 ≤ max _ _; omega)
 exact key ls 0 (by omega)
def joinS (ls : List (List Stamp)) : List Stamp := vecOf (joinC ls)
theorem joinC_two (a b : List Stamp) (n : Nat) : joinC [a, b] n = max (countOf a n) (countOf b n) := by
 have := countOf_nonneg a n
 simp only [joinC, List.foldl_cons, List.foldl_nil]
 omega
def meetC : List (List Stamp) → Nat → Int
 | [], _ => 0
 | l :: ls, n => ls.foldl (fun a l => min a (countOf l n)) (countOf l n)
def meetS (ls : List (List Stamp)) : List Stamp := vecOf (meetC ls)
theorem refVecSame (l m : List Stamp) (v u : Value) (w : World) (h : Stamps w w.heap.size v l) (h' : Stamps w w.heap.size u m) :
  Calls Tryz.prog 44 #[v, u] w fun e w' => e = .returned (.bool (decide (l = m))) ∧ Below w.heap.size w w' := by
 have hle := h.len_le
 have hle' := h'.len_le
 obtain ⟨A, c, rfl, _⟩ := id h
 obtain ⟨A', c', rfl, _⟩ := id h'
 by_cases hlen : l.length = m.length
 ·have Hlen := Lib.hid hlen
  have ht : ((l.length : Int) != (m.length : Int)) = false := by rw [hlen]; simp
  clear hlen
  go_enter Tryz.func44, Tryz.ntmps44
  go_wp2_with fail
  go_loopw [5] (fun k wr => ∃ n : Nat, n ≤ l.length ∧ k = .int .i64 n ∧ l.take n = m.take n ∧ Below w.heap.size w wr) (fun k _ => l.length - (intOf k).toNat)
  case atStart => exact ⟨0, Nat.zero_le _, rfl, rfl, Below.refl _ _⟩
  case round =>
   obtain ⟨n, hn, rfl, ht2, hb⟩ := hrel
   have Ht := Lib.hid ht2
   clear ht2 ht
   by_cases hlt : n < l.length
   ·obtain ⟨x, hx⟩ : ∃ x, l[n]? = some x := ⟨l[n], List.getElem?_eq_getElem hlt⟩
    obtain ⟨y, hy⟩ : ∃ y, m[n]? = some y := ⟨m[n]'(by have := Hlen.out; omega), List.getElem?_eq_getElem (by have := Hlen.out; omega)⟩
    obtain ⟨b, off, _, hv, hbb, e0, e1, _, _⟩ := stamps_at h hx
    obtain ⟨b', off', _, hv', hbb', e0', e1', _, _⟩ := stamps_at h' hy
    injection hv with hv1 hv2 hv3
    injection hv' with hv1' hv2' hv3'
    subst hv1 hv1'
    have f0 := (hb.cell (p := ⟨b, off + n * 2, none⟩) hbb).trans e0
    have f1 := (hb.cell (p := ⟨b, off + n * 2 + 1, none⟩) hbb).trans e1
    have f0' := (hb.cell (p := ⟨b', off' + n * 2, none⟩) hbb').trans e0'
    have f1' := (hb.cell (p := ⟨b', off' + n * 2 + 1, none⟩) hbb').trans e1'
    have Hx := Lib.hid hx
    have Hy := Lib.hid hy
    have i1 : (n : Int) < (l.length : Int) := by omega
    have i2 : (n : Int) < (m.length : Int) := by have := Hlen.out; omega
    clear hv2 hv3 hv2' hv3' e0 e1 e0' e1' hx hy
    obtain ⟨xl, xh⟩ := x
    obtain ⟨yl, yh⟩ := y
    simp only at f0 f1 f0' f1'
    by_cases p1 : xl = yl
    ·subst p1
     by_cases p2 : xh = yh
     ·subst p2
      go_wp2_with fail
      go_quiet (fail)
      go_wp2_with fail
      refine ⟨⟨n + 1, by omega, by go_num, ?_, bdrewN hb _⟩, by simp [intOf]; omega⟩
      rw [take_snoc Hx.out, take_snoc Hy.out, Ht.out]
     ·have Hres : Hid (decide (l = m) = false) := by
       refine decide_eq_false fun e => ?_
       have := Hx.out
       rw [e, Hy.out] at this
       simp at this
       exact p2 this.symm
      go_wp2_with fail
      go_quiet (fail)
      go_wp2_with fail
      go_ret
      exact ⟨ret_bool Hres.out.symm, bdrewN hb _⟩
    ·have Hres : Hid (decide (l = m) = false) := by
      refine decide_eq_false fun e => ?_
      have := Hx.out
      rw [e, Hy.out] at this
      simp at this
      exact p1 this.1.symm
     go_wp2_with fail
     go_quiet (fail)
     go_wp2_with fail
     go_ret
     exact ⟨ret_bool Hres.out.symm, bdrewN hb _⟩
   ·obtain rfl : n = l.length := by omega
    have Hres : Hid (decide (l = m) = true) := by
     refine decide_eq_true ?_
     have := Ht.out
     rwa [List.take_length, Hlen.out, List.take_length] at this
    go_wp2_with fail
    go_ret
    exact ⟨ret_bool Hres.out.symm, hb⟩
 ·have ht : ((l.length : Int) != (m.length : Int)) = true := by simp; omega
  have Hres : Hid (decide (l = m) = false) := decide_eq_false fun e => hlen (by rw [e])
  clear hlen
  go_enter Tryz.func44, Tryz.ntmps44
  go_wp2_with fail
  go_ret
  exact ⟨ret_bool Hres.out.symm, Below.refl _ _⟩
theorem stampOne : ∀ cs x, StampR cs x → ∀ u ∈ cs, u.oneCell' = true := by
 rintro cs x ⟨rfl, _⟩ u hu; simp at hu; rcases hu with rfl | rfl <;> rfl
theorem infoStamp2 : (Tryz.prog.info? 49).map (fun i => (i.zero.map (·.cells.size), i.size, i.bytes)) = some (some 2, 2, 16) := by kernel_rfl
theorem stamps_empty (w : World) : OwnSl StampR 2 (w.alloc (.cells #[] 49)) w.heap.size 49 (.slice (some ⟨w.heap.size, 0, none⟩) 0 0) [] :=
 ⟨[], ⟨rfl, .inr ⟨_, 0, #[], rfl, Nat.le_refl _, heap_alloc_new w _, Nat.le_refl _, Nat.zero_le _, rfl, rfl⟩⟩, rfl, Nat.zero_le _⟩
theorem refVecCopy (l : List Stamp) (v : Value) (w : World) (h : Stamps w w.heap.size v l) :
  Calls Tryz.prog 57 #[v] w fun e w' => (∃ v', e = .returned v' ∧ OwnSl StampR 2 w' w.heap.size 49 v' l) ∧ Below w.heap.size w w' := by
 have hle := h.len_le
 obtain ⟨A, c, rfl, _⟩ := id h
 go_enter Tryz.func57, Tryz.ntmps57
 go_wp2_with (at_builtin; refine append_sl infoStamp2 Tryz.underlying22 (by omega) (by omega) stampOne rfl (.tmp 3) (.tmp 4) rfl w.heap.size _ [] rfl (stamps_empty w) w.heap.size _ l rfl (h.keep (fun _ _ h => h) (Nat.le_refl _) (fun p hp => World.cell?_alloc_lt _ _ _ hp)) (by simp only [List.length_nil]; omega) (by simp) ?_; intro v1 w1 hown hgr hat)
 simp only [List.nil_append] at hown
 have hb1 : Below w.heap.size w w1 := (balloc (Below.refl _ _)).grown hgr (by simp) (fun k hk => Nat.le_of_eq (Option.some.inj hk))
 have H1 := Lib.hid hown
 clear hown hgr hat
 go_wp2_with fail
 go_ret
 exact ⟨⟨_, rfl, H1.out⟩, hb1⟩
def StampsR (w : World) (B : Nat) (cs : List Value) (l : List Stamp) : Prop := ∃ v, cs = [v] ∧ Stamps w B v l
abbrev StampRows (w : World) (B : Nat) := Sl (StampsR w B) 1 w B
theorem extStamps : ExtR (fun w => StampsR w w.heap.size) := fun _ _ _ _ he ⟨v, e, h⟩ => ⟨v, e, h.ext (fun _ _ h => h) he⟩
theorem StampRows.next {w w' : World} {v : Value} {ls : List (List Stamp)} (h : StampRows w w.heap.size v ls) (hb : Below w.heap.size w w') : StampRows w' w'.heap.size v ls :=
 h.ext (fun cs x hx => extStamps _ _ cs x (Ext.of_below hb) hx) (Ext.of_below hb)
theorem rows_at {w : World} {B : Nat} {v : Value} {ls : List (List Stamp)} (h : StampRows w B v ls) {m : Nat} {x : List Stamp} (hx : ls[m]? = some x) :
  ∃ b off c vi, v = .slice (some ⟨b, off, none⟩) ls.length c ∧ b < B ∧ w.cell? ⟨b, off + m, none⟩ = some vi ∧ Stamps w B vi x := by
 obtain ⟨A, c, rfl, _, _, h3⟩ := h
 obtain ⟨b, off, rfl, hb, h4⟩ := h3 (by rintro rfl; simp at hx)
 obtain ⟨cs, ⟨vi, rfl, hs⟩, _, h5⟩ := h4 m x hx
 have := h5 0 vi rfl
 rw [Nat.mul_one, Nat.add_zero] at this
 exact ⟨b, off, c, vi, rfl, hb, this, hs⟩
def maxUpto (f d : Nat → Int) (k n : Nat) : Int := if n < k then max (f n) (d n) else f n
theorem max_i64 {a b : Int} (h1 : I64 a) (h2 : I64 b) : I64 (max a b) := by
 rcases Int.le_total a b with h | h
 ·rw [Int.max_eq_right h]; exact h2
 ·rw [Int.max_eq_left h]; exact h1
def CountsI (l : List Stamp) : Prop := ∀ n : Nat, n < 64 → I64 (countOf l n)
theorem countsI_of {w : World} {B : Nat} {v : Value} {l : List Stamp} (h : Stamps w B v l) : CountsI l := by
 intro n _
 have key : ∀ m : List Stamp, (∀ s ∈ m, I64 s.count) → I64 (countOf m n) := by
  intro m
  induction m with
  | nil => exact fun _ => I64.of (by simp [countOf]) (by simp [countOf])
  | cons s m ih =>
   intro hm
   rw [countOf]
   split
   ·exact hm s (List.mem_cons_self ..)
   ·exact ih fun t ht => hm t (List.mem_cons_of_mem _ ht)
 refine key l fun s hs => ?_
 obtain ⟨i, hi⟩ := List.mem_iff_getElem?.1 hs
 obtain ⟨b, off, c, _, _, _, _, h1, _⟩ := stamps_at h hi
 exact h1
theorem joinC_i64 {ls : List (List Stamp)} (h : ∀ l ∈ ls, CountsI l) (n : Nat) (hn : n < 64) : I64 (joinC ls n) := by
 have key : ∀ (ls : List (List Stamp)) (a : Int), I64 a → (∀ l ∈ ls, CountsI l) → I64 (ls.foldl (fun a l => max a (countOf l n)) a) := by
  intro ls
  induction ls with
  | nil => exact fun a h _ => h
  | cons l ls ih => exact fun a ha hl => ih _ (max_i64 ha (hl l (List.mem_cons_self ..) n hn)) fun m hm => hl m (List.mem_cons_of_mem _ hm)
 exact key ls 0 (I64.of (by omega) (by omega)) h
end Go.Proofs.YtkphfdmelfhnoaaGreatDoor
