/- The place of an object's write, and the write itself (the program's). -/
import Derived.Test.YtkphfdmelfhnoaaGreatDoorPShelf
import Derived.Test.YtkphfdmelfhnoaaGreatDoorPArr
set_option linter.all false
set_option linter.unnecessarySimpa false
set_option linter.unusedSimpArgs false
set_option linter.unusedVariables false
namespace Go.Proofs.YtkphfdmelfhnoaaGreatDoor
open Go.ChangeShapes Go.WideShapes Go.ChangeAt Go.RowKit
attribute [local irreducible] AW AWY vops vopsY vop vopL vdraw callW qop binQ lenQ storeQ appendQ callQ ACalls AIter setI
attribute [local go_sem] enW_eq wrI_eq wA_eq storeQ_bp storeQ_rp
theorem cmpi_call (a b : Int) : ACalls Tryz.prog TzTab 214 [.val (.int .i64 a), .val (.int .i64 b)] (.val (.int .i64 (cmpI a b))) [] :=
 bridge_val Tryz.func214 rfl (by kernel_rfl) fun V w E vs hV hG hr => by
  obtain ⟨v0, v1, rfl, h0, h1⟩ := args2 hr
  cases h0
  cases h1
  exact (cmpCompare a b w).mono fun e w' h => ⟨h.1, h.2 ▸ Below.refl _ _⟩
theorem place1_call (w : Write) (o : Int) : ACalls Tryz.prog TzTab 225 [wA w, .val (.int .i64 o)] (.val (.int .i64 (cmpI w.object o))) [] := by
 refine ACalls.of (n := 9) (rs := [.tmp 4]) Tryz.func225 rfl (by kernel_rfl) Tryz.ntmps225 (by kernel_rfl) (by simp) (fun _ _ => TzTab.later) ?_
 intro hok V w0
 refine g ?_
 repeat' (first | refine st_ rfl (g ?_) | exact trivial | refine call_ (cmpi_call _ _) rfl (g ?_))
def placeN (l : List Write) (o : Int) : Nat := l.findIdx fun w => decide (o ≤ w.object)
def Rises (l : List Write) : Prop := ∀ (i j : Nat) (x y : Write), i < j → l[i]? = some x → l[j]? = some y → x.object < y.object
theorem placed {l : List Write} {o : Int} {lo : Nat} (hs : Rises l) (h2 : lo ≤ l.length) (h3 : ∀ (k : Nat) (x : Write), k < lo → l[k]? = some x → x.object < o) (h4 : ∀ (k : Nat) (x : Write), lo ≤ k → l[k]? = some x → o ≤ x.object) :
  placeN l o = lo ∧ ((∃ h : lo < l.length, l[lo].object = o ∧ getW l o = some l[lo]) ∨ ((∀ h : lo < l.length, l[lo].object ≠ o) ∧ getW l o = none)) := by
 have hb : ∀ w ∈ l.take lo, ¬ w.object = o := fun w hw => by
  obtain ⟨j, hj, rfl⟩ := List.mem_take_iff_getElem.1 hw
  have := h3 j l[j] (by omega) (List.getElem?_eq_getElem (by omega))
  omega
 rcases Nat.lt_or_ge lo l.length with hlt | hge
 ·have h5 := h4 lo l[lo] (Nat.le_refl _) (List.getElem?_eq_getElem hlt)
  refine ⟨(List.findIdx_eq hlt).2 ⟨by simpa using h5, fun j hj => by
   have := h3 j l[j] hj (List.getElem?_eq_getElem (by omega))
   simp
   omega⟩, ?_⟩
  by_cases he : l[lo].object = o
  ·exact .inl ⟨hlt, he, getW_some hb hlt he⟩
  ·refine .inr ⟨fun _ => he, getW_none fun w hw e => ?_⟩
   obtain ⟨j, hj, rfl⟩ := List.mem_iff_getElem.1 hw
   rcases Nat.lt_trichotomy j lo with c | c | c
   ·have := h3 j _ c (List.getElem?_eq_getElem hj); omega
   ·subst c; exact he e
   ·have := hs lo j _ _ c (List.getElem?_eq_getElem hlt) (List.getElem?_eq_getElem hj); omega
 ·obtain rfl : lo = l.length := by omega
  refine ⟨List.findIdx_eq_length.2 fun x hx => ?_, .inr ⟨fun h => absurd h (Nat.lt_irrefl _), getW_none (by rwa [List.take_length] at hb)⟩⟩
  obtain ⟨j, hj, rfl⟩ := List.mem_iff_getElem.1 hx
  have := h3 j _ hj (List.getElem?_eq_getElem hj)
  simp
  omega
set_option maxRecDepth 100000 in
set_option maxHeartbeats 1600000 in
theorem bsearch_call (l : List Write) (o : Int) (hs : Rises l) : ACalls Tryz.prog TzTab 224 [.iv (wrI l), .val (.int .i64 o), .fn 225 []] (.tup [.val (.int .i64 (placeN l o : Nat)), .val (.bool (getW l o).isSome)]) [] := by
 refine ACalls.of (n := 49) (rs := [.tmp 6, .tmp 7]) Tryz.func224 rfl (by kernel_rfl) Tryz.ntmps224 (by kernel_rfl) (by simp) (fun _ _ => TzTab.later) ?_
 intro hok V w0
 have hlen : l.length ≤ 1073741824 := by simpa [wrI] using hok.1.1
 refine g ?_
 repeat' refine st_ rfl (g ?_)
 refine AW.loop (fun p : {p : Nat × Nat // p.1 ≤ p.2 ∧ p.2 ≤ l.length ∧ (∀ (k : Nat) (x : Write), k < p.1 → l[k]? = some x → x.object < o) ∧ (∀ (k : Nat) (x : Write), p.2 ≤ k → l[k]? = some x → o ≤ x.object)} => ⟨[(0, .iv (wrI l)), (1, .val (.int .i64 o)), (2, .fn 225 []), (8, .val (.int .i64 (l.length : Nat))), (9, .val (.int .i64 (p.1.1 : Nat))), (10, .val (.int .i64 (p.1.2 : Nat)))], []⟩) (fun p => p.1.2 - p.1.1) ⟨(0, l.length), Nat.zero_le _, Nat.le_refl _, fun k x hk => by omega, fun k x hk hx => by have := (List.getElem?_eq_some_iff.1 hx).1; omega⟩ id ⟨⟨rfl, rfl, rfl, rfl, rfl, rfl, trivial⟩, trivial, List.nodup_nil⟩ fun ⟨⟨lo, hi⟩, h1, h2, h3, h4⟩ => ?_
 simp only at h1 h2 h3 h4
 refine g ?_
 repeat' (first | refine st_ rfl (g ?_) | refine cond_d (fun h => g ?_) (fun h => g ?_) | (refine vops_ifd rfl rfl (fun h e => ?_) (fun h e => ?_) <;> simp only [e] <;> clear e <;> refine g ?_) | refine ix_ (by omega) (g ?_) | refine call_ (place1_call _ _) rfl (g ?_))
 ·have hlt : lo < hi := by omega
  refine ⟨((lo + hi : Nat) : Int), by rw [IntKind.wrap_u64]; omega, ?_⟩
  refine g ?_
  repeat' refine hold_ (g ?_)
  refine ⟨.int .u64 (((lo + hi) / 2 : Nat) : Int), fun w => by rw [show ((lo + hi : Nat) : Int) / 2 ^ min 1 64 = (((lo + hi) / 2 : Nat) : Int) from (by show ((lo + hi : Nat) : Int) / 2 = _; omega)]; rfl, ?_⟩
  obtain ⟨q, hq⟩ : ∃ q, (lo + hi) / 2 = q := ⟨_, rfl⟩
  rw [hq]
  have hq1 : lo ≤ q := by omega
  have hq2 : q < hi := by omega
  have hql : q < l.length := by omega
  refine g ?_
  repeat' (first | refine st_ rfl (g ?_) | refine hold_ (g ?_) | refine cond_d (fun h => g ?_) (fun h => g ?_) | refine ix_ (by omega) (g ?_) | refine call_ (place1_call _ _) rfl (g ?_))
  ·have h := cmpI_lt.1 h
   refine ⟨⟨(q + 1, hi), by show q + 1 ≤ hi; omega, h2, fun k x hk hx => ?_, h4⟩, id, ⟨⟨rfl, rfl, rfl, rfl, rfl, rfl, trivial⟩, trivial, List.nodup_nil⟩, by show hi - (q + 1) < hi - lo; omega⟩
   rcases Nat.lt_or_ge k q with c | c
   ·have := hs k q _ _ c hx (List.getElem?_eq_getElem hql); omega
   ·obtain rfl : k = q := by simp only at hk; omega
    rw [List.getElem?_eq_getElem hql] at hx
    obtain rfl := Option.some.inj hx
    exact h
  ·have h : ¬ l[q].object < o := fun e => h (cmpI_lt.2 e)
   refine ⟨⟨(lo, q), hq1, by show q ≤ l.length; omega, h3, fun k x hk hx => ?_⟩, id, ⟨⟨rfl, rfl, rfl, rfl, rfl, rfl, trivial⟩, trivial, List.nodup_nil⟩, by show q - lo < hi - lo; omega⟩
   rcases Nat.lt_or_ge q k with c | c
   ·have := hs q k _ _ c (List.getElem?_eq_getElem hql) hx; omega
   ·obtain rfl : k = q := by simp only at hk; omega
    rw [List.getElem?_eq_getElem hql] at hx
    obtain rfl := Option.some.inj hx
    omega
 ·obtain rfl : hi = lo := by omega
  obtain ⟨g1, ⟨hl, he, hg⟩ | ⟨hn, hg⟩⟩ := placed hs h2 h3 h4
  ·rw [g1, hg, decide_eq_true (cmpI_eq.2 he)]; rfl
  ·rw [g1, hg, decide_eq_false (fun e => hn (by omega) (cmpI_eq.1 e))]; rfl
 ·obtain rfl : hi = lo := by omega
  obtain ⟨g1, ⟨hl, he, hg⟩ | ⟨hn, hg⟩⟩ := placed hs h2 h3 h4
  ·omega
  ·rw [g1, hg]; rfl
theorem shelf_rises : ∀ {l : List Write} {e : Int}, shelfFrom e l = true → Rises l ∧ ∀ x ∈ l, e < x.object
 | [], e, _ => ⟨fun i j x y _ hi => by simp at hi, fun x hx => by cases hx⟩
 | w :: l, e, h => by
  simp only [shelfFrom, Bool.and_eq_true, decide_eq_true_eq] at h
  obtain ⟨⟨_, h2⟩, h3⟩ := h
  obtain ⟨g1, g2⟩ := shelf_rises h3
  refine ⟨fun i j x y hij hi hj => ?_, fun x hx => ?_⟩
  ·cases j with
   | zero => omega
   | succ j =>
    simp only [List.getElem?_cons_succ] at hj
    cases i with
    | zero =>
     simp only [List.getElem?_cons_zero, Option.some.injEq] at hi
     subst hi
     exact g2 y (List.mem_of_getElem? hj)
    | succ i => exact g1 i j x y (by omega) (by simpa using hi) hj
  ·rcases List.mem_cons.1 hx with rfl | hx
   ·exact h2
   ·have := g2 x hx; omega
theorem shplace_call (l : List Write) (o : Int) (hs : Rises l) : ACalls Tryz.prog TzTab 162 [.iv (wrI l), .val (.int .i64 o)] (.tup [.val (.int .i64 (placeN l o : Nat)), .val (.bool (getW l o).isSome)]) [] := by
 refine ACalls.of (n := 11) (rs := [.tmp 4, .tmp 5]) Tryz.func162 rfl (by kernel_rfl) Tryz.ntmps162 (by kernel_rfl) (by simp) (fun _ _ => TzTab.later) ?_
 intro hok V w0
 refine g ?_
 repeat' (first | refine st_ rfl (g ?_) | exact trivial | refine call_ (bsearch_call _ _ hs) rfl (g ?_))
theorem place_get {l : List Write} {o : Int} (hs : Rises l) {w : Write} (h : getW l o = some w) : ∃ hl : placeN l o < l.length, l[placeN l o] = w := by
 have hw := List.find?_some h
 simp only [decide_eq_true_eq] at hw
 obtain ⟨j, hj, rfl⟩ := List.mem_iff_getElem.1 (List.mem_of_find?_eq_some h)
 have e : placeN l o = j := (List.findIdx_eq hj).2 ⟨by simp [hw], fun i hi => by
  have := hs i j _ _ hi (List.getElem?_eq_getElem (by omega)) (List.getElem?_eq_getElem hj)
  simp
  omega⟩
 exact ⟨by omega, by simp only [e]⟩
set_option maxRecDepth 100000 in
theorem shget_call (l : List Write) (o : Int) : ACalls Tryz.prog TzTab 109 [.iv (wrI l), .val (.int .i64 o)] (.tup [wA (getS l o).1, .val (.int .i64 (getS l o).2)]) [] := by
 refine ACalls.of (n := 25) (rs := [.cell 4 55, .tmp 5]) Tryz.func109 rfl (by kernel_rfl) Tryz.ntmps109 (by kernel_rfl) (by simp) (fun _ _ => TzTab.later) ?_
 intro hok V w0
 have hlen : l.length ≤ 1073741824 := by simpa [wrI] using hok.1.1
 cases hf : shelfFormed l with
 | false =>
  have h1 := shformed_call l
  rw [hf] at h1
  rw [show getS l o = (noW, 1) by unfold getS; rw [if_neg (by simp [hf])]]
  refine g ?_
  repeat' (first | refine st_ rfl (g ?_) | refine call_ (h1) rfl (g ?_))
  rfl
 | true =>
  have h1 := shformed_call l
  rw [hf] at h1
  have hs := (shelf_rises hf).1
  cases hg : getW l o with
  | none =>
   have h2 := shplace_call l o hs
   rw [hg] at h2
   rw [show getS l o = (noW, 8) by unfold getS; rw [if_pos hf, hg]]
   refine g ?_
   repeat' (first | refine st_ rfl (g ?_) | refine call_ (h1) rfl (g ?_) | refine call_ (h2) rfl (g ?_))
   rfl
  | some w =>
   have h2 := shplace_call l o hs
   obtain ⟨hl, he⟩ := place_get hs hg
   rw [hg] at h2
   rw [show getS l o = (w, 0) by unfold getS; rw [if_pos hf, hg], ← he]
   refine g ?_
   repeat' (first | refine st_ rfl (g ?_) | exact trivial | refine ix_ (by omega) (g ?_) | refine call_ (h1) rfl (g ?_) | refine call_ (h2) rfl (g ?_))
end Go.Proofs.YtkphfdmelfhnoaaGreatDoor
