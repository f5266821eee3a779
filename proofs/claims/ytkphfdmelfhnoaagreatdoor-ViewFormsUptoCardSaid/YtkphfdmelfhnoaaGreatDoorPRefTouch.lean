/- Whether two rows of spans share an object; up to where a view knows an interest sharply (the reference's). -/
import Derived.Test.YtkphfdmelfhnoaaGreatDoorPRefThr
import Derived.Test.YtkphfdmelfhnoaaGreatDoorPZones
import Derived.Test.YtkphfdmelfhnoaaGreatDoorPReached
import Derived.Test.YtkphfdmelfhnoaaGreatDoorPRefView
set_option linter.all false
set_option linter.unnecessarySimpa false
set_option linter.unusedSimpArgs false
set_option linter.unusedVariables false
namespace Go.Proofs.YtkphfdmelfhnoaaGreatDoor
open Go.ChangeShapes Go.WideShapes Go.ChangeAt Go.RowKit
attribute [local irreducible] setI c64I
attribute [local irreducible] AW AWY vops vopsY vop vopL vdraw callW qop binQ lenQ storeQ appendQ callQ ACalls AIter
attribute [local go_sem] noteA_eq storeQ_agg storeQ_val storeQ_iv storeQ_own wrI_eq List.map_nil nilW_eq List.length_nil
theorem rvofD (c : Nat → Int) (hc : ∀ n, n < 64 → I64 (c n)) : ACalls Tryz.prog TzTab 194 [.aggI (c64I c)] (.iv (stI (vecOf c))) [] := (rvof_call c hc).frz trivial
theorem countOf_i64 : ∀ {l : List Stamp} (_ : ∀ s ∈ l, I64 s.count) (n : Int), I64 (countOf l n)
 | [], _, _ => rfl
 | s :: l, h, n => by
  unfold countOf
  split
  ·exact h s (by simp)
  ·exact countOf_i64 (fun t ht => h t (List.mem_cons_of_mem _ ht)) n
end Go.Proofs.YtkphfdmelfhnoaaGreatDoor
namespace Go.Proofs.YtkphfdmelfhnoaaGreatDoor
open Go.ChangeShapes Go.WideShapes Go.ChangeAt Go.RowKit
attribute [local irreducible] AW AWY vops vopsY vop vopL vdraw callW qop binQ lenQ storeQ appendQ callQ ACalls AIter setI c64I
attribute [local go_sem] storeQ_val storeQ_iv storeQ_own
@[go_sem] theorem ex_min {p q : Int} {KI : Int → Prop} : (∃ m, min p q = m ∧ Hold (KI m)) = KI (min p q) := by simp [Hold]
theorem c64I_put {f : Nat → Int} {p : Nat} {b : Int} (hp : p < 64) : (c64I f).set p (.val (.int .i64 b)) = c64I fun o => if o = p then b else f o := List.ext_getElem? fun o => by
 rw [List.getElem?_set]
 by_cases e : p = o
 ·subst e; rw [if_pos rfl, c64I_len, if_pos hp, c64I_at hp, if_pos rfl]
 ·rw [if_neg e]
  by_cases ho : o < 64
  ·rw [c64I_at ho, c64I_at ho, if_neg fun h => e h.symm]
  ·rw [List.getElem?_eq_none (by rw [c64I_len]; omega), List.getElem?_eq_none (by rw [c64I_len]; omega)]
theorem c64I_congr {f g : Nat → Int} (h : ∀ o, o < 64 → f o = g o) : c64I f = c64I g := List.ext_getElem? fun o => by
 by_cases ho : o < 64
 ·rw [c64I_at ho, c64I_at ho, h o ho]
 ·rw [List.getElem?_eq_none (by rw [c64I_len]; omega), List.getElem?_eq_none (by rw [c64I_len]; omega)]
theorem meet_step {ls : List (List Stamp)} {i n : Nat} (h0 : 0 < i) (h : i < ls.length) : meetC (ls.take (i + 1)) n = min (meetC (ls.take i) n) (countOf ls[i] n) := by
 rw [List.take_succ_eq_append_getElem h]
 obtain ⟨a, l, e⟩ : ∃ a l, ls.take i = a :: l := by
  cases hh : ls.take i with
  | nil => simp at hh; rcases hh with hh | hh <;> simp_all
  | cons a l => exact ⟨a, l, rfl⟩
 rw [e]
 exact meetC_snoc a l ls[i] n
theorem i64_min {a b : Int} (h1 : I64 a) (h2 : I64 b) : I64 (min a b) := by
 rw [Int.min_def]; split <;> assumption
theorem meet_i64 : ∀ {ls : List (List Stamp)} (_ : ∀ l ∈ ls, ∀ n : Int, I64 (countOf l n)) (n : Nat), I64 (meetC ls n)
 | [], _, _ => rfl
 | a :: l, h, n => by
  have key : ∀ (l : List (List Stamp)) (x : Int), I64 x → (∀ m ∈ l, I64 (countOf m n)) → I64 (l.foldl (fun a m => min a (countOf m n)) x) := by
   intro l
   induction l with
   | nil => exact fun x hx _ => hx
   | cons m l ih => exact fun x hx hm => ih _ (i64_min hx (hm m (by simp))) fun k hk => hm k (List.mem_cons_of_mem _ hk)
  exact key l _ (h a (by simp) n) fun m hm => h m (List.mem_cons_of_mem _ hm) n
set_option maxRecDepth 100000 in
set_option maxHeartbeats 1600000 in
theorem rmeet_call (ls : List (List Stamp)) : ACalls Tryz.prog TzTab 218 [.iv (stsI ls)] (.iv (stI (meetS ls))) [] := by
 refine ACalls.ofS (n := 40) (rs := [.tmp 2]) Tryz.func218 rfl (by kernel_rfl) Tryz.ntmps218 (by kernel_rfl) (by simp) (fun _ _ => TzTab.later) ?_
 intro hok V w0
 have hlen : ls.length ≤ 1073741824 := by simpa [stsI] using hok.1.1
 have hI : ∀ l ∈ ls, ∀ n : Int, I64 (countOf l n) := fun l hl n => by
  have h1 := okR_mem hok.1.2 [stI l] (List.mem_map_of_mem hl)
  refine countOf_i64 (fun s hs => ?_) n
  obtain ⟨-, h2, -⟩ := okR_mem h1.2.1.2 (enSt s) (List.mem_map_of_mem hs)
  exact h2
 unfold stsI
 refine g ?_
 repeat' (first | refine st_ rfl (g ?_) | refine hold_ (g ?_) | exact trivial | refine cond_d (fun h => g ?_) (fun h => g ?_) | refine cond_ (fun h => g ?_) (fun h => g ?_) | (refine hKD _ _ ⟨rfl, g ?_⟩; clear hKD KD) | ((first | refine vops_ifd rfl rfl (fun h e => ?_) (fun h e => ?_) | refine vdraw_ifd rfl rfl (fun h e => ?_) (fun h e => ?_)) <;> simp only [e] <;> clear e <;> refine g ?_) | ((first | refine vops_if rfl rfl (fun h => ?_) (fun h => ?_) | refine vdraw_if rfl rfl (fun h => ?_) (fun h => ?_)) <;> simp only [h] <;> refine g ?_) | refine ix_ (by omega) (g ?_))
 ·obtain rfl : ls = [] := List.length_eq_zero_iff.1 (by omega)
  exact nil_sub 2
 have hpos : 0 < ls.length := by omega
 refine ⟨_, get_map (List.getElem?_eq_getElem hpos), hold_ ?_⟩
 refine g ?_
 repeat' (first | refine st_ rfl (g ?_) | refine hold_ (g ?_) | exact trivial | refine cond_d (fun h => g ?_) (fun h => g ?_) | refine cond_ (fun h => g ?_) (fun h => g ?_) | (refine hKD _ _ ⟨rfl, g ?_⟩; clear hKD KD) | ((first | refine vops_ifd rfl rfl (fun h e => ?_) (fun h e => ?_) | refine vdraw_ifd rfl rfl (fun h e => ?_) (fun h e => ?_)) <;> simp only [e] <;> clear e <;> refine g ?_) | ((first | refine vops_if rfl rfl (fun h => ?_) (fun h => ?_) | refine vdraw_if rfl rfl (fun h => ?_) (fun h => ?_)) <;> simp only [h] <;> refine g ?_) | refine ix_ (by omega) (g ?_))
 refine call_ (rcounts_call ls[0]) rfl ?_
 refine g ?_
 repeat' (first | refine st_ rfl (g ?_) | refine hold_ (g ?_) | exact trivial | refine cond_d (fun h => g ?_) (fun h => g ?_) | refine cond_ (fun h => g ?_) (fun h => g ?_) | (refine hKD _ _ ⟨rfl, g ?_⟩; clear hKD KD) | ((first | refine vops_ifd rfl rfl (fun h e => ?_) (fun h e => ?_) | refine vdraw_ifd rfl rfl (fun h e => ?_) (fun h e => ?_)) <;> simp only [e] <;> clear e <;> refine g ?_) | ((first | refine vops_if rfl rfl (fun h => ?_) (fun h => ?_) | refine vdraw_if rfl rfl (fun h => ?_) (fun h => ?_)) <;> simp only [h] <;> refine g ?_) | refine ix_ (by omega) (g ?_))
 refine store_ar (q := 2) (s := 64) (by kernel_rfl) (c64I_len _) rfl (by simp [rep]) ?_
 refine g ?_
 repeat' (first | refine st_ rfl (g ?_) | refine hold_ (g ?_) | exact trivial | refine cond_d (fun h => g ?_) (fun h => g ?_) | refine cond_ (fun h => g ?_) (fun h => g ?_) | (refine hKD _ _ ⟨rfl, g ?_⟩; clear hKD KD) | ((first | refine vops_ifd rfl rfl (fun h e => ?_) (fun h e => ?_) | refine vdraw_ifd rfl rfl (fun h e => ?_) (fun h e => ?_)) <;> simp only [e] <;> clear e <;> refine g ?_) | ((first | refine vops_if rfl rfl (fun h => ?_) (fun h => ?_) | refine vdraw_if rfl rfl (fun h => ?_) (fun h => ?_)) <;> simp only [h] <;> refine g ?_) | refine ix_ (by omega) (g ?_))
 have e0 : ls.take 1 = [ls[0]] := by
  cases ls with
  | nil => simp at hpos
  | cons a l => rfl
 refine AW.loop (fun i : {i : Nat // 0 < i ∧ i ≤ ls.length} => ⟨[(0, .iv (.sl 1 (ls.map fun l => [stI l]))), (3, .bp 400 0), (4, .val (.int .i64 (i.1 : Nat)))], [.arr 400 (c64I (meetC (ls.take i.1)))]⟩) (fun i => ls.length - i.1) ⟨1, Nat.one_pos, hpos⟩ id ⟨⟨rfl, rfl, rfl, trivial⟩, ⟨?_, trivial⟩, by simp [idsOf, BA.id]⟩ fun ⟨i, hi0, hi⟩ => ?_
 ·refine congrArg (fun C => some (BA.arr 400 C)) (c64I_congr fun o _ => ?_)
  show countOf ls[0] o = meetC (ls.take 1) o
  rw [e0]; rfl
 refine g ?_
 repeat' (first | refine st_ rfl (g ?_) | refine hold_ (g ?_) | exact trivial | refine cond_d (fun h => g ?_) (fun h => g ?_) | refine cond_ (fun h => g ?_) (fun h => g ?_) | (refine hKD _ _ ⟨rfl, g ?_⟩; clear hKD KD) | ((first | refine vops_ifd rfl rfl (fun h e => ?_) (fun h e => ?_) | refine vdraw_ifd rfl rfl (fun h e => ?_) (fun h e => ?_)) <;> simp only [e] <;> clear e <;> refine g ?_) | ((first | refine vops_if rfl rfl (fun h => ?_) (fun h => ?_) | refine vdraw_if rfl rfl (fun h => ?_) (fun h => ?_)) <;> simp only [h] <;> refine g ?_) | refine ix_ (by omega) (g ?_) | refine call_ (rcounts_call _) rfl (g ?_) | (refine ixm i (by omega) (by omega) (by omega) ?_) <;> refine g ?_)
 ·refine store_ar (q := 2) (s := 64) (by kernel_rfl) (c64I_len _) rfl (by simp [rep]) ?_
  refine g ?_
  repeat' (first | refine st_ rfl (g ?_) | refine hold_ (g ?_) | exact trivial | refine cond_d (fun h => g ?_) (fun h => g ?_) | refine cond_ (fun h => g ?_) (fun h => g ?_) | (refine hKD _ _ ⟨rfl, g ?_⟩; clear hKD KD) | ((first | refine vops_ifd rfl rfl (fun h e => ?_) (fun h e => ?_) | refine vdraw_ifd rfl rfl (fun h e => ?_) (fun h e => ?_)) <;> simp only [e] <;> clear e <;> refine g ?_) | ((first | refine vops_if rfl rfl (fun h => ?_) (fun h => ?_) | refine vdraw_if rfl rfl (fun h => ?_) (fun h => ?_)) <;> simp only [h] <;> refine g ?_) | refine ix_ (by omega) (g ?_))
  refine AW.freeze 600 _ rfl trivial ?_
  simp only [go_sem, reduceIte, Nat.reduceEqDiff]
  have hlt : i < ls.length := by omega
  refine AW.loop (fun n : {n : Nat // n ≤ 64} => ⟨[(0, .iv (.sl 1 (ls.map fun l => [stI l]))), (3, .bp 400 0), (4, .val (.int .i64 (i : Nat))), (5, .ip (c64I fun n => countOf ls[i] n)), (6, .val (.int .i64 (n.1 : Nat)))], [.arr 400 (c64I fun o => if o < n.1 then meetC (ls.take (i + 1)) o else meetC (ls.take i) o)]⟩) (fun n => 64 - n.1) ⟨0, Nat.zero_le _⟩ id ⟨⟨rfl, rfl, rfl, rfl, rfl, trivial⟩, ⟨?_, trivial⟩, by simp [idsOf, BA.id]⟩ fun ⟨n, hn⟩ => ?_
  ·exact congrArg (fun C => some (BA.arr 400 C)) (c64I_congr fun o _ => by simp)
  refine g ?_
  repeat' (first | refine st_ rfl (g ?_) | refine hold_ (g ?_) | exact trivial | refine cond_d (fun h => g ?_) (fun h => g ?_) | refine cond_ (fun h => g ?_) (fun h => g ?_) | (refine hKD _ _ ⟨rfl, g ?_⟩; clear hKD KD) | ((first | refine vops_ifd rfl rfl (fun h e => ?_) (fun h e => ?_) | refine vdraw_ifd rfl rfl (fun h e => ?_) (fun h e => ?_)) <;> simp only [e] <;> clear e <;> refine g ?_) | ((first | refine vops_if rfl rfl (fun h => ?_) (fun h => ?_) | refine vdraw_if rfl rfl (fun h => ?_) (fun h => ?_)) <;> simp only [h] <;> refine g ?_) | refine ix_ (by omega) (g ?_))
  ·have hn' : n < 64 := by omega
   refine AW.drawn (ds := [29, 30, 31, 32, 33, 34, 35, 36, 37]) (fin := [1]) (bs := [1, 1, 1, 1, 1, 1, 1, 1, 1, 1]) [⟨[], [], [], [], 0⟩, ⟨[], [], [], [], 0⟩, ⟨[(30, 1)], [], [0], [], 0⟩, ⟨[(31, 2)], [], [0], [], 0⟩, ⟨[], [], [], [], 0⟩, ⟨[(33, 4)], [], [0], [], 0⟩, ⟨[(34, 5)], [], [0], [], 0⟩, ⟨[(32, 3), (35, 6)], [], [], [], 0⟩, ⟨[(29, 0)], [], [0], [], 0⟩, ⟨[(37, 8), (36, 7)], [], [], [0], 1⟩] (by kernel_rfl) rfl (by kernel_rfl) rfl rfl rfl fun KD hKD => ?_
   refine g ?_
   repeat' (first | refine hold_ (g ?_) | (refine hKD _ _ ⟨rfl, g ?_⟩; clear hKD KD) | exact trivial)
   refine ⟨by omega, by omega, ?_⟩
   rw [Nat.mul_one]
   refine g ?_
   repeat' (first | refine hold_ (g ?_) | (refine hKD _ _ ⟨rfl, g ?_⟩; clear hKD KD) | exact trivial)
   refine ⟨_, (congrArg _ (Nat.zero_add n)).trans (c64I_at hn'), ?_⟩
   rw [if_neg (Nat.lt_irrefl _)]
   refine g ?_
   repeat' (first | refine hold_ (g ?_) | (refine hKD _ _ ⟨rfl, g ?_⟩; clear hKD KD) | exact trivial)
   refine ⟨by omega, by omega, ?_⟩
   rw [Nat.mul_one]
   refine g ?_
   repeat' (first | refine hold_ (g ?_) | (refine hKD _ _ ⟨rfl, g ?_⟩; clear hKD KD) | exact trivial)
   refine rdI_drop (c64I_at hn') ?_
   refine g ?_
   repeat' (first | refine hold_ (g ?_) | (refine hKD _ _ ⟨rfl, g ?_⟩; clear hKD KD) | exact trivial)
   refine ⟨by omega, by omega, ?_⟩
   rw [Nat.mul_one, Nat.zero_add]
   refine g ?_
   repeat' (first | refine hold_ (g ?_) | (refine hKD _ _ ⟨rfl, g ?_⟩; clear hKD KD) | exact trivial)
   refine ⟨_, rfl, ⟨i64_min (meet_i64 (fun l hl => hI l (List.mem_of_mem_take hl)) n) (hI _ (List.getElem_mem hlt) n), trivial⟩, by rw [c64I_len]; omega, ?_⟩
   refine g ?_
   repeat' (first | refine hold_ (g ?_) | (refine hKD _ _ ⟨rfl, g ?_⟩; clear hKD KD) | exact trivial)
   refine g ?_
   repeat' (first | refine st_ rfl (g ?_) | refine hold_ (g ?_) | exact trivial | refine cond_d (fun h => g ?_) (fun h => g ?_) | refine cond_ (fun h => g ?_) (fun h => g ?_) | (refine hKD _ _ ⟨rfl, g ?_⟩; clear hKD KD) | ((first | refine vops_ifd rfl rfl (fun h e => ?_) (fun h e => ?_) | refine vdraw_ifd rfl rfl (fun h e => ?_) (fun h e => ?_)) <;> simp only [e] <;> clear e <;> refine g ?_) | ((first | refine vops_if rfl rfl (fun h => ?_) (fun h => ?_) | refine vdraw_if rfl rfl (fun h => ?_) (fun h => ?_)) <;> simp only [h] <;> refine g ?_) | refine ix_ (by omega) (g ?_))
   refine ⟨⟨n + 1, hn'⟩, id, ⟨⟨rfl, rfl, rfl, rfl, rfl, trivial⟩, ⟨?_, trivial⟩, by simp [idsOf, BA.id]⟩, by show 64 - (n + 1) < 64 - n; omega⟩
   refine congrArg (fun C => some (BA.arr 400 C)) ((congrArg (fun k => List.set _ k _) (Nat.zero_add n)).trans ((c64I_put hn').trans (c64I_congr fun o _ => ?_)))
   by_cases ho : o = n
   ·subst ho
    rw [if_pos rfl, if_pos (Nat.lt_succ_self _), meet_step hi0 hlt]
   ·rw [if_neg ho]
    by_cases h1 : o < n
    ·rw [if_pos h1, if_pos (show o < n + 1 by omega)]
    ·rw [if_neg h1, if_neg (show ¬ o < n + 1 by omega)]
  ·refine ⟨⟨i + 1, by omega, hlt⟩, id, ⟨⟨rfl, rfl, rfl, trivial⟩, ⟨?_, trivial⟩, by simp [idsOf, BA.id]⟩, by show ls.length - (i + 1) < ls.length - i; omega⟩
   exact congrArg (fun C => some (BA.arr 400 C)) (c64I_congr fun o ho => if_pos (by omega))
 ·refine ⟨(c64I_len _).symm, ?_⟩
  obtain rfl : i = ls.length := by omega
  rw [List.take_length]
  refine call_ (rvofD _ fun n _ => meet_i64 hI n) rfl ?_
  refine g ?_
  repeat' (first | refine st_ rfl (g ?_) | refine hold_ (g ?_) | exact trivial | refine cond_d (fun h => g ?_) (fun h => g ?_) | refine cond_ (fun h => g ?_) (fun h => g ?_) | (refine hKD _ _ ⟨rfl, g ?_⟩; clear hKD KD) | ((first | refine vops_ifd rfl rfl (fun h e => ?_) (fun h e => ?_) | refine vdraw_ifd rfl rfl (fun h e => ?_) (fun h e => ?_)) <;> simp only [e] <;> clear e <;> refine g ?_) | ((first | refine vops_if rfl rfl (fun h => ?_) (fun h => ?_) | refine vdraw_if rfl rfl (fun h => ?_) (fun h => ?_)) <;> simp only [h] <;> refine g ?_) | refine ix_ (by omega) (g ?_))
  exact Sub1.rfl_ _
end Go.Proofs.YtkphfdmelfhnoaaGreatDoor
namespace Go.Proofs.YtkphfdmelfhnoaaGreatDoor
open Go.ChangeShapes Go.WideShapes Go.ChangeAt Go.RowKit
attribute [local irreducible] AW AWY vops vopsY vop vopL vdraw callW qop binQ lenQ storeQ appendQ callQ ACalls AIter setI c64I
attribute [local go_sem] storeQ_val storeQ_iv storeQ_own
def sinceRows (z : List Zone) (known : List Stamp) (it : List Span) : Nat → List (List Stamp)
 | 0 => []
 | m + 1 => sinceRows z known it m ++ if memB it m = true then [reachS z known m] else []
def sinceS (z : List Zone) (known : List Stamp) (it : List Span) : List Stamp := if zonesFormed z = true ∧ vecFormed known = true then (if (sinceRows z known it 256).length = 0 then known else meetS (sinceRows z known it 256)) else []
theorem sinceRows_len (z : List Zone) (known : List Stamp) (it : List Span) : ∀ m, (sinceRows z known it m).length ≤ m
 | 0 => Nat.le_refl _
 | m + 1 => by
  have := sinceRows_len z known it m
  rw [sinceRows, List.length_append]
  split <;> simp <;> omega
set_option maxRecDepth 100000 in
theorem rzsince_call (z : List Zone) (known : List Stamp) (it : List Span) : ACalls Tryz.prog TzTab 150 [.iv (znI z), .iv (stI known), .iv (spI it)] (.iv (stI (sinceS z known it))) [] := by
 refine ACalls.ofS (n := 41) (rs := [.tmp 6]) Tryz.func150 rfl (by kernel_rfl) Tryz.ntmps150 (by kernel_rfl) (by simp) (fun _ _ => TzTab.later) ?_
 intro hok V w0
 refine g ?_
 repeat' (first | refine st_ rfl (g ?_) | refine hold_ (g ?_) | exact trivial | refine cond_d (fun h => g ?_) (fun h => g ?_) | refine cond_ (fun h => g ?_) (fun h => g ?_) | (refine vops_ifd rfl rfl (fun h e => ?_) (fun h e => ?_) <;> simp only [e] <;> clear e <;> refine g ?_) | (refine vops_if rfl rfl (fun h => ?_) (fun h => ?_) <;> simp only [h] <;> refine g ?_) | refine ix_ (by omega) (g ?_) | refine call_ (rzformed_call _) rfl (g ?_) | refine call_ (rvformed_call _) rfl (g ?_))
 ·rw [sinceS, if_neg (by rintro ⟨a1, a2⟩; simp [a1] at h)]; exact nil_sub 2
 ·rw [sinceS, if_neg (by rintro ⟨a1, a2⟩; simp [a2] at h)]; exact nil_sub 2
 rename_i h1
 have h2 := h
 rw [sinceS, if_pos ⟨by simpa using h1, by simpa using h2⟩]
 refine call_ (rset_call it) rfl ?_
 refine g ?_
 repeat' (first | refine st_ rfl (g ?_) | refine hold_ (g ?_) | exact trivial | refine cond_d (fun h => g ?_) (fun h => g ?_) | refine cond_ (fun h => g ?_) (fun h => g ?_) | (refine vops_ifd rfl rfl (fun h e => ?_) (fun h e => ?_) <;> simp only [e] <;> clear e <;> refine g ?_) | (refine vops_if rfl rfl (fun h => ?_) (fun h => ?_) <;> simp only [h] <;> refine g ?_) | refine ix_ (by omega) (g ?_))
 refine store_ar (q := 2) (s := 256) (by kernel_rfl) (setI_len _) rfl (by simp [rep]) ?_
 refine g ?_
 repeat' (first | refine st_ rfl (g ?_) | refine hold_ (g ?_) | exact trivial | refine cond_d (fun h => g ?_) (fun h => g ?_) | refine cond_ (fun h => g ?_) (fun h => g ?_) | (refine vops_ifd rfl rfl (fun h e => ?_) (fun h e => ?_) <;> simp only [e] <;> clear e <;> refine g ?_) | (refine vops_if rfl rfl (fun h => ?_) (fun h => ?_) <;> simp only [h] <;> refine g ?_) | refine ix_ (by omega) (g ?_))
 refine AW.freeze 800 _ rfl trivial ?_
 simp only [go_sem, reduceIte, Nat.reduceEqDiff]
 refine AW.adopt 8 9900 22 1 rfl rfl ?_
 refine AW.loop (fun m : {m : Nat // m ≤ 256} => ⟨[(0, .iv (znI z)), (1, .iv (stI known)), (7, .ip (setI fun o => memB it o)), (8, .own 9900), (9, .val (.int .i64 (m.1 : Nat)))], [.row 9900 22 1 ((sinceRows z known it m.1).map fun l => [stI l])]⟩) (fun m => 256 - m.1) ⟨0, Nat.zero_le _⟩ id ⟨⟨rfl, rfl, rfl, rfl, rfl, trivial⟩, ⟨rfl, trivial⟩, by simp [idsOf, BA.id]⟩ fun ⟨m, hm⟩ => ?_
 repeat (refine AW.seq ?_)
 refine AW.reg rfl fun KK hKK => ?_
 refine g ?_
 repeat' (first | refine hold_ (g ?_) | (refine hKK _ (g ?_); clear hKK KK) | exact trivial)
 repeat (refine AW.seq ?_)
 refine st_ rfl ?_
 refine g ?_
 refine cond_ (fun h => ?_) (fun h => ?_)
 ·have hm' : m < 256 := by have := of_decide_eq_true h; omega
  refine g ?_
  repeat' (first | refine st_ rfl (g ?_) | refine hold_ (g ?_) | exact trivial | refine cond_ (fun h => g ?_) (fun h => g ?_))
  refine ⟨by omega, by omega, ?_⟩
  rw [Nat.mul_one]
  refine g ?_
  repeat' (first | refine st_ rfl (g ?_) | refine hold_ (g ?_) | exact trivial | refine cond_ (fun h => g ?_) (fun h => g ?_))
  refine rdI_drop (setI_at hm') ?_
  cases hb : memB it m
  ·refine g ?_
   repeat' (first | refine st_ rfl (g ?_) | refine hold_ (g ?_) | exact trivial | refine cond_ (fun h => g ?_) (fun h => g ?_))
   refine ⟨⟨m + 1, hm'⟩, id, ⟨⟨rfl, rfl, rfl, rfl, rfl, trivial⟩, ⟨?_, trivial⟩, by simp [idsOf, BA.id]⟩, by show 256 - (m + 1) < 256 - m; omega⟩
   rw [sinceRows, hb, if_neg (by decide), List.append_nil]
   rfl
  ·refine g ?_
   repeat' (first | refine st_ rfl (g ?_) | refine hold_ (g ?_) | exact trivial | refine cond_ (fun h => g ?_) (fun h => g ?_))
   refine call_ (rzreach_call _ _ _) rfl ?_
   refine g ?_
   repeat' (first | refine st_ rfl (g ?_) | refine hold_ (g ?_) | exact trivial | refine cond_ (fun h => g ?_) (fun h => g ?_))
   refine bs1 (by omega) rfl rfl rfl ⟨trivial, trivial⟩ ?_
   refine g ?_
   repeat' (first | refine st_ rfl (g ?_) | refine hold_ (g ?_) | exact trivial | refine cond_ (fun h => g ?_) (fun h => g ?_))
   have hl2 := sinceRows_len z known it m
   refine append_own rfl (by kernel_rfl) (by omega) (by kernel_rfl) rfl (by simp; omega) ?_
   refine g ?_
   repeat' (first | refine st_ rfl (g ?_) | refine hold_ (g ?_) | exact trivial | refine cond_ (fun h => g ?_) (fun h => g ?_))
   refine ⟨⟨m + 1, hm'⟩, fun b => if b = 9900 then 3400 else b, ⟨⟨rfl, rfl, rfl, rfl, rfl, trivial⟩, ⟨?_, trivial⟩, by simp [idsOf, BA.id]⟩, by show 256 - (m + 1) < 256 - m; omega⟩
   rw [sinceRows, hb, if_pos rfl, List.map_append]
   rfl
 ·obtain rfl : m = 256 := by have := of_decide_eq_false h; omega
  refine AW.freeze 9900 _ rfl trivial ?_
  simp only [go_sem, reduceIte, Nat.reduceEqDiff]
  obtain ⟨R, hR⟩ : ∃ R, sinceRows z known it 256 = R := ⟨_, rfl⟩
  rw [hR]
  refine g ?_
  repeat' (first | refine st_ rfl (g ?_) | refine hold_ (g ?_) | exact trivial | refine cond_d (fun h => g ?_) (fun h => g ?_) | refine cond_ (fun h => g ?_) (fun h => g ?_) | (refine vops_ifd rfl rfl (fun h e => ?_) (fun h e => ?_) <;> simp only [e] <;> clear e <;> refine g ?_) | (refine vops_if rfl rfl (fun h => ?_) (fun h => ?_) <;> simp only [h] <;> refine g ?_) | refine ix_ (by omega) (g ?_) | refine call_ (rvcopyD _) rfl (g ?_) | refine call_ (rmeet_call _) rfl (g ?_))
  ·rw [if_pos (by omega)]; exact Sub1.rfl_ _
  ·rw [if_neg (by omega)]; exact Sub1.rfl_ _
end Go.Proofs.YtkphfdmelfhnoaaGreatDoor
namespace Go.Proofs.YtkphfdmelfhnoaaGreatDoor
open Go.ChangeShapes Go.WideShapes Go.ChangeAt Go.RowKit
attribute [local irreducible] AW AWY vops vopsY vop vopL vdraw callW qop binQ lenQ storeQ appendQ callQ ACalls AIter
attribute [local go_sem] wrI_eq noteA_eq storeQ_bp storeQ_rp
end Go.Proofs.YtkphfdmelfhnoaaGreatDoor
namespace Go.Proofs.YtkphfdmelfhnoaaGreatDoor
open Go.ChangeShapes Go.WideShapes Go.ChangeAt Go.RowKit
attribute [local irreducible] AW AWY vops vopsY vop vopL vdraw callW qop binQ lenQ storeQ appendQ callQ ACalls AIter setI c64I
attribute [local go_sem] vwA_eq storeQ_bp storeQ_rp
def touchS (a b : List Span) : Bool := decide (0 < (meetS2 a b).length)
def sinceV (v : View) (it : List Span) : List Stamp := if viewFormed v = true then sinceS v.zones v.known it else []
set_option maxRecDepth 100000 in
theorem rvsince_call (v : View) (it : List Span) (iR : I64 v.room) : ACalls Tryz.prog TzTab 62 [vwA v, .iv (spI it)] (.iv (stI (sinceV v it))) [] := by
 refine ACalls.ofS (n := 14) (rs := [.tmp 4]) Tryz.func62 rfl (by kernel_rfl) Tryz.ntmps62 (by kernel_rfl) (by simp) (fun _ _ => TzTab.later) ?_
 intro hok V w0
 refine g ?_
 repeat' (first | refine st_ rfl (g ?_) | refine hold_ (g ?_) | exact trivial | refine cond_d (fun h => g ?_) (fun h => g ?_) | refine cond_ (fun h => g ?_) (fun h => g ?_) | (refine vops_ifd rfl rfl (fun h e => ?_) (fun h e => ?_) <;> simp only [e] <;> clear e <;> refine g ?_) | (refine vops_if rfl rfl (fun h => ?_) (fun h => ?_) <;> simp only [h] <;> refine g ?_) | refine ix_ (by omega) (g ?_) | refine call_ (rview_call v iR) rfl (g ?_) | refine call_ (rzsince_call _ _ _) rfl (g ?_))
 ·rw [sinceV, if_neg (by simpa using h)]; exact nil_sub 2
 ·rw [sinceV, if_pos (by simpa using h)]; exact Sub1.rfl_ _
end Go.Proofs.YtkphfdmelfhnoaaGreatDoor
