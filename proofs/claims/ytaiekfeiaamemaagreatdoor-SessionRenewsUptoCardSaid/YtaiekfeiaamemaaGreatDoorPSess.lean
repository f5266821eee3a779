/- Subscriptions and messages over abstract states: tests, one's own copies; the elder contracts told so. -/
import Derived.Test.YtaiekfeiaamemaaGreatDoorPLogWalk
import Derived.Test.YtaiekfeiaamemaaGreatDoorPAbsArr
import Derived.Test.YtaiekfeiaamemaaGreatDoorPBridge2
import Derived.Test.YtaiekfeiaamemaaGreatDoorPRefThr
import Derived.Test.YtaiekfeiaamemaaGreatDoorPZones
import Derived.Test.YtaiekfeiaamemaaGreatDoorPReached
import Derived.Test.YtaiekfeiaamemaaGreatDoorPTidy
import Derived.Test.YtaiekfeiaamemaaGreatDoorPShelf
import Derived.Test.YtaiekfeiaamemaaGreatDoorPCmp
import Derived.Test.YtaiekfeiaamemaaGreatDoorPSubs
import Derived.Test.YtaiekfeiaamemaaGreatDoorPSubsForm
import Derived.Test.YtaiekfeiaamemaaGreatDoorPSubsRef
import Derived.Test.YtaiekfeiaamemaaGreatDoorPSubsOwn
set_option linter.all false
set_option linter.unnecessarySimpa false
set_option linter.unusedSimpArgs false
set_option linter.unusedVariables false
/- The library's functions on rows of writes, where there are none. -/
namespace Go.Proofs.YtaiekfeiaamemaaGreatDoor
open Go.ChangeShapes Go.WideShapes Go.ChangeAt Go.RowKit
attribute [local irreducible] AW AWY vops vopsY vop vopL vdraw callW qop binQ lenQ storeQ appendQ callQ ACalls AIter
attribute [local go_sem] storeQ_bp storeQ_rp

def nilW : AV := .iv (.sl 4 [])
theorem nilW_eq : nilW = .iv (.sl 4 []) := rfl
attribute [local go_sem] nilW_eq List.length_nil
end Go.Proofs.YtaiekfeiaamemaaGreatDoor
/- One note for two dull ones of which the second goes on where the first ends (the program's). -/
namespace Go.Proofs.YtaiekfeiaamemaaGreatDoor
open Go.ChangeShapes Go.WideShapes Go.ChangeAt Go.RowKit
attribute [local irreducible] AW AWY vops vopsY vop vopL vdraw callW qop binQ lenQ storeQ appendQ callQ ACalls AIter
attribute [local go_sem] noteA_eq storeQ_bp storeQ_rp wrI_eq List.map_nil nilW_eq

end Go.Proofs.YtaiekfeiaamemaaGreatDoor
/- One note for two dull ones of which the second goes on where the first ends (the reference's). -/
namespace Go.Proofs.YtaiekfeiaamemaaGreatDoor
open Go.ChangeShapes Go.WideShapes Go.ChangeAt Go.RowKit
attribute [local irreducible] setI c64I
attribute [local irreducible] AW AWY vops vopsY vop vopL vdraw callW qop binQ lenQ storeQ appendQ callQ ACalls AIter
attribute [local go_sem] noteA_eq storeQ_agg storeQ_val storeQ_iv storeQ_own wrI_eq List.map_nil nilW_eq List.length_nil

theorem rvofD (c : Nat → Int) (hc : ∀ n, n < 64 → I64 (c n)) : ACalls Tryz.prog TzTab 212 [.aggI (c64I c)] (.iv (stI (vecOf c))) [] := (rvof_call c hc).frz trivial
theorem countOf_i64 : ∀ {l : List Stamp} (_ : ∀ s ∈ l, I64 s.count) (n : Int), I64 (countOf l n)
  | [], _, _ => rfl
  | s :: l, h, n => by
    unfold countOf
    split
    · exact h s (by simp)
    · exact countOf_i64 (fun t ht => h t (List.mem_cons_of_mem _ ht)) n
end Go.Proofs.YtaiekfeiaamemaaGreatDoor
/- The least counts of a row of vectors (the reference's). -/
namespace Go.Proofs.YtaiekfeiaamemaaGreatDoor
open Go.ChangeShapes Go.WideShapes Go.ChangeAt Go.RowKit
attribute [local irreducible] AW AWY vops vopsY vop vopL vdraw callW qop binQ lenQ storeQ appendQ callQ ACalls AIter setI c64I
attribute [local go_sem] storeQ_val storeQ_iv storeQ_own
@[go_sem] theorem ex_min {p q : Int} {KI : Int → Prop} : (∃ m, min p q = m ∧ Hold (KI m)) = KI (min p q) := by simp [Hold]
theorem c64I_put {f : Nat → Int} {p : Nat} {b : Int} (hp : p < 64) : (c64I f).set p (.val (.int .i64 b)) = c64I fun o => if o = p then b else f o := List.ext_getElem? fun o => by
  rw [List.getElem?_set]
  by_cases e : p = o
  · subst e; rw [if_pos rfl, c64I_len, if_pos hp, c64I_at hp, if_pos rfl]
  · rw [if_neg e]
    by_cases ho : o < 64
    · rw [c64I_at ho, c64I_at ho, if_neg fun h => e h.symm]
    · rw [List.getElem?_eq_none (by rw [c64I_len]; omega), List.getElem?_eq_none (by rw [c64I_len]; omega)]
theorem c64I_congr {f g : Nat → Int} (h : ∀ o, o < 64 → f o = g o) : c64I f = c64I g := List.ext_getElem? fun o => by
  by_cases ho : o < 64
  · rw [c64I_at ho, c64I_at ho, h o ho]
  · rw [List.getElem?_eq_none (by rw [c64I_len]; omega), List.getElem?_eq_none (by rw [c64I_len]; omega)]
theorem meet_step {ls : List (List Stamp)} {i n : Nat} (h0 : 0 < i) (h : i < ls.length) : meetC (ls.take (i + 1)) n = min (meetC (ls.take i) n) (countOf ls[i] n) := by
  rw [List.take_succ_eq_append_getElem h]
  obtain ⟨a, l, e⟩ : ∃ a l, ls.take i = a :: l := by
    cases hh : ls.take i with
    | nil => simp at hh; rcases hh with hh | hh <;> simp_all
    | cons a l => exact ⟨a, l, rfl⟩
  rw [e]
  exact meetC_snoc a l ls[i] n
theorem i64_min {a b : Int} (h1 : I64 a) (h2 : I64 b) : I64 (min a b) := by
  rw [Int.min_def]; split <;> assumption
theorem meet_i64 : ∀ {ls : List (List Stamp)} (_ : ∀ l ∈ ls, ∀ n : Int, I64 (countOf l n)) (n : Nat), I64 (meetC ls n)
  | [], _, _ => rfl
  | a :: l, h, n => by
    have key : ∀ (l : List (List Stamp)) (x : Int), I64 x → (∀ m ∈ l, I64 (countOf m n)) → I64 (l.foldl (fun a m => min a (countOf m n)) x) := by
      intro l
      induction l with
      | nil => exact fun x hx _ => hx
      | cons m l ih => exact fun x hx hm => ih _ (i64_min hx (hm m (by simp))) fun k hk => hm k (List.mem_cons_of_mem _ hk)
    exact key l _ (h a (by simp) n) fun m hm => h m (List.mem_cons_of_mem _ hm) n
set_option maxRecDepth 100000 in
set_option maxHeartbeats 1600000 in
theorem rmeet_call (ls : List (List Stamp)) : ACalls Tryz.prog TzTab 204 [.iv (stsI ls)] (.iv (stI (meetS ls))) [] := by
  refine ACalls.ofS (n := 40) (rs := [.tmp 2]) Tryz.func204 rfl (by kernel_rfl) Tryz.ntmps204 (by kernel_rfl) (by simp) (fun _ _ => TzTab.later) ?_
  intro hok V w0
  have hlen : ls.length ≤ 1073741824 := by simpa [stsI] using hok.1.1
  have hI : ∀ l ∈ ls, ∀ n : Int, I64 (countOf l n) := fun l hl n => by
    have h1 := okR_mem hok.1.2 [stI l] (List.mem_map_of_mem hl)
    refine countOf_i64 (fun s hs => ?_) n
    obtain ⟨-, h2, -⟩ := okR_mem h1.2.1.2 (enSt s) (List.mem_map_of_mem hs)
    exact h2
  unfold stsI
  refine g ?_
  repeat' (first | refine st_ rfl (g ?_) | refine hold_ (g ?_) | exact trivial | refine cond_d (fun h => g ?_) (fun h => g ?_) | refine cond_ (fun h => g ?_) (fun h => g ?_) | (refine hKD _ _ ⟨rfl, g ?_⟩; clear hKD KD) | ((first | refine vops_ifd rfl rfl (fun h e => ?_) (fun h e => ?_) | refine vdraw_ifd rfl rfl (fun h e => ?_) (fun h e => ?_)) <;> simp only [e] <;> clear e <;> refine g ?_) | ((first | refine vops_if rfl rfl (fun h => ?_) (fun h => ?_) | refine vdraw_if rfl rfl (fun h => ?_) (fun h => ?_)) <;> simp only [h] <;> refine g ?_) | refine ix_ (by omega) (g ?_))
  · obtain rfl : ls = [] := List.length_eq_zero_iff.1 (by omega)
    exact nil_sub 2
  have hpos : 0 < ls.length := by omega
  refine ⟨_, get_map (List.getElem?_eq_getElem hpos), hold_ ?_⟩
  refine g ?_
  repeat' (first | refine st_ rfl (g ?_) | refine hold_ (g ?_) | exact trivial | refine cond_d (fun h => g ?_) (fun h => g ?_) | refine cond_ (fun h => g ?_) (fun h => g ?_) | (refine hKD _ _ ⟨rfl, g ?_⟩; clear hKD KD) | ((first | refine vops_ifd rfl rfl (fun h e => ?_) (fun h e => ?_) | refine vdraw_ifd rfl rfl (fun h e => ?_) (fun h e => ?_)) <;> simp only [e] <;> clear e <;> refine g ?_) | ((first | refine vops_if rfl rfl (fun h => ?_) (fun h => ?_) | refine vdraw_if rfl rfl (fun h => ?_) (fun h => ?_)) <;> simp only [h] <;> refine g ?_) | refine ix_ (by omega) (g ?_))
  refine call_ (rcounts_call ls[0]) rfl ?_
  refine g ?_
  repeat' (first | refine st_ rfl (g ?_) | refine hold_ (g ?_) | exact trivial | refine cond_d (fun h => g ?_) (fun h => g ?_) | refine cond_ (fun h => g ?_) (fun h => g ?_) | (refine hKD _ _ ⟨rfl, g ?_⟩; clear hKD KD) | ((first | refine vops_ifd rfl rfl (fun h e => ?_) (fun h e => ?_) | refine vdraw_ifd rfl rfl (fun h e => ?_) (fun h e => ?_)) <;> simp only [e] <;> clear e <;> refine g ?_) | ((first | refine vops_if rfl rfl (fun h => ?_) (fun h => ?_) | refine vdraw_if rfl rfl (fun h => ?_) (fun h => ?_)) <;> simp only [h] <;> refine g ?_) | refine ix_ (by omega) (g ?_))
  refine store_ar (q := 2) (s := 64) (by kernel_rfl) (c64I_len _) rfl (by simp [rep]) ?_
  refine g ?_
  repeat' (first | refine st_ rfl (g ?_) | refine hold_ (g ?_) | exact trivial | refine cond_d (fun h => g ?_) (fun h => g ?_) | refine cond_ (fun h => g ?_) (fun h => g ?_) | (refine hKD _ _ ⟨rfl, g ?_⟩; clear hKD KD) | ((first | refine vops_ifd rfl rfl (fun h e => ?_) (fun h e => ?_) | refine vdraw_ifd rfl rfl (fun h e => ?_) (fun h e => ?_)) <;> simp only [e] <;> clear e <;> refine g ?_) | ((first | refine vops_if rfl rfl (fun h => ?_) (fun h => ?_) | refine vdraw_if rfl rfl (fun h => ?_) (fun h => ?_)) <;> simp only [h] <;> refine g ?_) | refine ix_ (by omega) (g ?_))
  have e0 : ls.take 1 = [ls[0]] := by
    cases ls with
    | nil => simp at hpos
    | cons a l => rfl
  refine AW.loop (fun i : {i : Nat // 0 < i ∧ i ≤ ls.length} => ⟨[(0, .iv (.sl 1 (ls.map fun l => [stI l]))), (3, .bp 400 0), (4, .val (.int .i64 (i.1 : Nat)))], [.arr 400 (c64I (meetC (ls.take i.1)))]⟩) (fun i => ls.length - i.1) ⟨1, Nat.one_pos, hpos⟩ id ⟨⟨rfl, rfl, rfl, trivial⟩, ⟨?_, trivial⟩, by simp [idsOf, BA.id]⟩ fun ⟨i, hi0, hi⟩ => ?_
  · refine congrArg (fun C => some (BA.arr 400 C)) (c64I_congr fun o _ => ?_)
    show countOf ls[0] o = meetC (ls.take 1) o
    rw [e0]; rfl
  refine g ?_
  repeat' (first | refine st_ rfl (g ?_) | refine hold_ (g ?_) | exact trivial | refine cond_d (fun h => g ?_) (fun h => g ?_) | refine cond_ (fun h => g ?_) (fun h => g ?_) | (refine hKD _ _ ⟨rfl, g ?_⟩; clear hKD KD) | ((first | refine vops_ifd rfl rfl (fun h e => ?_) (fun h e => ?_) | refine vdraw_ifd rfl rfl (fun h e => ?_) (fun h e => ?_)) <;> simp only [e] <;> clear e <;> refine g ?_) | ((first | refine vops_if rfl rfl (fun h => ?_) (fun h => ?_) | refine vdraw_if rfl rfl (fun h => ?_) (fun h => ?_)) <;> simp only [h] <;> refine g ?_) | refine ix_ (by omega) (g ?_) | refine call_ (rcounts_call _) rfl (g ?_) | (refine ixm i (by omega) (by omega) (by omega) ?_) <;> refine g ?_)
  · refine store_ar (q := 2) (s := 64) (by kernel_rfl) (c64I_len _) rfl (by simp [rep]) ?_
    refine g ?_
    repeat' (first | refine st_ rfl (g ?_) | refine hold_ (g ?_) | exact trivial | refine cond_d (fun h => g ?_) (fun h => g ?_) | refine cond_ (fun h => g ?_) (fun h => g ?_) | (refine hKD _ _ ⟨rfl, g ?_⟩; clear hKD KD) | ((first | refine vops_ifd rfl rfl (fun h e => ?_) (fun h e => ?_) | refine vdraw_ifd rfl rfl (fun h e => ?_) (fun h e => ?_)) <;> simp only [e] <;> clear e <;> refine g ?_) | ((first | refine vops_if rfl rfl (fun h => ?_) (fun h => ?_) | refine vdraw_if rfl rfl (fun h => ?_) (fun h => ?_)) <;> simp only [h] <;> refine g ?_) | refine ix_ (by omega) (g ?_))
    refine AW.freeze 600 _ rfl trivial ?_
    simp only [go_sem, reduceIte, Nat.reduceEqDiff]
    have hlt : i < ls.length := by omega
    refine AW.loop (fun n : {n : Nat // n ≤ 64} => ⟨[(0, .iv (.sl 1 (ls.map fun l => [stI l]))), (3, .bp 400 0), (4, .val (.int .i64 (i : Nat))), (5, .ip (c64I fun n => countOf ls[i] n)), (6, .val (.int .i64 (n.1 : Nat)))], [.arr 400 (c64I fun o => if o < n.1 then meetC (ls.take (i + 1)) o else meetC (ls.take i) o)]⟩) (fun n => 64 - n.1) ⟨0, Nat.zero_le _⟩ id ⟨⟨rfl, rfl, rfl, rfl, rfl, trivial⟩, ⟨?_, trivial⟩, by simp [idsOf, BA.id]⟩ fun ⟨n, hn⟩ => ?_
    · exact congrArg (fun C => some (BA.arr 400 C)) (c64I_congr fun o _ => by simp)
    refine g ?_
    repeat' (first | refine st_ rfl (g ?_) | refine hold_ (g ?_) | exact trivial | refine cond_d (fun h => g ?_) (fun h => g ?_) | refine cond_ (fun h => g ?_) (fun h => g ?_) | (refine hKD _ _ ⟨rfl, g ?_⟩; clear hKD KD) | ((first | refine vops_ifd rfl rfl (fun h e => ?_) (fun h e => ?_) | refine vdraw_ifd rfl rfl (fun h e => ?_) (fun h e => ?_)) <;> simp only [e] <;> clear e <;> refine g ?_) | ((first | refine vops_if rfl rfl (fun h => ?_) (fun h => ?_) | refine vdraw_if rfl rfl (fun h => ?_) (fun h => ?_)) <;> simp only [h] <;> refine g ?_) | refine ix_ (by omega) (g ?_))
    · have hn' : n < 64 := by omega
      refine AW.drawn (ds := [29, 30, 31, 32, 33, 34, 35, 36, 37]) (fin := [1]) (bs := [1, 1, 1, 1, 1, 1, 1, 1, 1, 1]) [⟨[], [], [], [], 0⟩, ⟨[], [], [], [], 0⟩, ⟨[(30, 1)], [], [0], [], 0⟩, ⟨[(31, 2)], [], [0], [], 0⟩, ⟨[], [], [], [], 0⟩, ⟨[(33, 4)], [], [0], [], 0⟩, ⟨[(34, 5)], [], [0], [], 0⟩, ⟨[(32, 3), (35, 6)], [], [], [], 0⟩, ⟨[(29, 0)], [], [0], [], 0⟩, ⟨[(37, 8), (36, 7)], [], [], [0], 1⟩] (by kernel_rfl) rfl (by kernel_rfl) rfl rfl rfl fun KD hKD => ?_
      refine g ?_
      repeat' (first | refine hold_ (g ?_) | (refine hKD _ _ ⟨rfl, g ?_⟩; clear hKD KD) | exact trivial)
      refine ⟨by omega, by omega, ?_⟩
      rw [Nat.mul_one]
      refine g ?_
      repeat' (first | refine hold_ (g ?_) | (refine hKD _ _ ⟨rfl, g ?_⟩; clear hKD KD) | exact trivial)
      refine ⟨_, (congrArg _ (Nat.zero_add n)).trans (c64I_at hn'), ?_⟩
      rw [if_neg (Nat.lt_irrefl _)]
      refine g ?_
      repeat' (first | refine hold_ (g ?_) | (refine hKD _ _ ⟨rfl, g ?_⟩; clear hKD KD) | exact trivial)
      refine ⟨by omega, by omega, ?_⟩
      rw [Nat.mul_one]
      refine g ?_
      repeat' (first | refine hold_ (g ?_) | (refine hKD _ _ ⟨rfl, g ?_⟩; clear hKD KD) | exact trivial)
      refine rdI_drop (c64I_at hn') ?_
      refine g ?_
      repeat' (first | refine hold_ (g ?_) | (refine hKD _ _ ⟨rfl, g ?_⟩; clear hKD KD) | exact trivial)
      refine ⟨by omega, by omega, ?_⟩
      rw [Nat.mul_one, Nat.zero_add]
      refine g ?_
      repeat' (first | refine hold_ (g ?_) | (refine hKD _ _ ⟨rfl, g ?_⟩; clear hKD KD) | exact trivial)
      refine ⟨_, rfl, ⟨i64_min (meet_i64 (fun l hl => hI l (List.mem_of_mem_take hl)) n) (hI _ (List.getElem_mem hlt) n), trivial⟩, by rw [c64I_len]; omega, ?_⟩
      refine g ?_
      repeat' (first | refine hold_ (g ?_) | (refine hKD _ _ ⟨rfl, g ?_⟩; clear hKD KD) | exact trivial)
      refine g ?_
      repeat' (first | refine st_ rfl (g ?_) | refine hold_ (g ?_) | exact trivial | refine cond_d (fun h => g ?_) (fun h => g ?_) | refine cond_ (fun h => g ?_) (fun h => g ?_) | (refine hKD _ _ ⟨rfl, g ?_⟩; clear hKD KD) | ((first | refine vops_ifd rfl rfl (fun h e => ?_) (fun h e => ?_) | refine vdraw_ifd rfl rfl (fun h e => ?_) (fun h e => ?_)) <;> simp only [e] <;> clear e <;> refine g ?_) | ((first | refine vops_if rfl rfl (fun h => ?_) (fun h => ?_) | refine vdraw_if rfl rfl (fun h => ?_) (fun h => ?_)) <;> simp only [h] <;> refine g ?_) | refine ix_ (by omega) (g ?_))
      refine ⟨⟨n + 1, hn'⟩, id, ⟨⟨rfl, rfl, rfl, rfl, rfl, trivial⟩, ⟨?_, trivial⟩, by simp [idsOf, BA.id]⟩, by show 64 - (n + 1) < 64 - n; omega⟩
      refine congrArg (fun C => some (BA.arr 400 C)) ((congrArg (fun k => List.set _ k _) (Nat.zero_add n)).trans ((c64I_put hn').trans (c64I_congr fun o _ => ?_)))
      by_cases ho : o = n
      · subst ho
        rw [if_pos rfl, if_pos (Nat.lt_succ_self _), meet_step hi0 hlt]
      · rw [if_neg ho]
        by_cases h1 : o < n
        · rw [if_pos h1, if_pos (show o < n + 1 by omega)]
        · rw [if_neg h1, if_neg (show ¬ o < n + 1 by omega)]
    · refine ⟨⟨i + 1, by omega, hlt⟩, id, ⟨⟨rfl, rfl, rfl, trivial⟩, ⟨?_, trivial⟩, by simp [idsOf, BA.id]⟩, by show ls.length - (i + 1) < ls.length - i; omega⟩
      exact congrArg (fun C => some (BA.arr 400 C)) (c64I_congr fun o ho => if_pos (by omega))
  · refine ⟨(c64I_len _).symm, ?_⟩
    obtain rfl : i = ls.length := by omega
    rw [List.take_length]
    refine call_ (rvofD _ fun n _ => meet_i64 hI n) rfl ?_
    refine g ?_
    repeat' (first | refine st_ rfl (g ?_) | refine hold_ (g ?_) | exact trivial | refine cond_d (fun h => g ?_) (fun h => g ?_) | refine cond_ (fun h => g ?_) (fun h => g ?_) | (refine hKD _ _ ⟨rfl, g ?_⟩; clear hKD KD) | ((first | refine vops_ifd rfl rfl (fun h e => ?_) (fun h e => ?_) | refine vdraw_ifd rfl rfl (fun h e => ?_) (fun h e => ?_)) <;> simp only [e] <;> clear e <;> refine g ?_) | ((first | refine vops_if rfl rfl (fun h => ?_) (fun h => ?_) | refine vdraw_if rfl rfl (fun h => ?_) (fun h => ?_)) <;> simp only [h] <;> refine g ?_) | refine ix_ (by omega) (g ?_))
    exact Sub1.rfl_ _
end Go.Proofs.YtaiekfeiaamemaaGreatDoor
/- Up to where all of an interest is known sharply (the reference's). -/
namespace Go.Proofs.YtaiekfeiaamemaaGreatDoor
open Go.ChangeShapes Go.WideShapes Go.ChangeAt Go.RowKit
attribute [local irreducible] AW AWY vops vopsY vop vopL vdraw callW qop binQ lenQ storeQ appendQ callQ ACalls AIter setI c64I
attribute [local go_sem] storeQ_val storeQ_iv storeQ_own
def sinceRows (z : List Zone) (known : List Stamp) (it : List Span) : Nat → List (List Stamp)
  | 0 => []
  | m + 1 => sinceRows z known it m ++ if memB it m = true then [reachS z known m] else []
def sinceS (z : List Zone) (known : List Stamp) (it : List Span) : List Stamp := if zonesFormed z = true ∧ vecFormed known = true then (if (sinceRows z known it 256).length = 0 then known else meetS (sinceRows z known it 256)) else []
theorem sinceRows_len (z : List Zone) (known : List Stamp) (it : List Span) : ∀ m, (sinceRows z known it m).length ≤ m
  | 0 => Nat.le_refl _
  | m + 1 => by
    have := sinceRows_len z known it m
    rw [sinceRows, List.length_append]
    split <;> simp <;> omega
set_option maxRecDepth 100000 in
theorem rzsince_call (z : List Zone) (known : List Stamp) (it : List Span) : ACalls Tryz.prog TzTab 138 [.iv (znI z), .iv (stI known), .iv (spI it)] (.iv (stI (sinceS z known it))) [] := by
  refine ACalls.ofS (n := 41) (rs := [.tmp 6]) Tryz.func138 rfl (by kernel_rfl) Tryz.ntmps138 (by kernel_rfl) (by simp) (fun _ _ => TzTab.later) ?_
  intro hok V w0
  refine g ?_
  repeat' (first | refine st_ rfl (g ?_) | refine hold_ (g ?_) | exact trivial | refine cond_d (fun h => g ?_) (fun h => g ?_) | refine cond_ (fun h => g ?_) (fun h => g ?_) | (refine hKD _ _ ⟨rfl, g ?_⟩; clear hKD KD) | ((first | refine vops_ifd rfl rfl (fun h e => ?_) (fun h e => ?_) | refine vdraw_ifd rfl rfl (fun h e => ?_) (fun h e => ?_)) <;> simp only [e] <;> clear e <;> refine g ?_) | ((first | refine vops_if rfl rfl (fun h => ?_) (fun h => ?_) | refine vdraw_if rfl rfl (fun h => ?_) (fun h => ?_)) <;> simp only [h] <;> refine g ?_) | refine ix_ (by omega) (g ?_) | refine call_ (rzformed_call _) rfl (g ?_) | refine call_ (rvformed_call _) rfl (g ?_))
  · rw [sinceS, if_neg (by rintro ⟨a1, a2⟩; simp [a1] at h)]; exact nil_sub 2
  · rw [sinceS, if_neg (by rintro ⟨a1, a2⟩; simp [a2] at h)]; exact nil_sub 2
  rename_i h1
  have h2 := h
  rw [sinceS, if_pos ⟨by simpa using h1, by simpa using h2⟩]
  refine call_ (rset_call it) rfl ?_
  refine g ?_
  repeat' (first | refine st_ rfl (g ?_) | refine hold_ (g ?_) | exact trivial | refine cond_d (fun h => g ?_) (fun h => g ?_) | refine cond_ (fun h => g ?_) (fun h => g ?_) | (refine hKD _ _ ⟨rfl, g ?_⟩; clear hKD KD) | ((first | refine vops_ifd rfl rfl (fun h e => ?_) (fun h e => ?_) | refine vdraw_ifd rfl rfl (fun h e => ?_) (fun h e => ?_)) <;> simp only [e] <;> clear e <;> refine g ?_) | ((first | refine vops_if rfl rfl (fun h => ?_) (fun h => ?_) | refine vdraw_if rfl rfl (fun h => ?_) (fun h => ?_)) <;> simp only [h] <;> refine g ?_) | refine ix_ (by omega) (g ?_))
  refine store_ar (q := 2) (s := 256) (by kernel_rfl) (setI_len _) rfl (by simp [rep]) ?_
  refine g ?_
  repeat' (first | refine st_ rfl (g ?_) | refine hold_ (g ?_) | exact trivial | refine cond_d (fun h => g ?_) (fun h => g ?_) | refine cond_ (fun h => g ?_) (fun h => g ?_) | (refine hKD _ _ ⟨rfl, g ?_⟩; clear hKD KD) | ((first | refine vops_ifd rfl rfl (fun h e => ?_) (fun h e => ?_) | refine vdraw_ifd rfl rfl (fun h e => ?_) (fun h e => ?_)) <;> simp only [e] <;> clear e <;> refine g ?_) | ((first | refine vops_if rfl rfl (fun h => ?_) (fun h => ?_) | refine vdraw_if rfl rfl (fun h => ?_) (fun h => ?_)) <;> simp only [h] <;> refine g ?_) | refine ix_ (by omega) (g ?_))
  refine AW.freeze 800 _ rfl trivial ?_
  simp only [go_sem, reduceIte, Nat.reduceEqDiff]
  refine AW.adopt 8 9900 24 1 rfl rfl ?_
  refine AW.loop (fun m : {m : Nat // m ≤ 256} => ⟨[(0, .iv (znI z)), (1, .iv (stI known)), (7, .ip (setI fun o => memB it o)), (8, .own 9900), (9, .val (.int .i64 (m.1 : Nat)))], [.row 9900 24 1 ((sinceRows z known it m.1).map fun l => [stI l])]⟩) (fun m => 256 - m.1) ⟨0, Nat.zero_le _⟩ id ⟨⟨rfl, rfl, rfl, rfl, rfl, trivial⟩, ⟨rfl, trivial⟩, by simp [idsOf, BA.id]⟩ fun ⟨m, hm⟩ => ?_
  repeat (refine AW.seq ?_)
  refine AW.reg rfl fun KK hKK => ?_
  refine g ?_
  repeat' (first | refine hold_ (g ?_) | (refine hKK _ (g ?_); clear hKK KK) | exact trivial)
  repeat (refine AW.seq ?_)
  refine st_ rfl ?_
  refine g ?_
  refine cond_ (fun h => ?_) (fun h => ?_)
  · have hm' : m < 256 := by have := of_decide_eq_true h; omega
    refine g ?_
    repeat' (first | refine st_ rfl (g ?_) | refine hold_ (g ?_) | exact trivial | refine cond_ (fun h => g ?_) (fun h => g ?_) | (refine hKD _ _ ⟨rfl, g ?_⟩; clear hKD KD))
    refine ⟨by omega, by omega, ?_⟩
    rw [Nat.mul_one]
    refine g ?_
    repeat' (first | refine st_ rfl (g ?_) | refine hold_ (g ?_) | exact trivial | refine cond_ (fun h => g ?_) (fun h => g ?_) | (refine hKD _ _ ⟨rfl, g ?_⟩; clear hKD KD))
    refine rdI_drop (setI_at hm') ?_
    cases hb : memB it m
    · refine g ?_
      repeat' (first | refine st_ rfl (g ?_) | refine hold_ (g ?_) | exact trivial | refine cond_ (fun h => g ?_) (fun h => g ?_) | (refine hKD _ _ ⟨rfl, g ?_⟩; clear hKD KD))
      refine ⟨⟨m + 1, hm'⟩, id, ⟨⟨rfl, rfl, rfl, rfl, rfl, trivial⟩, ⟨?_, trivial⟩, by simp [idsOf, BA.id]⟩, by show 256 - (m + 1) < 256 - m; omega⟩
      rw [sinceRows, hb, if_neg (by decide), List.append_nil]
      rfl
    · refine g ?_
      repeat' (first | refine st_ rfl (g ?_) | refine hold_ (g ?_) | exact trivial | refine cond_ (fun h => g ?_) (fun h => g ?_) | (refine hKD _ _ ⟨rfl, g ?_⟩; clear hKD KD))
      refine call_ (rzreach_call _ _ _) rfl ?_
      refine g ?_
      repeat' (first | refine st_ rfl (g ?_) | refine hold_ (g ?_) | exact trivial | refine cond_ (fun h => g ?_) (fun h => g ?_) | (refine hKD _ _ ⟨rfl, g ?_⟩; clear hKD KD))
      refine bs1 (by omega) rfl rfl rfl ⟨trivial, trivial⟩ ?_
      refine g ?_
      repeat' (first | refine st_ rfl (g ?_) | refine hold_ (g ?_) | exact trivial | refine cond_ (fun h => g ?_) (fun h => g ?_) | (refine hKD _ _ ⟨rfl, g ?_⟩; clear hKD KD))
      have hl2 := sinceRows_len z known it m
      refine append_own rfl (by kernel_rfl) (by omega) (by kernel_rfl) rfl (by simp; omega) ?_
      refine g ?_
      repeat' (first | refine st_ rfl (g ?_) | refine hold_ (g ?_) | exact trivial | refine cond_ (fun h => g ?_) (fun h => g ?_) | (refine hKD _ _ ⟨rfl, g ?_⟩; clear hKD KD))
      refine ⟨⟨m + 1, hm'⟩, fun b => if b = 9900 then 3400 else b, ⟨⟨rfl, rfl, rfl, rfl, rfl, trivial⟩, ⟨?_, trivial⟩, by simp [idsOf, BA.id]⟩, by show 256 - (m + 1) < 256 - m; omega⟩
      rw [sinceRows, hb, if_pos rfl, List.map_append]
      rfl
  · obtain rfl : m = 256 := by have := of_decide_eq_false h; omega
    refine AW.freeze 9900 _ rfl trivial ?_
    simp only [go_sem, reduceIte, Nat.reduceEqDiff]
    obtain ⟨R, hR⟩ : ∃ R, sinceRows z known it 256 = R := ⟨_, rfl⟩
    rw [hR]
    refine g ?_
    repeat' (first | refine st_ rfl (g ?_) | refine hold_ (g ?_) | exact trivial | refine cond_d (fun h => g ?_) (fun h => g ?_) | refine cond_ (fun h => g ?_) (fun h => g ?_) | (refine hKD _ _ ⟨rfl, g ?_⟩; clear hKD KD) | ((first | refine vops_ifd rfl rfl (fun h e => ?_) (fun h e => ?_) | refine vdraw_ifd rfl rfl (fun h e => ?_) (fun h e => ?_)) <;> simp only [e] <;> clear e <;> refine g ?_) | ((first | refine vops_if rfl rfl (fun h => ?_) (fun h => ?_) | refine vdraw_if rfl rfl (fun h => ?_) (fun h => ?_)) <;> simp only [h] <;> refine g ?_) | refine ix_ (by omega) (g ?_) | refine call_ (rvcopyD _) rfl (g ?_) | refine call_ (rmeet_call _) rfl (g ?_))
    · rw [if_pos (by omega)]; exact Sub1.rfl_ _
    · rw [if_neg (by omega)]; exact Sub1.rfl_ _
end Go.Proofs.YtaiekfeiaamemaaGreatDoor
/- Whether a view is formed (the reference's). -/
namespace Go.Proofs.YtaiekfeiaamemaaGreatDoor
open Go.ChangeShapes Go.WideShapes Go.ChangeAt Go.RowKit
attribute [local irreducible] AW AWY vops vopsY vop vopL vdraw callW qop binQ lenQ storeQ appendQ callQ ACalls AIter setI
attribute [local go_sem] enB_eq boI_eq boA_eq byI_eq enW_eq wrI_eq wA_eq enZ_eq znI_eq vwA_eq storeQ_bp storeQ_rp

theorem all_no {α : Type} {l : List α} {p : α → Bool} {m : Nat} (h : m < l.length) (hp : p l[m] = false) : l.all p = false := by
  rw [List.all_eq_false]
  exact ⟨l[m], List.getElem_mem h, by rw [hp]; simp⟩
theorem all_step {α : Type} {l : List α} {p : α → Bool} {m : Nat} (h : m < l.length) (ht : ∀ x ∈ l.take m, p x = true) (hp : p l[m] = true) : ∀ x ∈ l.take (m + 1), p x = true := fun x hx => by
  rw [List.take_succ_eq_append_getElem h] at hx
  rcases List.mem_append.1 hx with h1 | h1
  · exact ht x h1
  · rw [List.mem_singleton.1 h1]; exact hp
set_option maxRecDepth 100000 in
set_option maxHeartbeats 1600000 in
theorem rview_call (v : View) (iR : I64 v.room) : ACalls Tryz.prog TzTab 50 [vwA v] (.val (.bool (viewFormed v))) [] := by
  refine ACalls.of (n := 77) (rs := [.tmp 2]) Tryz.func50 rfl (by kernel_rfl) Tryz.ntmps50 (by kernel_rfl) (by simp) (fun _ _ => TzTab.later) ?_
  intro hok V w0
  have hz : v.zones.length ≤ 1073741824 := by simpa [znI] using hok.1.2.1.1
  have hh : v.held.length ≤ 1073741824 := by simpa [wrI] using hok.1.2.2.1.1
  have hb : v.bodies.length ≤ 1073741824 := by simpa [boI] using hok.1.2.2.2.1.1
  obtain ⟨B, hB⟩ : ∃ B, viewFormed v = B := ⟨_, rfl⟩
  rw [hB]
  refine g ?_
  refine AW.seq ?_
  refine AW.reg rfl fun KK hKK => ?_
  refine g ?_
  repeat' (first | refine hold_ (g ?_) | (refine hKK _ (g ?_); clear hKK KK) | exact trivial)
  refine AW.freeze 200 _ rfl ⟨trivial, trivial, trivial, trivial, iR, trivial⟩ ?_
  simp only [go_sem, reduceIte, Nat.reduceEqDiff]
  refine g ?_
  repeat' (first | refine st_ rfl (g ?_) | refine hold_ (g ?_) | exact trivial | refine cond_d (fun h => g ?_) (fun h => g ?_) | refine cond_ (fun h => g ?_) (fun h => g ?_) | (refine hKD _ _ ⟨rfl, g ?_⟩; clear hKD KD) | ((first | refine vops_ifd rfl rfl (fun h e => ?_) (fun h e => ?_) | refine vdraw_ifd rfl rfl (fun h e => ?_) (fun h e => ?_)) <;> simp only [e] <;> clear e <;> refine g ?_) | ((first | refine vops_if rfl rfl (fun h => ?_) (fun h => ?_) | refine vdraw_if rfl rfl (fun h => ?_) (fun h => ?_)) <;> simp only [h] <;> refine g ?_) | refine ix_ (by omega) (g ?_) | refine call_ (rvformed_call _) rfl (g ?_) | refine call_ (rzformed_call _) rfl (g ?_) | refine call_ (rshformed_call _) rfl (g ?_) | refine call_ (rcformed_call _ _ iR) rfl (g ?_))
  · rw [← hB]; simp at h; simp [viewFormed, partsB, h]
  · rw [← hB]; simp at h; simp [viewFormed, partsB, h]
  · rw [← hB]; simp at h; simp [viewFormed, partsB, h]
  · rw [← hB]; simp at h; simp [viewFormed, partsB, h]
  have hP : partsB v = true := by simp at *; simp [partsB, *]
  refine AW.loop (fun m : {m : Nat // m ≤ v.zones.length ∧ ∀ x ∈ v.zones.take m, decide (cmpV x.vec v.known = 1) = true} => ⟨[(1, .ip [stI v.known, znI v.zones, wrI v.held, boI v.bodies, .val (.int .i64 v.room)]), (3, .val (.int .i64 (m.1 : Nat)))], []⟩) (fun m => v.zones.length - m.1) ⟨0, Nat.zero_le _, fun x hx => by simp at hx⟩ id ⟨⟨rfl, rfl, trivial⟩, trivial, List.nodup_nil⟩ fun ⟨m, hm, ht⟩ => ?_
  refine g ?_
  repeat' (first | refine st_ rfl (g ?_) | refine hold_ (g ?_) | exact trivial | refine cond_d (fun h => g ?_) (fun h => g ?_) | refine cond_ (fun h => g ?_) (fun h => g ?_) | (refine hKD _ _ ⟨rfl, g ?_⟩; clear hKD KD) | ((first | refine vops_ifd rfl rfl (fun h e => ?_) (fun h e => ?_) | refine vdraw_ifd rfl rfl (fun h e => ?_) (fun h e => ?_)) <;> simp only [e] <;> clear e <;> refine g ?_) | ((first | refine vops_if rfl rfl (fun h => ?_) (fun h => ?_) | refine vdraw_if rfl rfl (fun h => ?_) (fun h => ?_)) <;> simp only [h] <;> refine g ?_) | refine ix_ (by omega) (g ?_))
  · have hlt : m < v.zones.length := by omega
    refine AW.drawn (ds := [37, 38, 39, 40, 41, 42, 43, 44, 45, 46]) (fin := []) (bs := [0, 0, 0, 0, 0, 0, 0, 0, 0, 0]) [⟨[], [], [], [], 0⟩, ⟨[(37, 0)], [], [], [], 0⟩, ⟨[], [], [], [], 0⟩, ⟨[(38, 1), (39, 2)], [], [], [], 0⟩, ⟨[(40, 3)], [], [], [], 0⟩, ⟨[(41, 4)], [], [], [], 0⟩, ⟨[], [], [], [], 0⟩, ⟨[(43, 6)], [], [], [], 0⟩, ⟨[(42, 5), (44, 7)], [], [], [], 0⟩, ⟨[(45, 8)], [], [], [], 0⟩] (by kernel_rfl) rfl (by kernel_rfl) rfl rfl rfl fun KD hKD => ?_
    refine g ?_
    repeat' (first | refine st_ rfl (g ?_) | refine hold_ (g ?_) | exact trivial | refine cond_d (fun h => g ?_) (fun h => g ?_) | refine cond_ (fun h => g ?_) (fun h => g ?_) | (refine hKD _ _ ⟨rfl, g ?_⟩; clear hKD KD) | ((first | refine vops_ifd rfl rfl (fun h e => ?_) (fun h e => ?_) | refine vdraw_ifd rfl rfl (fun h e => ?_) (fun h e => ?_)) <;> simp only [e] <;> clear e <;> refine g ?_) | ((first | refine vops_if rfl rfl (fun h => ?_) (fun h => ?_) | refine vdraw_if rfl rfl (fun h => ?_) (fun h => ?_)) <;> simp only [h] <;> refine g ?_) | refine ix_ (by omega) (g ?_) | refine call_ (rvcompare_call _ _) rfl (g ?_))
    · rw [← hB]; simp only [viewFormed]; rw [all_no (p := fun x => decide (cmpV x.vec v.known = 1)) hlt (by simpa using h)]; simp
    · exact ⟨⟨m + 1, hlt, all_step hlt ht (by simpa using h)⟩, id, ⟨⟨rfl, rfl, trivial⟩, trivial, List.nodup_nil⟩, by show v.zones.length - (m + 1) < v.zones.length - m; omega⟩
  obtain rfl : m = v.zones.length := by omega
  rw [List.take_length] at ht
  have h1 : (v.zones.all fun x => decide (cmpV x.vec v.known = 1)) = true := List.all_eq_true.2 ht
  refine AW.loop (fun m : {m : Nat // m ≤ v.held.length ∧ ∀ x ∈ v.held.take m, reachedB v.zones v.known x = true} => ⟨[(1, .ip [stI v.known, znI v.zones, wrI v.held, boI v.bodies, .val (.int .i64 v.room)]), (4, .val (.int .i64 (m.1 : Nat)))], []⟩) (fun m => v.held.length - m.1) ⟨0, Nat.zero_le _, fun x hx => by simp at hx⟩ id ⟨⟨rfl, rfl, trivial⟩, trivial, List.nodup_nil⟩ fun ⟨m, hm, ht⟩ => ?_
  refine g ?_
  repeat' (first | refine st_ rfl (g ?_) | refine hold_ (g ?_) | exact trivial | refine cond_d (fun h => g ?_) (fun h => g ?_) | refine cond_ (fun h => g ?_) (fun h => g ?_) | (refine hKD _ _ ⟨rfl, g ?_⟩; clear hKD KD) | ((first | refine vops_ifd rfl rfl (fun h e => ?_) (fun h e => ?_) | refine vdraw_ifd rfl rfl (fun h e => ?_) (fun h e => ?_)) <;> simp only [e] <;> clear e <;> refine g ?_) | ((first | refine vops_if rfl rfl (fun h => ?_) (fun h => ?_) | refine vdraw_if rfl rfl (fun h => ?_) (fun h => ?_)) <;> simp only [h] <;> refine g ?_) | refine ix_ (by omega) (g ?_))
  · have hlt : m < v.held.length := by omega
    refine AW.drawn (ds := [54, 55, 56, 57, 58, 59, 60, 61]) (fin := []) (bs := [0, 0, 0, 0, 0, 0, 0, 0]) [⟨[], [], [], [], 0⟩, ⟨[], [], [], [], 0⟩, ⟨[(55, 1)], [], [], [], 0⟩, ⟨[], [], [], [], 0⟩, ⟨[(56, 2), (57, 3)], [], [], [], 0⟩, ⟨[(58, 4)], [], [], [], 0⟩, ⟨[(54, 0), (59, 5)], [], [], [], 0⟩, ⟨[(60, 6)], [], [], [], 0⟩] (by kernel_rfl) rfl (by kernel_rfl) rfl rfl rfl fun KD hKD => ?_
    refine g ?_
    repeat' (first | refine st_ rfl (g ?_) | refine hold_ (g ?_) | exact trivial | refine cond_d (fun h => g ?_) (fun h => g ?_) | refine cond_ (fun h => g ?_) (fun h => g ?_) | (refine hKD _ _ ⟨rfl, g ?_⟩; clear hKD KD) | ((first | refine vops_ifd rfl rfl (fun h e => ?_) (fun h e => ?_) | refine vdraw_ifd rfl rfl (fun h e => ?_) (fun h e => ?_)) <;> simp only [e] <;> clear e <;> refine g ?_) | ((first | refine vops_if rfl rfl (fun h => ?_) (fun h => ?_) | refine vdraw_if rfl rfl (fun h => ?_) (fun h => ?_)) <;> simp only [h] <;> refine g ?_) | refine ix_ (by omega) (g ?_) | refine call_ (rreached_call v _) rfl (g ?_))
    · rw [← hB]; simp only [viewFormed]; rw [all_no (p := fun x => reachedB v.zones v.known x) hlt (by simpa using h)]; simp
    · exact ⟨⟨m + 1, hlt, all_step hlt ht (by simpa using h)⟩, id, ⟨⟨rfl, rfl, trivial⟩, trivial, List.nodup_nil⟩, by show v.held.length - (m + 1) < v.held.length - m; omega⟩
  obtain rfl : m = v.held.length := by omega
  rw [List.take_length] at ht
  have h2 : (v.held.all fun x => reachedB v.zones v.known x) = true := List.all_eq_true.2 ht
  refine AW.loop (fun m : {m : Nat // m ≤ v.bodies.length ∧ ∀ x ∈ v.bodies.take m, wantedB v.held x = true} => ⟨[(1, .ip [stI v.known, znI v.zones, wrI v.held, boI v.bodies, .val (.int .i64 v.room)]), (5, .val (.int .i64 (m.1 : Nat)))], []⟩) (fun m => v.bodies.length - m.1) ⟨0, Nat.zero_le _, fun x hx => by simp at hx⟩ id ⟨⟨rfl, rfl, trivial⟩, trivial, List.nodup_nil⟩ fun ⟨m, hm, ht⟩ => ?_
  refine g ?_
  repeat' (first | refine st_ rfl (g ?_) | refine hold_ (g ?_) | exact trivial | refine cond_d (fun h => g ?_) (fun h => g ?_) | refine cond_ (fun h => g ?_) (fun h => g ?_) | (refine hKD _ _ ⟨rfl, g ?_⟩; clear hKD KD) | ((first | refine vops_ifd rfl rfl (fun h e => ?_) (fun h e => ?_) | refine vdraw_ifd rfl rfl (fun h e => ?_) (fun h e => ?_)) <;> simp only [e] <;> clear e <;> refine g ?_) | ((first | refine vops_if rfl rfl (fun h => ?_) (fun h => ?_) | refine vdraw_if rfl rfl (fun h => ?_) (fun h => ?_)) <;> simp only [h] <;> refine g ?_) | refine ix_ (by omega) (g ?_))
  · have hlt : m < v.bodies.length := by omega
    refine AW.drawn (ds := [69, 70, 71, 72, 73, 74, 75, 76]) (fin := []) (bs := [0, 0, 0, 0, 0, 0, 0, 0]) [⟨[], [], [], [], 0⟩, ⟨[], [], [], [], 0⟩, ⟨[(70, 1)], [], [], [], 0⟩, ⟨[], [], [], [], 0⟩, ⟨[(71, 2), (72, 3)], [], [], [], 0⟩, ⟨[(73, 4)], [], [], [], 0⟩, ⟨[(69, 0), (74, 5)], [], [], [], 0⟩, ⟨[(75, 6)], [], [], [], 0⟩] (by kernel_rfl) rfl (by kernel_rfl) rfl rfl rfl fun KD hKD => ?_
    refine g ?_
    repeat' (first | refine st_ rfl (g ?_) | refine hold_ (g ?_) | exact trivial | refine cond_d (fun h => g ?_) (fun h => g ?_) | refine cond_ (fun h => g ?_) (fun h => g ?_) | (refine hKD _ _ ⟨rfl, g ?_⟩; clear hKD KD) | ((first | refine vops_ifd rfl rfl (fun h e => ?_) (fun h e => ?_) | refine vdraw_ifd rfl rfl (fun h e => ?_) (fun h e => ?_)) <;> simp only [e] <;> clear e <;> refine g ?_) | ((first | refine vops_if rfl rfl (fun h => ?_) (fun h => ?_) | refine vdraw_if rfl rfl (fun h => ?_) (fun h => ?_)) <;> simp only [h] <;> refine g ?_) | refine ix_ (by omega) (g ?_) | refine call_ (rwanted_call v _) rfl (g ?_))
    · rw [← hB]; simp only [viewFormed]; rw [all_no (p := fun x => wantedB v.held x) hlt (by simpa using h)]; simp
    · exact ⟨⟨m + 1, hlt, all_step hlt ht (by simpa using h)⟩, id, ⟨⟨rfl, rfl, trivial⟩, trivial, List.nodup_nil⟩, by show v.bodies.length - (m + 1) < v.bodies.length - m; omega⟩
  obtain rfl : m = v.bodies.length := by omega
  rw [List.take_length] at ht
  have h3 : (v.bodies.all fun x => wantedB v.held x) = true := List.all_eq_true.2 ht
  rw [← hB]
  simp only [viewFormed]
  rw [hP, h1, h2, h3]
  rfl
end Go.Proofs.YtaiekfeiaamemaaGreatDoor
/- Whether a dull note goes on with another one (the reference's). -/
namespace Go.Proofs.YtaiekfeiaamemaaGreatDoor
open Go.ChangeShapes Go.WideShapes Go.ChangeAt Go.RowKit
attribute [local irreducible] AW AWY vops vopsY vop vopL vdraw callW qop binQ lenQ storeQ appendQ callQ ACalls AIter
attribute [local go_sem] wrI_eq noteA_eq storeQ_bp storeQ_rp

theorem rsmeetD (l m : List Span) : ACalls Tryz.prog TzTab 164 [.iv (spI l), .iv (spI m)] (.iv (spI (meetS2 l m))) [] := (rsmeet_call l m).frz trivial
end Go.Proofs.YtaiekfeiaamemaaGreatDoor
/- Whether two rows of spans share an object; up to where a view knows an interest sharply (the reference's). -/
namespace Go.Proofs.YtaiekfeiaamemaaGreatDoor
open Go.ChangeShapes Go.WideShapes Go.ChangeAt Go.RowKit
attribute [local irreducible] AW AWY vops vopsY vop vopL vdraw callW qop binQ lenQ storeQ appendQ callQ ACalls AIter setI c64I
attribute [local go_sem] vwA_eq storeQ_bp storeQ_rp
def touchS (a b : List Span) : Bool := decide (0 < (meetS2 a b).length)
def sinceV (v : View) (it : List Span) : List Stamp := if viewFormed v = true then sinceS v.zones v.known it else []
set_option maxRecDepth 100000 in
theorem rtouch_call (a b : List Span) : ACalls Tryz.prog TzTab 78 [.iv (spI a), .iv (spI b)] (.val (.bool (touchS a b))) [] := by
  refine ACalls.of (n := 10) (rs := [.tmp 4]) Tryz.func78 rfl (by kernel_rfl) Tryz.ntmps78 (by kernel_rfl) (by simp) (fun _ _ => TzTab.later) ?_
  intro hok V w0
  obtain ⟨B, hB⟩ : ∃ B, touchS a b = B := ⟨_, rfl⟩
  rw [hB]
  unfold touchS at hB
  refine g ?_
  repeat' (first | refine st_ rfl (g ?_) | refine hold_ (g ?_) | exact trivial | refine cond_d (fun h => g ?_) (fun h => g ?_) | refine cond_ (fun h => g ?_) (fun h => g ?_) | (refine hKD _ _ ⟨rfl, g ?_⟩; clear hKD KD) | ((first | refine vops_ifd rfl rfl (fun h e => ?_) (fun h e => ?_) | refine vdraw_ifd rfl rfl (fun h e => ?_) (fun h e => ?_)) <;> simp only [e] <;> clear e <;> refine g ?_) | ((first | refine vops_if rfl rfl (fun h => ?_) (fun h => ?_) | refine vdraw_if rfl rfl (fun h => ?_) (fun h => ?_)) <;> simp only [h] <;> refine g ?_) | refine ix_ (by omega) (g ?_) | refine call_ (rsmeetD _ _) rfl (g ?_))
  unfold spI
  refine g ?_
  repeat' (first | refine st_ rfl (g ?_) | refine hold_ (g ?_) | exact trivial | refine cond_d (fun h => g ?_) (fun h => g ?_) | refine cond_ (fun h => g ?_) (fun h => g ?_) | (refine hKD _ _ ⟨rfl, g ?_⟩; clear hKD KD) | ((first | refine vops_ifd rfl rfl (fun h e => ?_) (fun h e => ?_) | refine vdraw_ifd rfl rfl (fun h e => ?_) (fun h e => ?_)) <;> simp only [e] <;> clear e <;> refine g ?_) | ((first | refine vops_if rfl rfl (fun h => ?_) (fun h => ?_) | refine vdraw_if rfl rfl (fun h => ?_) (fun h => ?_)) <;> simp only [h] <;> refine g ?_) | refine ix_ (by omega) (g ?_))
  rw [← hB, decide_eq_decide]
  omega
set_option maxRecDepth 100000 in
theorem rvsince_call (v : View) (it : List Span) (iR : I64 v.room) : ACalls Tryz.prog TzTab 53 [vwA v, .iv (spI it)] (.iv (stI (sinceV v it))) [] := by
  refine ACalls.ofS (n := 14) (rs := [.tmp 4]) Tryz.func53 rfl (by kernel_rfl) Tryz.ntmps53 (by kernel_rfl) (by simp) (fun _ _ => TzTab.later) ?_
  intro hok V w0
  refine g ?_
  repeat' (first | refine st_ rfl (g ?_) | refine hold_ (g ?_) | exact trivial | refine cond_d (fun h => g ?_) (fun h => g ?_) | refine cond_ (fun h => g ?_) (fun h => g ?_) | (refine hKD _ _ ⟨rfl, g ?_⟩; clear hKD KD) | ((first | refine vops_ifd rfl rfl (fun h e => ?_) (fun h e => ?_) | refine vdraw_ifd rfl rfl (fun h e => ?_) (fun h e => ?_)) <;> simp only [e] <;> clear e <;> refine g ?_) | ((first | refine vops_if rfl rfl (fun h => ?_) (fun h => ?_) | refine vdraw_if rfl rfl (fun h => ?_) (fun h => ?_)) <;> simp only [h] <;> refine g ?_) | refine ix_ (by omega) (g ?_) | refine call_ (rview_call v iR) rfl (g ?_) | refine call_ (rzsince_call _ _ _) rfl (g ?_))
  · rw [sinceV, if_neg (by simpa using h)]; exact nil_sub 2
  · rw [sinceV, if_pos (by simpa using h)]; exact Sub1.rfl_ _
end Go.Proofs.YtaiekfeiaamemaaGreatDoor
/- Whether two rows of spans share an object (the program's). -/
namespace Go.Proofs.YtaiekfeiaamemaaGreatDoor
open Go.ChangeShapes Go.WideShapes Go.ChangeAt Go.RowKit
attribute [local irreducible] AW AWY vops vopsY vop vopL vdraw callW qop binQ lenQ storeQ appendQ callQ ACalls AIter setI c64I
attribute [local go_sem] enSp storeQ_bp storeQ_rp
theorem stidy_call (l : List Span) : ACalls Tryz.prog TzTab 163 [.iv (spI l)] (.own 0) [.row 0 46 2 ((tidyS l).map enSp)] :=
  bridge_own (fun _ _ _ h => sp_rep h) Tryz.func163 rfl (by kernel_rfl) fun V w E vs hV hG hr => by
    obtain ⟨v0, rfl, h0⟩ := args1 hr
    exact spanTidy l _ w (iv_spans hV h0)
theorem stidyD (l : List Span) : ACalls Tryz.prog TzTab 163 [.iv (spI l)] (.iv (spI (tidyS l))) [] := (stidy_call l).frz trivial
theorem formed_all : ∀ {l : List Span} {e : Int}, formedFrom e l = true → ∀ s ∈ l, e < s.lo ∧ s.lo ≤ s.hi ∧ s.hi ≤ 255 ∧ 0 ≤ s.lo
  | [], _, _, s, hs => by simp at hs
  | x :: l, e, h, s, hs => by
    obtain ⟨h1, h2⟩ := formedFrom_cons.1 h
    rcases List.mem_cons.1 hs with rfl | hs
    · omega
    · have := formed_all h2 s hs
      omega
theorem formed_pair : ∀ {l : List Span} {e : Int}, formedFrom e l = true → l.Pairwise fun s t => s.hi < t.lo
  | [], _, _ => .nil
  | x :: l, e, h => by
    obtain ⟨h1, h2⟩ := formedFrom_cons.1 h
    exact .cons (fun t ht => (formed_all h2 t ht).1) (formed_pair h2)
theorem tidy_all (l : List Span) : ∀ s ∈ tidyS l, s.lo ≤ s.hi ∧ s.hi ≤ 255 ∧ 0 ≤ s.lo := fun s hs => (formed_all (ofSet_formed _) s hs).2
def ovS (s t : Span) : Prop := s.lo ≤ t.hi ∧ t.lo ≤ s.hi
theorem memB_tidy (l : List Span) {o : Nat} (ho : o < 256) : memB (tidyS l) o = memB l o := memB_ofSet (fun o => memB l o) ho
theorem touch_yes {a b : List Span} {s t : Span} (hs : s ∈ tidyS a) (ht : t ∈ tidyS b) (h : ovS s t) : touchS a b = true := by
  have h1 := tidy_all a s hs
  have h2 := tidy_all b t ht
  obtain ⟨o, ho⟩ : ∃ o : Nat, (o : Int) = max s.lo t.lo := ⟨(max s.lo t.lo).toNat, by omega⟩
  obtain ⟨k1, k2⟩ := h
  have ho' : o < 256 := by omega
  have m1 : memB a o = true := by
    rw [← memB_tidy a ho', memB, List.any_eq_true]
    exact ⟨s, hs, by simp; omega⟩
  have m2 : memB b o = true := by
    rw [← memB_tidy b ho', memB, List.any_eq_true]
    exact ⟨t, ht, by simp; omega⟩
  have m3 : memB (meetS2 a b) o = true := by
    unfold meetS2
    rw [memB_ofSet _ ho', m1, m2]; rfl
  rw [touchS, decide_eq_true_eq]
  cases hc : meetS2 a b with
  | nil => rw [hc] at m3; simp [memB] at m3
  | cons x l => simp
theorem touch_no {a b : List Span} (h : ∀ s ∈ tidyS a, ∀ t ∈ tidyS b, ¬ ovS s t) : touchS a b = false := by
  rw [touchS, decide_eq_false_iff_not]
  intro hp
  obtain ⟨x, hx⟩ : ∃ x, x ∈ meetS2 a b := by
    cases hc : meetS2 a b with
    | nil => rw [hc] at hp; simp at hp
    | cons x l => exact ⟨x, by simp⟩
  have hf := (formed_all (ofSet_formed _) x hx).2
  obtain ⟨o, ho⟩ : ∃ o : Nat, (o : Int) = x.lo := ⟨x.lo.toNat, by omega⟩
  have ho' : o < 256 := by omega
  have m3 : memB (meetS2 a b) o = true := by
    rw [memB, List.any_eq_true]
    exact ⟨x, hx, by simp; omega⟩
  unfold meetS2 at m3
  rw [memB_ofSet _ ho', Bool.and_eq_true, ← memB_tidy a ho', ← memB_tidy b ho', memB, memB, List.any_eq_true, List.any_eq_true] at m3
  obtain ⟨⟨s, hs, h1⟩, ⟨t, ht, h2⟩⟩ := m3
  simp at h1 h2
  exact h s hs t ht ⟨by omega, by omega⟩
theorem ov_step {l m : List Span} {i : Nat} (h : i < l.length) (hI : ∀ s ∈ l.take i, ∀ t ∈ m, ¬ ovS s t) (hx : ∀ t ∈ m, ¬ ovS l[i] t) : ∀ s ∈ l.take (i + 1), ∀ t ∈ m, ¬ ovS s t := fun s hs => by
  rw [List.take_succ_eq_append_getElem h] at hs
  rcases List.mem_append.1 hs with h1 | h1
  · exact hI s h1
  · rw [List.mem_singleton.1 h1]; exact hx
theorem ov_beyond {x : Span} {l : List Span} {j : Nat} (h : j < l.length) (hp : l.Pairwise fun s t => s.hi < t.lo) (hf : ∀ s ∈ l, s.lo ≤ s.hi) (hJ : ∀ t ∈ l.take j, t.hi < x.lo) (hx : x.hi < l[j].lo) : ∀ t ∈ l, ¬ ovS x t := fun t ht hov => by
  have e : l = l.take j ++ l[j] :: l.drop (j + 1) := by rw [← List.drop_eq_getElem_cons h, List.take_append_drop]
  rw [e] at ht
  rcases List.mem_append.1 ht with h1 | h1
  · have := hJ t h1
    have := hov.1
    omega
  · rcases List.mem_cons.1 h1 with rfl | h1
    · have := hov.2
      omega
    · rw [e] at hp
      have hp2 := (List.pairwise_cons.1 (List.pairwise_append.1 hp).2.1).1 t h1
      have := hf l[j] (List.getElem_mem h)
      have := hov.2
      omega
set_option maxRecDepth 100000 in
theorem stouch_call (a b : List Span) : ACalls Tryz.prog TzTab 74 [.iv (spI a), .iv (spI b)] (.val (.bool (touchS a b))) [] := by
  refine ACalls.of (n := 37) (rs := [.tmp 4]) Tryz.func74 rfl (by kernel_rfl) Tryz.ntmps74 (by kernel_rfl) (by simp) (fun _ _ => TzTab.later) ?_
  intro hok V w0
  have hla : (tidyS a).length ≤ 1073741824 := Nat.le_trans (ofSet_len _) (by decide)
  have hlb : (tidyS b).length ≤ 1073741824 := Nat.le_trans (ofSet_len _) (by decide)
  obtain ⟨B, hB⟩ : ∃ B, touchS a b = B := ⟨_, rfl⟩
  rw [hB]
  refine g ?_
  repeat' (first | refine st_ rfl (g ?_) | refine hold_ (g ?_) | exact trivial | refine cond_d (fun h => g ?_) (fun h => g ?_) | refine cond_ (fun h => g ?_) (fun h => g ?_) | (refine hKD _ _ ⟨rfl, g ?_⟩; clear hKD KD) | ((first | refine vops_ifd rfl rfl (fun h e => ?_) (fun h e => ?_) | refine vdraw_ifd rfl rfl (fun h e => ?_) (fun h e => ?_)) <;> simp only [e] <;> clear e <;> refine g ?_) | ((first | refine vops_if rfl rfl (fun h => ?_) (fun h => ?_) | refine vdraw_if rfl rfl (fun h => ?_) (fun h => ?_)) <;> simp only [h] <;> refine g ?_) | refine ix_ (by omega) (g ?_) | refine call_ (stidyD _) rfl (g ?_))
  unfold spI
  refine g ?_
  repeat' (first | refine st_ rfl (g ?_) | refine hold_ (g ?_) | exact trivial | refine cond_d (fun h => g ?_) (fun h => g ?_) | refine cond_ (fun h => g ?_) (fun h => g ?_) | (refine hKD _ _ ⟨rfl, g ?_⟩; clear hKD KD) | ((first | refine vops_ifd rfl rfl (fun h e => ?_) (fun h e => ?_) | refine vdraw_ifd rfl rfl (fun h e => ?_) (fun h e => ?_)) <;> simp only [e] <;> clear e <;> refine g ?_) | ((first | refine vops_if rfl rfl (fun h => ?_) (fun h => ?_) | refine vdraw_if rfl rfl (fun h => ?_) (fun h => ?_)) <;> simp only [h] <;> refine g ?_) | refine ix_ (by omega) (g ?_) | refine call_ (stidyD _) rfl (g ?_))
  refine AW.loop (fun i : {i : Nat // i ≤ (tidyS a).length ∧ ∀ s ∈ (tidyS a).take i, ∀ t ∈ tidyS b, ¬ ovS s t} => ⟨[(1, .iv (spI b)), (10, .iv (.sl 2 ((tidyS a).map enSp))), (11, .val (.int .i64 ((tidyS a).length : Nat))), (12, .val (.int .i64 (i.1 : Nat)))], []⟩) (fun i => (tidyS a).length - i.1) ⟨0, Nat.zero_le _, fun s hs => by simp at hs⟩ id ⟨⟨rfl, rfl, rfl, rfl, trivial⟩, trivial, List.nodup_nil⟩ fun ⟨i, hi, hI⟩ => ?_
  refine g ?_
  repeat' (first | refine st_ rfl (g ?_) | refine hold_ (g ?_) | exact trivial | refine cond_d (fun h => g ?_) (fun h => g ?_) | refine cond_ (fun h => g ?_) (fun h => g ?_) | (refine hKD _ _ ⟨rfl, g ?_⟩; clear hKD KD) | ((first | refine vops_ifd rfl rfl (fun h e => ?_) (fun h e => ?_) | refine vdraw_ifd rfl rfl (fun h e => ?_) (fun h e => ?_)) <;> simp only [e] <;> clear e <;> refine g ?_) | ((first | refine vops_if rfl rfl (fun h => ?_) (fun h => ?_) | refine vdraw_if rfl rfl (fun h => ?_) (fun h => ?_)) <;> simp only [h] <;> refine g ?_) | refine ix_ (by omega) (g ?_) | refine call_ (stidyD _) rfl (g ?_))
  · have hlt : i < (tidyS a).length := by omega
    unfold spI
    refine g ?_
    repeat' (first | refine st_ rfl (g ?_) | refine hold_ (g ?_) | exact trivial | refine cond_d (fun h => g ?_) (fun h => g ?_) | refine cond_ (fun h => g ?_) (fun h => g ?_) | (refine hKD _ _ ⟨rfl, g ?_⟩; clear hKD KD) | ((first | refine vops_ifd rfl rfl (fun h e => ?_) (fun h e => ?_) | refine vdraw_ifd rfl rfl (fun h e => ?_) (fun h e => ?_)) <;> simp only [e] <;> clear e <;> refine g ?_) | ((first | refine vops_if rfl rfl (fun h => ?_) (fun h => ?_) | refine vdraw_if rfl rfl (fun h => ?_) (fun h => ?_)) <;> simp only [h] <;> refine g ?_) | refine ix_ (by omega) (g ?_))
    refine AW.loop (fun j : {j : Nat // j ≤ (tidyS b).length ∧ ∀ t ∈ (tidyS b).take j, t.hi < (tidyS a)[i].lo} => ⟨[(1, .iv (spI b)), (6, .bp 700 0), (10, .iv (.sl 2 ((tidyS a).map enSp))), (11, .val (.int .i64 ((tidyS a).length : Nat))), (12, .val (.int .i64 (i : Nat))), (17, .iv (.sl 2 ((tidyS b).map enSp))), (18, .val (.int .i64 ((tidyS b).length : Nat))), (19, .val (.int .i64 (j.1 : Nat)))], [.box 700 [.val (.int .i64 (tidyS a)[i].lo), .val (.int .i64 (tidyS a)[i].hi)]]⟩) (fun j => (tidyS b).length - j.1) ⟨0, Nat.zero_le _, fun s hs => by simp at hs⟩ id ⟨⟨rfl, rfl, rfl, rfl, rfl, rfl, rfl, rfl, trivial⟩, ⟨rfl, trivial⟩, by simp [idsOf, BA.id]⟩ fun ⟨j, hj, hJ⟩ => ?_
    refine g ?_
    repeat' (first | refine st_ rfl (g ?_) | refine hold_ (g ?_) | exact trivial | refine cond_d (fun h => g ?_) (fun h => g ?_) | refine cond_ (fun h => g ?_) (fun h => g ?_) | (refine hKD _ _ ⟨rfl, g ?_⟩; clear hKD KD) | ((first | refine vops_ifd rfl rfl (fun h e => ?_) (fun h e => ?_) | refine vdraw_ifd rfl rfl (fun h e => ?_) (fun h e => ?_)) <;> simp only [e] <;> clear e <;> refine g ?_) | ((first | refine vops_if rfl rfl (fun h => ?_) (fun h => ?_) | refine vdraw_if rfl rfl (fun h => ?_) (fun h => ?_)) <;> simp only [h] <;> refine g ?_) | refine ix_ (by omega) (g ?_))
    · refine ⟨⟨j + 1, by omega, fun t ht => ?_⟩, id, ⟨⟨rfl, rfl, rfl, rfl, rfl, rfl, rfl, rfl, trivial⟩, ⟨rfl, trivial⟩, by simp [idsOf, BA.id]⟩, by show (tidyS b).length - (j + 1) < (tidyS b).length - j; omega⟩
      rw [List.take_succ_eq_append_getElem (by omega)] at ht
      rcases List.mem_append.1 ht with h1 | h1
      · exact hJ t h1
      · rw [List.mem_singleton.1 h1]; omega
    · exact ⟨⟨i + 1, hlt, ov_step hlt hI (ov_beyond (by omega) (formed_pair (ofSet_formed _)) (fun s hs => (tidy_all b s hs).1) hJ h)⟩, id, ⟨⟨rfl, rfl, rfl, rfl, trivial⟩, trivial, List.nodup_nil⟩, by show (tidyS a).length - (i + 1) < (tidyS a).length - i; omega⟩
    · rw [← hB]
      have hjt : j < (tidyS b).length := by omega
      exact (touch_yes (List.getElem_mem hlt) (List.getElem_mem hjt) ⟨by omega, by omega⟩).symm
    · obtain rfl : j = (tidyS b).length := by omega
      rw [List.take_length] at hJ
      exact ⟨⟨i + 1, hlt, ov_step hlt hI fun t ht hov => by have := hJ t ht; have := hov.1; omega⟩, id, ⟨⟨rfl, rfl, rfl, rfl, trivial⟩, trivial, List.nodup_nil⟩, by show (tidyS a).length - (i + 1) < (tidyS a).length - i; omega⟩
  · obtain rfl : i = (tidyS a).length := by omega
    rw [List.take_length] at hI
    rw [← hB, touch_no hI]
end Go.Proofs.YtaiekfeiaamemaaGreatDoor
/- The place of an object's write, and the write itself (the program's). -/
namespace Go.Proofs.YtaiekfeiaamemaaGreatDoor
open Go.ChangeShapes Go.WideShapes Go.ChangeAt Go.RowKit
attribute [local irreducible] AW AWY vops vopsY vop vopL vdraw callW qop binQ lenQ storeQ appendQ callQ ACalls AIter setI
attribute [local go_sem] enW_eq wrI_eq wA_eq storeQ_bp storeQ_rp

theorem cmpi_call (a b : Int) : ACalls Tryz.prog TzTab 221 [.val (.int .i64 a), .val (.int .i64 b)] (.val (.int .i64 (cmpI a b))) [] :=
  bridge_val Tryz.func221 rfl (by kernel_rfl) fun V w E vs hV hG hr => by
    obtain ⟨v0, v1, rfl, h0, h1⟩ := args2 hr
    cases h0
    cases h1
    exact (cmpCompare a b w).mono fun e w' h => ⟨h.1, h.2 ▸ Below.refl _ _⟩
theorem place1_call (w : Write) (o : Int) : ACalls Tryz.prog TzTab 238 [wA w, .val (.int .i64 o)] (.val (.int .i64 (cmpI w.object o))) [] := by
  refine ACalls.of (n := 9) (rs := [.tmp 4]) Tryz.func238 rfl (by kernel_rfl) Tryz.ntmps238 (by kernel_rfl) (by simp) (fun _ _ => TzTab.later) ?_
  intro hok V w0
  refine g ?_
  repeat' (first | refine st_ rfl (g ?_) | refine hold_ (g ?_) | exact trivial | refine cond_d (fun h => g ?_) (fun h => g ?_) | refine cond_ (fun h => g ?_) (fun h => g ?_) | (refine hKD _ _ ⟨rfl, g ?_⟩; clear hKD KD) | ((first | refine vops_ifd rfl rfl (fun h e => ?_) (fun h e => ?_) | refine vdraw_ifd rfl rfl (fun h e => ?_) (fun h e => ?_)) <;> simp only [e] <;> clear e <;> refine g ?_) | ((first | refine vops_if rfl rfl (fun h => ?_) (fun h => ?_) | refine vdraw_if rfl rfl (fun h => ?_) (fun h => ?_)) <;> simp only [h] <;> refine g ?_) | refine ix_ (by omega) (g ?_) | refine call_ (cmpi_call _ _) rfl (g ?_))
def placeN (l : List Write) (o : Int) : Nat := l.findIdx fun w => decide (o ≤ w.object)
def Rises (l : List Write) : Prop := ∀ (i j : Nat) (x y : Write), i < j → l[i]? = some x → l[j]? = some y → x.object < y.object
theorem placed {l : List Write} {o : Int} {lo : Nat} (hs : Rises l) (h2 : lo ≤ l.length) (h3 : ∀ (k : Nat) (x : Write), k < lo → l[k]? = some x → x.object < o) (h4 : ∀ (k : Nat) (x : Write), lo ≤ k → l[k]? = some x → o ≤ x.object) :
    placeN l o = lo ∧ ((∃ h : lo < l.length, l[lo].object = o ∧ getW l o = some l[lo]) ∨ ((∀ h : lo < l.length, l[lo].object ≠ o) ∧ getW l o = none)) := by
  have hb : ∀ w ∈ l.take lo, ¬ w.object = o := fun w hw => by
    obtain ⟨j, hj, rfl⟩ := List.mem_take_iff_getElem.1 hw
    have := h3 j l[j] (by omega) (List.getElem?_eq_getElem (by omega))
    omega
  rcases Nat.lt_or_ge lo l.length with hlt | hge
  · have h5 := h4 lo l[lo] (Nat.le_refl _) (List.getElem?_eq_getElem hlt)
    refine ⟨(List.findIdx_eq hlt).2 ⟨by simpa using h5, fun j hj => by
      have := h3 j l[j] hj (List.getElem?_eq_getElem (by omega))
      simp
      omega⟩, ?_⟩
    by_cases he : l[lo].object = o
    · exact .inl ⟨hlt, he, getW_some hb hlt he⟩
    · refine .inr ⟨fun _ => he, getW_none fun w hw e => ?_⟩
      obtain ⟨j, hj, rfl⟩ := List.mem_iff_getElem.1 hw
      rcases Nat.lt_trichotomy j lo with c | c | c
      · have := h3 j _ c (List.getElem?_eq_getElem hj); omega
      · subst c; exact he e
      · have := hs lo j _ _ c (List.getElem?_eq_getElem hlt) (List.getElem?_eq_getElem hj); omega
  · obtain rfl : lo = l.length := by omega
    refine ⟨List.findIdx_eq_length.2 fun x hx => ?_, .inr ⟨fun h => absurd h (Nat.lt_irrefl _), getW_none (by rwa [List.take_length] at hb)⟩⟩
    obtain ⟨j, hj, rfl⟩ := List.mem_iff_getElem.1 hx
    have := h3 j _ hj (List.getElem?_eq_getElem hj)
    simp
    omega
set_option maxRecDepth 100000 in
set_option maxHeartbeats 1600000 in
theorem bsearch_call (l : List Write) (o : Int) (hs : Rises l) : ACalls Tryz.prog TzTab 237 [.iv (wrI l), .val (.int .i64 o), .fn 238 []] (.tup [.val (.int .i64 (placeN l o : Nat)), .val (.bool (getW l o).isSome)]) [] := by
  refine ACalls.of (n := 49) (rs := [.tmp 6, .tmp 7]) Tryz.func237 rfl (by kernel_rfl) Tryz.ntmps237 (by kernel_rfl) (by simp) (fun _ _ => TzTab.later) ?_
  intro hok V w0
  have hlen : l.length ≤ 1073741824 := by simpa [wrI] using hok.1.1
  refine g ?_
  repeat' (first | refine st_ rfl (g ?_) | refine hold_ (g ?_) | exact trivial | refine cond_d (fun h => g ?_) (fun h => g ?_) | refine cond_ (fun h => g ?_) (fun h => g ?_) | (refine hKD _ _ ⟨rfl, g ?_⟩; clear hKD KD) | ((first | refine vops_ifd rfl rfl (fun h e => ?_) (fun h e => ?_) | refine vdraw_ifd rfl rfl (fun h e => ?_) (fun h e => ?_)) <;> simp only [e] <;> clear e <;> refine g ?_) | ((first | refine vops_if rfl rfl (fun h => ?_) (fun h => ?_) | refine vdraw_if rfl rfl (fun h => ?_) (fun h => ?_)) <;> simp only [h] <;> refine g ?_) | refine ix_ (by omega) (g ?_))
  refine AW.loop (fun p : {p : Nat × Nat // p.1 ≤ p.2 ∧ p.2 ≤ l.length ∧ (∀ (k : Nat) (x : Write), k < p.1 → l[k]? = some x → x.object < o) ∧ (∀ (k : Nat) (x : Write), p.2 ≤ k → l[k]? = some x → o ≤ x.object)} => ⟨[(0, .iv (wrI l)), (1, .val (.int .i64 o)), (2, .fn 238 []), (8, .val (.int .i64 (l.length : Nat))), (9, .val (.int .i64 (p.1.1 : Nat))), (10, .val (.int .i64 (p.1.2 : Nat)))], []⟩) (fun p => p.1.2 - p.1.1) ⟨(0, l.length), Nat.zero_le _, Nat.le_refl _, fun k x hk => by omega, fun k x hk hx => by have := (List.getElem?_eq_some_iff.1 hx).1; omega⟩ id ⟨⟨rfl, rfl, rfl, rfl, rfl, rfl, trivial⟩, trivial, List.nodup_nil⟩ fun ⟨⟨lo, hi⟩, h1, h2, h3, h4⟩ => ?_
  simp only at h1 h2 h3 h4
  refine g ?_
  repeat' (first | refine st_ rfl (g ?_) | refine hold_ (g ?_) | exact trivial | refine cond_d (fun h => g ?_) (fun h => g ?_) | refine cond_ (fun h => g ?_) (fun h => g ?_) | (refine hKD _ _ ⟨rfl, g ?_⟩; clear hKD KD) | ((first | refine vops_ifd rfl rfl (fun h e => ?_) (fun h e => ?_) | refine vdraw_ifd rfl rfl (fun h e => ?_) (fun h e => ?_)) <;> simp only [e] <;> clear e <;> refine g ?_) | ((first | refine vops_if rfl rfl (fun h => ?_) (fun h => ?_) | refine vdraw_if rfl rfl (fun h => ?_) (fun h => ?_)) <;> simp only [h] <;> refine g ?_) | refine ix_ (by omega) (g ?_) | refine call_ (place1_call _ _) rfl (g ?_))
  · have hlt : lo < hi := by omega
    refine ⟨((lo + hi : Nat) : Int), by rw [IntKind.wrap_u64]; omega, ?_⟩
    refine g ?_
    repeat' (first | refine st_ rfl (g ?_) | refine hold_ (g ?_) | exact trivial | refine cond_d (fun h => g ?_) (fun h => g ?_) | refine cond_ (fun h => g ?_) (fun h => g ?_) | (refine hKD _ _ ⟨rfl, g ?_⟩; clear hKD KD) | ((first | refine vops_ifd rfl rfl (fun h e => ?_) (fun h e => ?_) | refine vdraw_ifd rfl rfl (fun h e => ?_) (fun h e => ?_)) <;> simp only [e] <;> clear e <;> refine g ?_) | ((first | refine vops_if rfl rfl (fun h => ?_) (fun h => ?_) | refine vdraw_if rfl rfl (fun h => ?_) (fun h => ?_)) <;> simp only [h] <;> refine g ?_) | refine ix_ (by omega) (g ?_))
    refine ⟨.int .u64 (((lo + hi) / 2 : Nat) : Int), fun w => by rw [show ((lo + hi : Nat) : Int) / 2 ^ min 1 64 = (((lo + hi) / 2 : Nat) : Int) from (by show ((lo + hi : Nat) : Int) / 2 = _; omega)]; rfl, ?_⟩
    obtain ⟨q, hq⟩ : ∃ q, (lo + hi) / 2 = q := ⟨_, rfl⟩
    rw [hq]
    have hq1 : lo ≤ q := by omega
    have hq2 : q < hi := by omega
    have hql : q < l.length := by omega
    refine g ?_
    repeat' (first | refine st_ rfl (g ?_) | refine hold_ (g ?_) | exact trivial | refine cond_d (fun h => g ?_) (fun h => g ?_) | refine cond_ (fun h => g ?_) (fun h => g ?_) | (refine hKD _ _ ⟨rfl, g ?_⟩; clear hKD KD) | ((first | refine vops_ifd rfl rfl (fun h e => ?_) (fun h e => ?_) | refine vdraw_ifd rfl rfl (fun h e => ?_) (fun h e => ?_)) <;> simp only [e] <;> clear e <;> refine g ?_) | ((first | refine vops_if rfl rfl (fun h => ?_) (fun h => ?_) | refine vdraw_if rfl rfl (fun h => ?_) (fun h => ?_)) <;> simp only [h] <;> refine g ?_) | refine ix_ (by omega) (g ?_) | refine call_ (place1_call _ _) rfl (g ?_))
    · have h := cmpI_lt.1 h
      refine ⟨⟨(q + 1, hi), by show q + 1 ≤ hi; omega, h2, fun k x hk hx => ?_, h4⟩, id, ⟨⟨rfl, rfl, rfl, rfl, rfl, rfl, trivial⟩, trivial, List.nodup_nil⟩, by show hi - (q + 1) < hi - lo; omega⟩
      rcases Nat.lt_or_ge k q with c | c
      · have := hs k q _ _ c hx (List.getElem?_eq_getElem hql); omega
      · obtain rfl : k = q := by simp only at hk; omega
        rw [List.getElem?_eq_getElem hql] at hx
        obtain rfl := Option.some.inj hx
        exact h
    · have h : ¬ l[q].object < o := fun e => h (cmpI_lt.2 e)
      refine ⟨⟨(lo, q), hq1, by show q ≤ l.length; omega, h3, fun k x hk hx => ?_⟩, id, ⟨⟨rfl, rfl, rfl, rfl, rfl, rfl, trivial⟩, trivial, List.nodup_nil⟩, by show q - lo < hi - lo; omega⟩
      rcases Nat.lt_or_ge q k with c | c
      · have := hs q k _ _ c (List.getElem?_eq_getElem hql) hx; omega
      · obtain rfl : k = q := by simp only at hk; omega
        rw [List.getElem?_eq_getElem hql] at hx
        obtain rfl := Option.some.inj hx
        omega
  · obtain rfl : hi = lo := by omega
    obtain ⟨g1, ⟨hl, he, hg⟩ | ⟨hn, hg⟩⟩ := placed hs h2 h3 h4
    · rw [g1, hg, decide_eq_true (cmpI_eq.2 he)]; rfl
    · rw [g1, hg, decide_eq_false (fun e => hn (by omega) (cmpI_eq.1 e))]; rfl
  · obtain rfl : hi = lo := by omega
    obtain ⟨g1, ⟨hl, he, hg⟩ | ⟨hn, hg⟩⟩ := placed hs h2 h3 h4
    · omega
    · rw [g1, hg]; rfl
theorem shelf_rises : ∀ {l : List Write} {e : Int}, shelfFrom e l = true → Rises l ∧ ∀ x ∈ l, e < x.object
  | [], e, _ => ⟨fun i j x y _ hi => by simp at hi, fun x hx => by cases hx⟩
  | w :: l, e, h => by
    simp only [shelfFrom, Bool.and_eq_true, decide_eq_true_eq] at h
    obtain ⟨⟨_, h2⟩, h3⟩ := h
    obtain ⟨g1, g2⟩ := shelf_rises h3
    refine ⟨fun i j x y hij hi hj => ?_, fun x hx => ?_⟩
    · cases j with
      | zero => omega
      | succ j =>
        simp only [List.getElem?_cons_succ] at hj
        cases i with
        | zero =>
          simp only [List.getElem?_cons_zero, Option.some.injEq] at hi
          subst hi
          exact g2 y (List.mem_of_getElem? hj)
        | succ i => exact g1 i j x y (by omega) (by simpa using hi) hj
    · rcases List.mem_cons.1 hx with rfl | hx
      · exact h2
      · have := g2 x hx; omega
theorem shplace_call (l : List Write) (o : Int) (hs : Rises l) : ACalls Tryz.prog TzTab 180 [.iv (wrI l), .val (.int .i64 o)] (.tup [.val (.int .i64 (placeN l o : Nat)), .val (.bool (getW l o).isSome)]) [] := by
  refine ACalls.of (n := 11) (rs := [.tmp 4, .tmp 5]) Tryz.func180 rfl (by kernel_rfl) Tryz.ntmps180 (by kernel_rfl) (by simp) (fun _ _ => TzTab.later) ?_
  intro hok V w0
  refine g ?_
  repeat' (first | refine st_ rfl (g ?_) | refine hold_ (g ?_) | exact trivial | refine cond_d (fun h => g ?_) (fun h => g ?_) | refine cond_ (fun h => g ?_) (fun h => g ?_) | (refine hKD _ _ ⟨rfl, g ?_⟩; clear hKD KD) | ((first | refine vops_ifd rfl rfl (fun h e => ?_) (fun h e => ?_) | refine vdraw_ifd rfl rfl (fun h e => ?_) (fun h e => ?_)) <;> simp only [e] <;> clear e <;> refine g ?_) | ((first | refine vops_if rfl rfl (fun h => ?_) (fun h => ?_) | refine vdraw_if rfl rfl (fun h => ?_) (fun h => ?_)) <;> simp only [h] <;> refine g ?_) | refine ix_ (by omega) (g ?_) | refine call_ (bsearch_call _ _ hs) rfl (g ?_))
theorem place_get {l : List Write} {o : Int} (hs : Rises l) {w : Write} (h : getW l o = some w) : ∃ hl : placeN l o < l.length, l[placeN l o] = w := by
  have hw := List.find?_some h
  simp only [decide_eq_true_eq] at hw
  obtain ⟨j, hj, rfl⟩ := List.mem_iff_getElem.1 (List.mem_of_find?_eq_some h)
  have e : placeN l o = j := (List.findIdx_eq hj).2 ⟨by simp [hw], fun i hi => by
    have := hs i j _ _ hi (List.getElem?_eq_getElem (by omega)) (List.getElem?_eq_getElem hj)
    simp
    omega⟩
  exact ⟨by omega, by simp only [e]⟩
set_option maxRecDepth 100000 in
theorem shget_call (l : List Write) (o : Int) : ACalls Tryz.prog TzTab 121 [.iv (wrI l), .val (.int .i64 o)] (.tup [wA (getS l o).1, .val (.int .i64 (getS l o).2)]) [] := by
  refine ACalls.of (n := 25) (rs := [.cell 4 69, .tmp 5]) Tryz.func121 rfl (by kernel_rfl) Tryz.ntmps121 (by kernel_rfl) (by simp) (fun _ _ => TzTab.later) ?_
  intro hok V w0
  have hlen : l.length ≤ 1073741824 := by simpa [wrI] using hok.1.1
  cases hf : shelfFormed l with
  | false =>
    have h1 := shformed_call l
    rw [hf] at h1
    rw [show getS l o = (noW, 1) by unfold getS; rw [if_neg (by simp [hf])]]
    refine g ?_
    repeat' (first | refine st_ rfl (g ?_) | refine hold_ (g ?_) | exact trivial | refine cond_d (fun h => g ?_) (fun h => g ?_) | refine cond_ (fun h => g ?_) (fun h => g ?_) | (refine hKD _ _ ⟨rfl, g ?_⟩; clear hKD KD) | ((first | refine vops_ifd rfl rfl (fun h e => ?_) (fun h e => ?_) | refine vdraw_ifd rfl rfl (fun h e => ?_) (fun h e => ?_)) <;> simp only [e] <;> clear e <;> refine g ?_) | ((first | refine vops_if rfl rfl (fun h => ?_) (fun h => ?_) | refine vdraw_if rfl rfl (fun h => ?_) (fun h => ?_)) <;> simp only [h] <;> refine g ?_) | refine ix_ (by omega) (g ?_) | refine call_ (h1) rfl (g ?_))
    rfl
  | true =>
    have h1 := shformed_call l
    rw [hf] at h1
    have hs := (shelf_rises hf).1
    cases hg : getW l o with
    | none =>
      have h2 := shplace_call l o hs
      rw [hg] at h2
      rw [show getS l o = (noW, 8) by unfold getS; rw [if_pos hf, hg]]
      refine g ?_
      repeat' (first | refine st_ rfl (g ?_) | refine hold_ (g ?_) | exact trivial | refine cond_d (fun h => g ?_) (fun h => g ?_) | refine cond_ (fun h => g ?_) (fun h => g ?_) | (refine hKD _ _ ⟨rfl, g ?_⟩; clear hKD KD) | ((first | refine vops_ifd rfl rfl (fun h e => ?_) (fun h e => ?_) | refine vdraw_ifd rfl rfl (fun h e => ?_) (fun h e => ?_)) <;> simp only [e] <;> clear e <;> refine g ?_) | ((first | refine vops_if rfl rfl (fun h => ?_) (fun h => ?_) | refine vdraw_if rfl rfl (fun h => ?_) (fun h => ?_)) <;> simp only [h] <;> refine g ?_) | refine ix_ (by omega) (g ?_) | refine call_ (h1) rfl (g ?_) | refine call_ (h2) rfl (g ?_))
      rfl
    | some w =>
      have h2 := shplace_call l o hs
      obtain ⟨hl, he⟩ := place_get hs hg
      rw [hg] at h2
      rw [show getS l o = (w, 0) by unfold getS; rw [if_pos hf, hg], ← he]
      refine g ?_
      repeat' (first | refine st_ rfl (g ?_) | refine hold_ (g ?_) | exact trivial | refine cond_d (fun h => g ?_) (fun h => g ?_) | refine cond_ (fun h => g ?_) (fun h => g ?_) | (refine hKD _ _ ⟨rfl, g ?_⟩; clear hKD KD) | ((first | refine vops_ifd rfl rfl (fun h e => ?_) (fun h e => ?_) | refine vdraw_ifd rfl rfl (fun h e => ?_) (fun h e => ?_)) <;> simp only [e] <;> clear e <;> refine g ?_) | ((first | refine vops_if rfl rfl (fun h => ?_) (fun h => ?_) | refine vdraw_if rfl rfl (fun h => ?_) (fun h => ?_)) <;> simp only [h] <;> refine g ?_) | refine ix_ (by omega) (g ?_) | refine call_ (h1) rfl (g ?_) | refine call_ (h2) rfl (g ?_))
end Go.Proofs.YtaiekfeiaamemaaGreatDoor
/- Whether a body is wanted; a body that isn't (the program's). -/
namespace Go.Proofs.YtaiekfeiaamemaaGreatDoor
open Go.ChangeShapes Go.WideShapes Go.ChangeAt Go.RowKit
attribute [local irreducible] AW AWY vops vopsY vop vopL vdraw callW qop binQ lenQ storeQ appendQ callQ ACalls AIter setI
attribute [local go_sem] enB_eq boI_eq boA_eq byI_eq enW_eq wrI_eq wA_eq enZ_eq znI_eq vwA_eq storeQ_bp storeQ_rp

set_option maxRecDepth 100000 in
theorem wanted_call (l : List Write) (x : Body) (hf : shelfFormed l = true) : ACalls Tryz.prog TzTab 98 [.iv (wrI l), boA x] (.val (.bool (wantedB l x))) [] := by
  refine ACalls.of (n := 28) (rs := [.tmp 4]) Tryz.func98 rfl (by kernel_rfl) Tryz.ntmps98 (by kernel_rfl) (by simp) (fun _ _ => TzTab.later) ?_
  intro hok V w0
  obtain ⟨B, hB⟩ : ∃ B, wantedB l x = B := ⟨_, rfl⟩
  rw [hB]
  unfold wantedB wantedW at hB
  have hat := shget_call l x.object
  unfold getS at hat
  rw [if_pos hf] at hat
  cases hg : getW l x.object with
  | none =>
    rw [hg] at hB hat
    refine g ?_
    repeat' (first | refine st_ rfl (g ?_) | refine hold_ (g ?_) | exact trivial | refine cond_d (fun h => g ?_) (fun h => g ?_) | refine cond_ (fun h => g ?_) (fun h => g ?_) | (refine hKD _ _ ⟨rfl, g ?_⟩; clear hKD KD) | ((first | refine vops_ifd rfl rfl (fun h e => ?_) (fun h e => ?_) | refine vdraw_ifd rfl rfl (fun h e => ?_) (fun h e => ?_)) <;> simp only [e] <;> clear e <;> refine g ?_) | ((first | refine vops_if rfl rfl (fun h => ?_) (fun h => ?_) | refine vdraw_if rfl rfl (fun h => ?_) (fun h => ?_)) <;> simp only [h] <;> refine g ?_) | refine ix_ (by omega) (g ?_) | refine call_ (hat) rfl (g ?_))
    exact hB
  | some w =>
    rw [hg] at hB hat
    simp only at hat hB
    rw [stamp_dec] at hB
    refine g ?_
    repeat' (first | refine st_ rfl (g ?_) | refine hold_ (g ?_) | exact trivial | refine cond_d (fun h => g ?_) (fun h => g ?_) | refine cond_ (fun h => g ?_) (fun h => g ?_) | (refine hKD _ _ ⟨rfl, g ?_⟩; clear hKD KD) | ((first | refine vops_ifd rfl rfl (fun h e => ?_) (fun h e => ?_) | refine vdraw_ifd rfl rfl (fun h e => ?_) (fun h e => ?_)) <;> simp only [e] <;> clear e <;> refine g ?_) | ((first | refine vops_if rfl rfl (fun h => ?_) (fun h => ?_) | refine vdraw_if rfl rfl (fun h => ?_) (fun h => ?_)) <;> simp only [h] <;> refine g ?_) | refine ix_ (by omega) (g ?_) | refine call_ (hat) rfl (g ?_))
    refine ⟨_, fun u => stamp_eq _ _ _ _ _ _ u, ?_⟩
    refine g ?_
    repeat' (first | refine st_ rfl (g ?_) | refine hold_ (g ?_) | exact trivial | refine cond_d (fun h => g ?_) (fun h => g ?_) | refine cond_ (fun h => g ?_) (fun h => g ?_) | (refine hKD _ _ ⟨rfl, g ?_⟩; clear hKD KD) | ((first | refine vops_ifd rfl rfl (fun h e => ?_) (fun h e => ?_) | refine vdraw_ifd rfl rfl (fun h e => ?_) (fun h e => ?_)) <;> simp only [e] <;> clear e <;> refine g ?_) | ((first | refine vops_if rfl rfl (fun h => ?_) (fun h => ?_) | refine vdraw_if rfl rfl (fun h => ?_) (fun h => ?_)) <;> simp only [h] <;> refine g ?_) | refine ix_ (by omega) (g ?_))
    · rw [← hB, h]; simp
    · rw [← hB, h]; simp
set_option maxRecDepth 100000 in
theorem idxb_call (l : List Body) (f : FuncId) (C : List IV) (p : Body → Bool) (hp : ∀ x, ACalls Tryz.prog TzTab f [boA x, .ip C] (.val (.bool (p x))) []) : ACalls Tryz.prog TzTab 96 [.iv (boI l), .fn f [.ip C]] (.val (.int .i64 (if l.any p = true then ((l.findIdx p : Nat) : Int) else -1))) [] := by
  refine ACalls.of (n := 19) (rs := [.tmp 4]) Tryz.func96 rfl (by kernel_rfl) Tryz.ntmps96 (by kernel_rfl) (by simp) (fun _ _ => TzTab.later) ?_
  intro hok V w0
  have hlen : l.length ≤ 1073741824 := by simpa [boI] using hok.1.1
  refine g ?_
  repeat' (first | refine st_ rfl (g ?_) | refine hold_ (g ?_) | exact trivial | refine cond_d (fun h => g ?_) (fun h => g ?_) | refine cond_ (fun h => g ?_) (fun h => g ?_) | (refine hKD _ _ ⟨rfl, g ?_⟩; clear hKD KD) | ((first | refine vops_ifd rfl rfl (fun h e => ?_) (fun h e => ?_) | refine vdraw_ifd rfl rfl (fun h e => ?_) (fun h e => ?_)) <;> simp only [e] <;> clear e <;> refine g ?_) | ((first | refine vops_if rfl rfl (fun h => ?_) (fun h => ?_) | refine vdraw_if rfl rfl (fun h => ?_) (fun h => ?_)) <;> simp only [h] <;> refine g ?_) | refine ix_ (by omega) (g ?_))
  refine AW.loop (fun m : {m : Nat // m ≤ l.length ∧ ∀ x ∈ l.take m, p x = false} => ⟨[(0, .iv (boI l)), (1, .fn f [.ip C]), (7, .val (.int .i64 (l.length : Nat))), (8, .val (.int .i64 (m.1 : Nat)))], []⟩) (fun m => l.length - m.1) ⟨0, Nat.zero_le _, fun x hx => by simp at hx⟩ id ⟨⟨rfl, rfl, rfl, rfl, trivial⟩, trivial, List.nodup_nil⟩ fun ⟨m, hm, ht⟩ => ?_
  refine g ?_
  repeat' (first | refine st_ rfl (g ?_) | refine hold_ (g ?_) | exact trivial | refine cond_d (fun h => g ?_) (fun h => g ?_) | refine cond_ (fun h => g ?_) (fun h => g ?_) | (refine hKD _ _ ⟨rfl, g ?_⟩; clear hKD KD) | ((first | refine vops_ifd rfl rfl (fun h e => ?_) (fun h e => ?_) | refine vdraw_ifd rfl rfl (fun h e => ?_) (fun h e => ?_)) <;> simp only [e] <;> clear e <;> refine g ?_) | ((first | refine vops_if rfl rfl (fun h => ?_) (fun h => ?_) | refine vdraw_if rfl rfl (fun h => ?_) (fun h => ?_)) <;> simp only [h] <;> refine g ?_) | refine ix_ (by omega) (g ?_) | refine call_ (hp _) rfl (g ?_))
  · have hlt : m < l.length := by omega
    rw [if_pos (List.any_eq_true.2 ⟨_, List.getElem_mem hlt, h⟩), (List.findIdx_eq hlt).2 ⟨h, fun j hj => ht _ (List.mem_take_iff_getElem.2 ⟨j, by omega, rfl⟩)⟩]
  · refine ⟨⟨m + 1, by omega, fun x hx => ?_⟩, id, ⟨⟨rfl, rfl, rfl, rfl, trivial⟩, trivial, List.nodup_nil⟩, by show l.length - (m + 1) < l.length - m; omega⟩
    rw [List.take_succ_eq_append_getElem (by omega)] at hx
    rcases List.mem_append.1 hx with h1 | h1
    · exact ht x h1
    · rw [List.mem_singleton.1 h1]; exact h
  · obtain rfl : m = l.length := by omega
    rw [List.take_length] at ht
    rw [if_neg]
    rw [List.any_eq_true]
    rintro ⟨x, hx, hp⟩
    rw [ht x hx] at hp
    cases hp
theorem hasfb_call (l : List Body) (f : FuncId) (C : List IV) (p : Body → Bool) (hp : ∀ x, ACalls Tryz.prog TzTab f [boA x, .ip C] (.val (.bool (p x))) []) : ACalls Tryz.prog TzTab 114 [.iv (boI l), .fn f [.ip C]] (.val (.bool (l.any p))) [] := by
  refine ACalls.of (n := 9) (rs := [.tmp 4]) Tryz.func114 rfl (by kernel_rfl) Tryz.ntmps114 (by kernel_rfl) (by simp) (fun _ _ => TzTab.later) ?_
  intro hok V w0
  have h1 := idxb_call l f C p hp
  cases ha : l.any p with
  | true =>
    rw [if_pos ha] at h1
    refine g ?_
    repeat' (first | refine st_ rfl (g ?_) | refine hold_ (g ?_) | exact trivial | refine cond_d (fun h => g ?_) (fun h => g ?_) | refine cond_ (fun h => g ?_) (fun h => g ?_) | (refine hKD _ _ ⟨rfl, g ?_⟩; clear hKD KD) | ((first | refine vops_ifd rfl rfl (fun h e => ?_) (fun h e => ?_) | refine vdraw_ifd rfl rfl (fun h e => ?_) (fun h e => ?_)) <;> simp only [e] <;> clear e <;> refine g ?_) | ((first | refine vops_if rfl rfl (fun h => ?_) (fun h => ?_) | refine vdraw_if rfl rfl (fun h => ?_) (fun h => ?_)) <;> simp only [h] <;> refine g ?_) | refine ix_ (by omega) (g ?_) | refine call_ (h1) rfl (g ?_))
    exact decide_eq_true (by omega)
  | false =>
    rw [if_neg (by rw [ha]; decide)] at h1
    refine g ?_
    repeat' (first | refine st_ rfl (g ?_) | refine hold_ (g ?_) | exact trivial | refine cond_d (fun h => g ?_) (fun h => g ?_) | refine cond_ (fun h => g ?_) (fun h => g ?_) | (refine hKD _ _ ⟨rfl, g ?_⟩; clear hKD KD) | ((first | refine vops_ifd rfl rfl (fun h e => ?_) (fun h e => ?_) | refine vdraw_ifd rfl rfl (fun h e => ?_) (fun h e => ?_)) <;> simp only [e] <;> clear e <;> refine g ?_) | ((first | refine vops_if rfl rfl (fun h => ?_) (fun h => ?_) | refine vdraw_if rfl rfl (fun h => ?_) (fun h => ?_)) <;> simp only [h] <;> refine g ?_) | refine ix_ (by omega) (g ?_) | refine call_ (h1) rfl (g ?_))
    rfl
theorem formed1_call (v : View) (x : Body) (hf : shelfFormed v.held = true) : ACalls Tryz.prog TzTab 115 [boA x, .ip [stI v.known, znI v.zones, wrI v.held, boI v.bodies, .val (.int .i64 v.room)]] (.val (.bool (!wantedB v.held x))) [] := by
  refine ACalls.of (n := 9) (rs := [.tmp 3]) Tryz.func115 rfl (by kernel_rfl) Tryz.ntmps115 (by kernel_rfl) (by simp) (fun _ _ => TzTab.later) ?_
  intro hok V w0
  refine g ?_
  repeat' (first | refine st_ rfl (g ?_) | refine hold_ (g ?_) | exact trivial | refine cond_d (fun h => g ?_) (fun h => g ?_) | refine cond_ (fun h => g ?_) (fun h => g ?_) | (refine hKD _ _ ⟨rfl, g ?_⟩; clear hKD KD) | ((first | refine vops_ifd rfl rfl (fun h e => ?_) (fun h e => ?_) | refine vdraw_ifd rfl rfl (fun h e => ?_) (fun h e => ?_)) <;> simp only [e] <;> clear e <;> refine g ?_) | ((first | refine vops_if rfl rfl (fun h => ?_) (fun h => ?_) | refine vdraw_if rfl rfl (fun h => ?_) (fun h => ?_)) <;> simp only [h] <;> refine g ?_) | refine ix_ (by omega) (g ?_) | refine call_ (wanted_call _ x hf) rfl (g ?_))
end Go.Proofs.YtaiekfeiaamemaaGreatDoor
/- The entries of a row from a place on, with their places. No program is known here. -/
namespace Go.Proofs.YtaiekfeiaamemaaGreatDoor
variable {α : Type}
end Go.Proofs.YtaiekfeiaamemaaGreatDoor
/- Logs: checked, told one by one. -/
namespace Go.Proofs.YtaiekfeiaamemaaGreatDoor
open Go.ChangeShapes Go.WideShapes Go.ChangeAt Go.RowKit
attribute [local irreducible] AW AWY vops vopsY vop vopL vdraw callW qop binQ lenQ storeQ appendQ callQ ACalls AIter
attribute [local go_sem] noI_eq enN_eq logA_eq noteA_eq storeQ_bp storeQ_rp

end Go.Proofs.YtaiekfeiaamemaaGreatDoor
/- Logs: told one by one. -/
namespace Go.Proofs.YtaiekfeiaamemaaGreatDoor
open Go.ChangeShapes Go.WideShapes Go.ChangeAt Go.RowKit
attribute [local irreducible] AW AWY vops vopsY vop vopL vdraw callW qop binQ lenQ storeQ appendQ callQ ACalls AIter
attribute [local go_sem] noI_eq enN_eq logA_eq noteA_eq storeQ_bp storeQ_rp

def logP (l : Log) : AV := .ip [stI l.base, noI l.notes, .val (.int .i64 l.sure)]
theorem logP_eq (l : Log) : logP l = .ip [stI l.base, noI l.notes, .val (.int .i64 l.sure)] := rfl
attribute [local go_sem] logP_eq
end Go.Proofs.YtaiekfeiaamemaaGreatDoor
/- Shelves: told one by one (the program's). -/
namespace Go.Proofs.YtaiekfeiaamemaaGreatDoor
open Go.ChangeShapes Go.WideShapes Go.ChangeAt Go.RowKit
attribute [local irreducible] AW AWY vops vopsY vop vopL vdraw callW qop binQ lenQ storeQ appendQ callQ ACalls AIter setI
attribute [local go_sem] enW_eq wrI_eq wA_eq storeQ_bp storeQ_rp

theorem shall_call (l : List Write) : ACalls Tryz.prog TzTab 113 [.iv (wrI l)] (.fn 192 [.ip [wrI l]]) [] := by
  have h : ACalls Tryz.prog TzTab 113 [.iv (wrI l)] (.fn 192 [.bp 0 0]) [.box 0 [.iv (wrI l)]] := by
    refine ACalls.of (n := 4) (rs := [.tmp 2]) Tryz.func113 rfl (by kernel_rfl) Tryz.ntmps113 (by kernel_rfl) (by simp) (fun _ _ => TzTab.later) ?_
    intro hok V w0
    refine g ?_
    repeat' (first | refine st_ rfl (g ?_) | refine hold_ (g ?_) | exact trivial | refine cond_d (fun h => g ?_) (fun h => g ?_) | refine cond_ (fun h => g ?_) (fun h => g ?_) | (refine hKD _ _ ⟨rfl, g ?_⟩; clear hKD KD) | ((first | refine vops_ifd rfl rfl (fun h e => ?_) (fun h e => ?_) | refine vdraw_ifd rfl rfl (fun h e => ?_) (fun h e => ?_)) <;> simp only [e] <;> clear e <;> refine g ?_) | ((first | refine vops_if rfl rfl (fun h => ?_) (fun h => ?_) | refine vdraw_if rfl rfl (fun h => ?_) (fun h => ?_)) <;> simp only [h] <;> refine g ?_) | refine ix_ (by omega) (g ?_))
    exact ⟨fun b => 200 + 100 * b, rfl, rfl, by simp⟩
  exact h.frz ⟨trivial, trivial⟩
def enWo (w : Write) : List AV := [.val (.int .i64 w.object), wA w]
theorem shall_iter (l : List Write) (hf : shelfFormed l = true) : AIter Tryz.prog TzTab 192 [.ip [wrI l]] enWo (fun ys => ys = l) (fun pre => pre <+: l) := by
  refine AIter.of (n := 21) Tryz.func192 rfl (by kernel_rfl) Tryz.ntmps192 (by kernel_rfl) (by simp) (fun _ _ => TzTab.later) ?_
  intro hok Y
  have hlen : l.length ≤ 1073741824 := by simpa [wrI] using hok.1.1.1
  have h1 := shformed_call l
  rw [hf] at h1
  refine g ?_
  refine g ?_
  repeat' (first | refine stY_ rfl (g ?_) | refine hold_ (g ?_) | exact trivial | refine cond_ (fun h => g ?_) (fun h => g ?_))
  refine call_ h1 rfl ?_
  refine g ?_
  repeat' (first | refine stY_ rfl (g ?_) | refine hold_ (g ?_) | exact trivial | refine cond_ (fun h => g ?_) (fun h => g ?_))
  refine AWY.loop (fun i : {i : Nat // i ≤ l.length} => (.going (l.take i.1), ⟨[(0, .val (.func (.yield Y.l) #[] #[])), (8, .iv (wrI l)), (9, .val (.int .i64 (l.length : Nat))), (10, .val (.int .i64 (i.1 : Nat)))], []⟩)) (fun i => l.length - i.1) ⟨0, Nat.zero_le _⟩ id ⟨rfl, ⟨rfl, rfl, rfl, rfl, trivial⟩, trivial, List.nodup_nil⟩ fun ⟨i, hi⟩ => ?_
  refine g ?_
  repeat' (first | refine stY_ rfl (g ?_) | refine hold_ (g ?_) | exact trivial | refine cond_ (fun h => g ?_) (fun h => g ?_))
  · have hlt : i < l.length := by simpa using h
    obtain ⟨-, o1, o2, o3, o4, -⟩ := okR_mem (by simpa [wrI] using hok.1.1.2) (enW l[i]) (List.mem_map_of_mem (List.getElem_mem hlt))
    have hs : l.take i ++ [l[i]] = l.take (i + 1) := (List.take_succ_eq_append_getElem hlt).symm
    refine ⟨by omega, _, get_map (List.getElem?_eq_getElem hlt), ?_⟩
    refine g ?_
    repeat' (first | refine stY_ rfl (g ?_) | refine hold_ (g ?_) | exact trivial | refine cond_ (fun h => g ?_) (fun h => g ?_))
    refine vopsY_y (x := l[i]) ?_ ?_ ?_ ?_
    · rfl
    · exact Sbs.rfl_ _
    · rw [hs]; exact List.take_prefix _ _
    simp only [go_sem]
    rw [hs]
    refine ⟨⟨o1, o2, o3, o4, trivial⟩, ?_, ?_⟩
    · refine g ?_
      repeat' (first | refine stY_ rfl (g ?_) | refine hold_ (g ?_) | exact trivial | refine cond_ (fun h => g ?_) (fun h => g ?_))
      exact ⟨⟨i + 1, hlt⟩, id, rfl, ⟨⟨rfl, rfl, rfl, rfl, trivial⟩, trivial, List.nodup_nil⟩, by show l.length - (i + 1) < l.length - i; omega⟩
    · refine g ?_
      repeat' (first | refine stY_ rfl (g ?_) | refine hold_ (g ?_) | exact trivial | refine cond_ (fun h => g ?_) (fun h => g ?_))
  · have hle : l.length ≤ i := by simpa using h
    exact ⟨.inr trivial, List.take_of_length_le hle⟩
end Go.Proofs.YtaiekfeiaamemaaGreatDoor
/- Zones and what is sharp between them: told one by one (the program's). -/
namespace Go.Proofs.YtaiekfeiaamemaaGreatDoor
open Go.ChangeShapes Go.WideShapes Go.ChangeAt Go.RowKit
attribute [local irreducible] AW AWY vops vopsY vop vopL vdraw callW qop binQ lenQ storeQ appendQ callQ ACalls AIter setI
attribute [local go_sem] enZ_eq znI_eq storeQ_bp storeQ_rp
theorem pieces_call (z : List Zone) (known : List Stamp) : ACalls Tryz.prog TzTab 173 [.iv (znI z), .iv (stI known)] (.fn 234 [.ip [znI z], .ip [stI known]]) [] := by
  have h : ACalls Tryz.prog TzTab 173 [.iv (znI z), .iv (stI known)] (.fn 234 [.bp 0 0, .bp 1 0]) [.box 0 [.iv (znI z)], .box 1 [.iv (stI known)]] := by
    refine ACalls.of (n := 6) (rs := [.tmp 4]) Tryz.func173 rfl (by kernel_rfl) Tryz.ntmps173 (by kernel_rfl) (by simp) (fun _ _ => TzTab.later) ?_
    intro hok V w0
    refine g ?_
    repeat' (first | refine st_ rfl (g ?_) | refine hold_ (g ?_) | exact trivial | refine cond_d (fun h => g ?_) (fun h => g ?_) | refine cond_ (fun h => g ?_) (fun h => g ?_) | (refine hKD _ _ ⟨rfl, g ?_⟩; clear hKD KD) | ((first | refine vops_ifd rfl rfl (fun h e => ?_) (fun h e => ?_) | refine vdraw_ifd rfl rfl (fun h e => ?_) (fun h e => ?_)) <;> simp only [e] <;> clear e <;> refine g ?_) | ((first | refine vops_if rfl rfl (fun h => ?_) (fun h => ?_) | refine vdraw_if rfl rfl (fun h => ?_) (fun h => ?_)) <;> simp only [h] <;> refine g ?_) | refine ix_ (by omega) (g ?_))
    exact ⟨fun b => 300 + 100 * b, rfl, ⟨rfl, rfl⟩, by simp⟩
  exact (h.frz ⟨trivial, trivial⟩).frz ⟨trivial, trivial⟩
def zoA (x : Zone) : AV := .agg [.val (.int .i64 x.span.lo), .val (.int .i64 x.span.hi), .iv (stI x.vec)]
def enZo (x : Zone) : List AV := [zoA x]
def gapZ (known : List Stamp) (p : Option Zone) (x : Zone) : List Zone := if zoneEnd p + 1 < x.span.lo then [⟨⟨zoneEnd p + 1, x.span.lo - 1⟩, known⟩] else []
def uptoZ (z : List Zone) (known : List Stamp) : Nat → List Zone
  | 0 => []
  | i + 1 => uptoZ z known i ++ (match z[i]? with
    | some x => gapZ known (z.take i).getLast? x ++ [x]
    | none => [])
def tailZ (z : List Zone) (known : List Stamp) : List Zone := if zoneEnd z.getLast? + 1 ≤ 255 then [⟨⟨zoneEnd z.getLast? + 1, 255⟩, known⟩] else []
def piecesZ (z : List Zone) (known : List Stamp) : List Zone := uptoZ z known z.length ++ tailZ z known
theorem upto_step {z : List Zone} {known : List Stamp} {i : Nat} (h : i < z.length) : uptoZ z known (i + 1) = uptoZ z known i ++ (gapZ known (z.take i).getLast? z[i] ++ [z[i]]) := by
  rw [uptoZ, List.getElem?_eq_getElem h]
theorem upto_pre (z : List Zone) (known : List Stamp) : ∀ {i k : Nat}, i ≤ k → uptoZ z known i <+: uptoZ z known k := fun {i k} h => by
  induction k with
  | zero => obtain rfl : i = 0 := by omega
            exact List.prefix_rfl
  | succ k ih =>
    rcases Nat.lt_or_ge i (k + 1) with h1 | h1
    · exact (ih (by omega)).trans (List.prefix_append _ _)
    · obtain rfl : i = k + 1 := by omega
      exact List.prefix_rfl
theorem upto_all {z : List Zone} {known : List Stamp} {i : Nat} (h : i ≤ z.length) : uptoZ z known i <+: piecesZ z known := (upto_pre z known h).trans (List.prefix_append _ _)
theorem zones_each : ∀ {l : List Zone} {p : Option Zone}, zonesFrom p l = true → -1 ≤ zoneEnd p → ∀ x ∈ l, 0 ≤ x.span.lo ∧ x.span.lo ≤ x.span.hi ∧ x.span.hi ≤ 255
  | [], _, _, _, x, hx => by simp at hx
  | y :: l, p, h, hp, x, hx => by
    simp only [zonesFrom, zoneNext, zoneOk, Bool.and_eq_true, decide_eq_true_eq] at h
    obtain ⟨⟨⟨h1, _⟩, ⟨h2, h3⟩, _⟩, h4⟩ := h
    rcases List.mem_cons.1 hx with rfl | hx
    · omega
    · exact zones_each h4 (show -1 ≤ y.span.hi by omega) x hx
theorem zones_pre {z : List Zone} (h : zonesFormed z = true) (i : Nat) : zonesFrom none (z.take i) = true := by
  unfold zonesFormed at h
  rw [← List.take_append_drop i z, zonesFrom_append, Bool.and_eq_true] at h
  exact h.1
set_option maxRecDepth 100000 in
theorem pieces_iter (z : List Zone) (known : List Stamp) (hf : zonesFormed z = true) : AIter Tryz.prog TzTab 234 [.ip [znI z], .ip [stI known]] enZo (fun ys => ys = piecesZ z known) (fun pre => pre <+: piecesZ z known) := by
  refine AIter.of (n := 48) Tryz.func234 rfl (by kernel_rfl) Tryz.ntmps234 (by kernel_rfl) (by simp) (fun _ _ => TzTab.later) ?_
  intro hok Y
  have hlen : z.length ≤ 1073741824 := by simpa [znI] using hok.1.1.1
  refine g ?_
  refine g ?_
  repeat' (first | refine stY_ rfl (g ?_) | refine hold_ (g ?_) | exact trivial | refine cond_ (fun h => g ?_) (fun h => g ?_))
  refine AWY.loop (fun i : {i : Nat // i ≤ z.length} => (.going (uptoZ z known i.1), ⟨[(0, .val (.func (.yield Y.l) #[] #[])), (2, .ip [stI known]), (4, .val (.int .i64 (zoneEnd (z.take i.1).getLast? + 1))), (7, .iv (znI z)), (8, .val (.int .i64 (z.length : Nat))), (9, .val (.int .i64 (i.1 : Nat)))], []⟩)) (fun i => z.length - i.1) ⟨0, Nat.zero_le _⟩ id ⟨rfl, ⟨rfl, rfl, rfl, rfl, rfl, rfl, trivial⟩, trivial, List.nodup_nil⟩ fun ⟨i, hi⟩ => ?_
  have hE := zoneEnd_in (l := z.take i) (p := none) (zones_pre hf i) ⟨by decide, by decide⟩
  rw [Option.or_none] at hE
  refine g ?_
  repeat' (first | refine stY_ rfl (g ?_) | refine hold_ (g ?_) | exact trivial | refine cond_ (fun h => g ?_) (fun h => g ?_))
  · have hlt : i < z.length := by simpa using h
    obtain ⟨-, o1, o2, o3, -⟩ := okR_mem (by simpa [znI] using hok.1.1.2) (enZ z[i]) (List.mem_map_of_mem (List.getElem_mem hlt))
    have hz := zones_each hf (by decide) z[i] (List.getElem_mem hlt)
    refine ⟨by omega, _, get_map (List.getElem?_eq_getElem hlt), ?_⟩
    refine g ?_
    repeat' (first | refine stY_ rfl (g ?_) | refine hold_ (g ?_) | exact trivial | refine cond_ (fun h => g ?_) (fun h => g ?_))
    cases hg : decide (zoneEnd (List.take i z).getLast? + 1 < z[i].span.lo)
    · have hs : uptoZ z known i ++ [z[i]] = uptoZ z known (i + 1) := by rw [upto_step hlt, gapZ, if_neg (of_decide_eq_false hg), List.nil_append]
      refine g ?_
      repeat' (first | refine stY_ rfl (g ?_) | refine hold_ (g ?_) | exact trivial | refine cond_ (fun h => g ?_) (fun h => g ?_))
      refine vopsY_y (x := z[i]) ?_ ?_ ?_ ?_
      · rfl
      · exact Sbs.rfl_ _
      · rw [hs]; exact upto_all hlt
      simp only [go_sem, reduceIte]
      rw [hs]
      refine ⟨⟨o1, o2, trivial, trivial⟩, ?_, ?_⟩
      · refine g ?_
        repeat' (first | refine stY_ rfl (g ?_) | refine hold_ (g ?_) | exact trivial | refine cond_ (fun h => g ?_) (fun h => g ?_))
        exact ⟨⟨i + 1, hlt⟩, id, rfl, ⟨⟨rfl, rfl, by rw [take_last hlt]; rfl, rfl, rfl, rfl, trivial⟩, trivial, List.nodup_nil⟩, by show z.length - (i + 1) < z.length - i; omega⟩
      · refine g ?_
        repeat' (first | refine stY_ rfl (g ?_) | refine hold_ (g ?_) | exact trivial | refine cond_ (fun h => g ?_) (fun h => g ?_))
    · have hs : uptoZ z known i ++ [(⟨⟨zoneEnd (z.take i).getLast? + 1, z[i].span.lo - 1⟩, known⟩ : Zone), z[i]] = uptoZ z known (i + 1) := by rw [upto_step hlt, gapZ, if_pos (of_decide_eq_true hg)]; rfl
      refine g ?_
      repeat' (first | refine stY_ rfl (g ?_) | refine hold_ (g ?_) | exact trivial | refine cond_ (fun h => g ?_) (fun h => g ?_))
      refine vopsY_yg (x := (⟨⟨zoneEnd (z.take i).getLast? + 1, z[i].span.lo - 1⟩, known⟩ : Zone)) rfl ?_ ?_ ?_ ?_
      · rfl
      · exact Sbs.rfl_ _
      · refine List.IsPrefix.trans ?_ (upto_all hlt)
        rw [← hs]
        exact ⟨[z[i]], by simp⟩
      simp only [go_sem, reduceIte]
      refine ⟨⟨o1, o2, trivial, trivial⟩, ?_, ?_⟩
      · refine g ?_
        repeat' (first | refine stY_ rfl (g ?_) | refine hold_ (g ?_) | exact trivial | refine cond_ (fun h => g ?_) (fun h => g ?_))
        refine vopsY_y (x := z[i]) ?_ ?_ ?_ ?_
        · rfl
        · exact Sbs.rfl_ _
        · rw [List.append_assoc]
          show uptoZ z known i ++ [_, z[i]] <+: _
          rw [hs]; exact upto_all hlt
        simp only [go_sem, reduceIte]
        rw [List.append_assoc, List.singleton_append, hs]
        refine ⟨?_, ?_⟩
        · refine g ?_
          repeat' (first | refine stY_ rfl (g ?_) | refine hold_ (g ?_) | exact trivial | refine cond_ (fun h => g ?_) (fun h => g ?_))
          exact ⟨⟨i + 1, hlt⟩, id, rfl, ⟨⟨rfl, rfl, by rw [take_last hlt]; rfl, rfl, rfl, rfl, trivial⟩, trivial, List.nodup_nil⟩, by show z.length - (i + 1) < z.length - i; omega⟩
        · refine g ?_
          repeat' (first | refine stY_ rfl (g ?_) | refine hold_ (g ?_) | exact trivial | refine cond_ (fun h => g ?_) (fun h => g ?_))
      · refine g ?_
        repeat' (first | refine stY_ rfl (g ?_) | refine hold_ (g ?_) | exact trivial | refine cond_ (fun h => g ?_) (fun h => g ?_))
  · rename_i h0
    obtain rfl : i = z.length := by have : z.length ≤ i := by simpa using h0
                                    omega
    rw [List.take_length] at *
    refine vopsY_y (x := ⟨⟨zoneEnd z.getLast? + 1, 255⟩, known⟩) ?_ ?_ ?_ ?_
    · rfl
    · exact Sbs.rfl_ _
    · rw [piecesZ, tailZ, if_pos (of_decide_eq_true h)]; exact List.prefix_rfl
    simp only [go_sem]
    refine ⟨⟨.inr trivial, ?_⟩, .inr trivial⟩
    rw [piecesZ, tailZ, if_pos (of_decide_eq_true h)]
  · rename_i h0
    obtain rfl : i = z.length := by have : z.length ≤ i := by simpa using h0
                                    omega
    rw [List.take_length] at *
    refine ⟨.inr trivial, ?_⟩
    rw [piecesZ, tailZ, if_neg (of_decide_eq_false h), List.append_nil]
end Go.Proofs.YtaiekfeiaamemaaGreatDoor
/- Up to where all of an interest is known sharply (the program's). -/
namespace Go.Proofs.YtaiekfeiaamemaaGreatDoor
open Go.ChangeShapes Go.WideShapes Go.ChangeAt Go.RowKit
attribute [local irreducible] AW AWY vops vopsY vop vopL vdraw callW qop binQ lenQ storeQ appendQ callQ ACalls AIter setI
attribute [local go_sem] storeQ_bp storeQ_rp
theorem i64_litS {n : Int} (h : (-9223372036854775808 ≤ n && n ≤ 9223372036854775807) = true) : I64 n := by
  simp only [Bool.and_eq_true, decide_eq_true_eq] at h
  exact I64.of h.1 h.2
def MeetOk : Prop := ∀ ls : List (List Stamp), (∀ l ∈ ls, vecFormed l = true) → ACalls Tryz.prog TzTab 203 [.iv (stsI ls)] (.iv (stI (meetS ls))) []
def reachT (it : List Span) (ps : List Zone) : List (List Stamp) := (ps.filter fun x => touchS it [x.span]).map (·.vec)
def sinceT (z : List Zone) (known : List Stamp) (it : List Span) : List Stamp := if zonesFormed z = true ∧ vecFormed known = true then (if (reachT it (piecesZ z known)).length = 0 then known else meetS (reachT it (piecesZ z known))) else []
theorem pieces_len (z : List Zone) (known : List Stamp) : (piecesZ z known).length ≤ 2 * z.length + 1 := by
  have h : ∀ i, (uptoZ z known i).length ≤ 2 * i := fun i => by
    induction i with
    | zero => exact Nat.le_refl _
    | succ i ih =>
      rw [uptoZ, List.length_append]
      split
      · unfold gapZ
        split <;> simp <;> omega
      · simp; omega
  have := h z.length
  rw [piecesZ, List.length_append]
  have : (tailZ z known).length ≤ 1 := by unfold tailZ; split <;> simp
  omega
theorem zones_len : ∀ {l : List Zone} {p : Option Zone}, zonesFrom p l = true → zoneEnd p ≤ 255 → (l.length : Int) ≤ 255 - zoneEnd p
  | [], p, _, hp => by simp; omega
  | y :: l, p, h, hp => by
    simp only [zonesFrom, zoneNext, zoneOk, Bool.and_eq_true, decide_eq_true_eq] at h
    obtain ⟨⟨⟨h1, _⟩, ⟨h2, h3⟩, _⟩, h4⟩ := h
    have h5 : (l.length : Int) ≤ 255 - y.span.hi := zones_len h4 h3
    rw [List.length_cons]
    omega
theorem reachT_snoc (it : List Span) (ps : List Zone) (x : Zone) : reachT it (ps ++ [x]) = reachT it ps ++ if touchS it [x.span] = true then [x.vec] else [] := by
  unfold reachT
  rw [List.filter_append, List.map_append]
  congr 1
  cases h : touchS it [x.span] <;> simp [h]
theorem upto_in {z : List Zone} {known : List Stamp} (hF : zonesFormed z = true) (hk : vecFormed known = true) : ∀ i, ∀ x ∈ uptoZ z known i, (0 ≤ x.span.lo ∧ x.span.lo ≤ 255 ∧ 0 ≤ x.span.hi ∧ x.span.hi ≤ 255) ∧ vecFormed x.vec = true
  | 0, x, hx => by simp [uptoZ] at hx
  | i + 1, x, hx => by
    rw [uptoZ, List.mem_append] at hx
    rcases hx with hx | hx
    · exact upto_in hF hk i x hx
    · cases hc : z[i]? with
      | none => rw [hc] at hx; simp at hx
      | some y =>
        rw [hc] at hx
        have hy : y ∈ z := List.mem_of_getElem? hc
        have h1 := zones_each hF (by decide) y hy
        have h2 := zonesFrom_mem hF y hy
        simp only [zoneOk, Bool.and_eq_true] at h2
        have h3 := zoneEnd_at (zones_pre hF i)
        simp only [List.mem_append, List.mem_singleton] at hx
        rcases hx with hx | rfl
        · unfold gapZ at hx
          split at hx
          · rw [List.mem_singleton] at hx
            subst hx
            exact ⟨⟨by show 0 ≤ zoneEnd _ + 1; omega, by show zoneEnd _ + 1 ≤ 255; omega, by show 0 ≤ y.span.lo - 1; omega, by show y.span.lo - 1 ≤ 255; omega⟩, hk⟩
          · simp at hx
        · exact ⟨by omega, h2.2⟩
theorem pieces_in {z : List Zone} {known : List Stamp} (hF : zonesFormed z = true) (hk : vecFormed known = true) : ∀ x ∈ piecesZ z known, (0 ≤ x.span.lo ∧ x.span.lo ≤ 255 ∧ 0 ≤ x.span.hi ∧ x.span.hi ≤ 255) ∧ vecFormed x.vec = true := fun x hx => by
  rw [piecesZ, List.mem_append] at hx
  rcases hx with hx | hx
  · exact upto_in hF hk _ x hx
  · unfold tailZ at hx
    have h3 := zoneEnd_at (zones_pre hF z.length)
    rw [List.take_length] at h3
    split at hx
    · rw [List.mem_singleton] at hx
      subst hx
      exact ⟨⟨by show 0 ≤ zoneEnd _ + 1; omega, by show zoneEnd _ + 1 ≤ 255; omega, by show (0 : Int) ≤ 255; decide, by show (255 : Int) ≤ 255; decide⟩, hk⟩
    · simp at hx
set_option maxRecDepth 100000 in
set_option maxHeartbeats 800000 in
theorem tsince_call (hM : MeetOk) (z : List Zone) (known : List Stamp) (it : List Span) : ACalls Tryz.prog TzTab 137 [.iv (znI z), .iv (stI known), .iv (spI it)] (.iv (stI (sinceT z known it))) [] := by
  refine ACalls.ofS (n := 38) (rs := [.tmp 6]) Tryz.func137 rfl (by kernel_rfl) Tryz.ntmps137 (by kernel_rfl) (by simp) (fun _ _ => TzTab.later) ?_
  intro hok V w0
  refine g ?_
  repeat' (first | refine st_ rfl (g ?_) | refine hold_ (g ?_) | exact trivial | refine cond_d (fun h => g ?_) (fun h => g ?_) | refine cond_ (fun h => g ?_) (fun h => g ?_) | (refine hKD _ _ ⟨rfl, g ?_⟩; clear hKD KD) | ((first | refine vops_ifd rfl rfl (fun h e => ?_) (fun h e => ?_) | refine vdraw_ifd rfl rfl (fun h e => ?_) (fun h e => ?_)) <;> simp only [e] <;> clear e <;> refine g ?_) | ((first | refine vops_if rfl rfl (fun h => ?_) (fun h => ?_) | refine vdraw_if rfl rfl (fun h => ?_) (fun h => ?_)) <;> simp only [h] <;> refine g ?_) | refine ix_ (by omega) (g ?_) | refine call_ (zformed_call _) rfl (g ?_) | refine call_ (vformed_call _) rfl (g ?_) | refine call_ (pieces_call _ _) rfl (g ?_))
  · rw [sinceT, if_neg (by rintro ⟨a1, a2⟩; simp [a1] at h)]; exact nil_sub 2
  · rw [sinceT, if_neg (by rintro ⟨a1, a2⟩; simp [a2] at h)]; exact nil_sub 2
  rename_i h1
  have h2 := h
  have hF : zonesFormed z = true := by simpa using h1
  have hlen : z.length ≤ 256 := by
    have : (z.length : Int) ≤ 255 - -1 := zones_len hF (by decide)
    omega
  rw [sinceT, if_pos ⟨hF, by simpa using h2⟩]
  refine AW.freeze 600 _ rfl ⟨trivial, trivial⟩ ?_
  simp only [go_sem, reduceIte, Nat.reduceEqDiff]
  refine AW.adoptB 800 9900 24 1 rfl rfl ?_
  refine AW.le (S := ⟨[(7, .bp 800 0), (1, .iv (stI known)), (5, .ip [spI it]), (19, .fn 234 [.ip [znI z], .ip [stI known]])], [.row 9900 24 1 ((reachT it []).map fun l => [stI l]), .box 800 [.own 9900]]⟩) (ρ := id) ⟨⟨rfl, rfl, rfl, rfl, trivial⟩, ⟨rfl, rfl, trivial⟩, by simp [idsOf, BA.id]⟩ ?_
  refine AW.range (pieces_iter z known hF) [(7, .bp 800 0)] [(1, .iv (stI known)), (5, .ip [spI it]), (19, .fn 234 [.ip [znI z], .ip [stI known]])] (fun pre => [.row 9900 24 1 ((reachT it pre).map fun l => [stI l]), .box 800 [.own 9900]]) (fun _ => True) rfl trivial rfl rfl rfl rfl (fun x => ⟨rfl, rfl⟩) (fun c pre x hsp hI => ?_) (fun xs hS hI => ?_)
  · have hl := hsp.length_le
    have hl2 := pieces_len z known
    rw [List.length_append, List.length_singleton] at hl
    have hr : (reachT it pre).length ≤ pre.length := by unfold reachT; rw [List.length_map]; exact List.length_filter_le ..
    have hin := pieces_in hF (known := known) (by simpa using h2) x (hsp.subset (by simp))
    have hsn := reachT_snoc it pre x
    simp only [parF, enZo, zoA, List.cons_append, List.nil_append]
    refine g ?_
    refine g ?_
    repeat' (first | refine st_ rfl (g ?_) | refine hold_ (g ?_) | exact trivial | refine cond_ (fun h => g ?_) (fun h => g ?_) | (refine hKD _ _ ⟨rfl, g ?_⟩; clear hKD KD))
    have w1 : I64 x.span.lo := i64_litS (by simp; omega)
    have w2 : I64 x.span.hi := i64_litS (by simp; omega)
    refine bd1 (by omega) rfl rfl rfl ⟨w1, w2, trivial⟩ ?_
    refine g ?_
    repeat' (first | refine st_ rfl (g ?_) | refine hold_ (g ?_) | exact trivial | refine cond_ (fun h => g ?_) (fun h => g ?_) | (refine hKD _ _ ⟨rfl, g ?_⟩; clear hKD KD))
    refine call_ (stouch_call it [x.span]) rfl ?_
    cases hT : touchS it [x.span]
    · refine g ?_
      repeat' (first | refine st_ rfl (g ?_) | refine hold_ (g ?_) | exact trivial | refine cond_ (fun h => g ?_) (fun h => g ?_) | (refine hKD _ _ ⟨rfl, g ?_⟩; clear hKD KD))
      refine ⟨trivial, id, ⟨rfl, trivial⟩, ⟨?_, rfl, trivial⟩, by simp [idsOf, BA.id]⟩
      rw [hsn, hT, if_neg (by decide), List.append_nil]
      rfl
    · refine g ?_
      repeat' (first | refine st_ rfl (g ?_) | refine hold_ (g ?_) | exact trivial | refine cond_ (fun h => g ?_) (fun h => g ?_) | (refine hKD _ _ ⟨rfl, g ?_⟩; clear hKD KD))
      refine bs1 (by omega) rfl rfl rfl ⟨trivial, trivial⟩ ?_
      refine g ?_
      repeat' (first | refine st_ rfl (g ?_) | refine hold_ (g ?_) | exact trivial | refine cond_ (fun h => g ?_) (fun h => g ?_) | (refine hKD _ _ ⟨rfl, g ?_⟩; clear hKD KD))
      refine append_own rfl (by kernel_rfl) (by omega) (by kernel_rfl) rfl (by simp; omega) ?_
      refine g ?_
      repeat' (first | refine st_ rfl (g ?_) | refine hold_ (g ?_) | exact trivial | refine cond_ (fun h => g ?_) (fun h => g ?_) | (refine hKD _ _ ⟨rfl, g ?_⟩; clear hKD KD))
      refine ⟨trivial, fun b => if b = 9900 then 3100 else b, ⟨rfl, trivial⟩, ⟨?_, rfl, trivial⟩, by simp [idsOf, BA.id]⟩
      rw [hsn, hT, if_pos rfl, List.map_append]
      rfl
  · subst hS
    have hin := pieces_in hF (known := known) (by simpa using h2)
    obtain ⟨R, hR⟩ : ∃ R, reachT it (piecesZ z known) = R := ⟨_, rfl⟩
    have hRv : ∀ l ∈ R, vecFormed l = true := fun l hl => by
      rw [← hR] at hl
      unfold reachT at hl
      obtain ⟨x, hx, rfl⟩ := List.mem_map.1 hl
      exact (hin x (List.mem_filter.1 hx).1).2
    rw [hR]
    refine g ?_
    refine AW.freeze 9900 _ rfl trivial ?_
    simp only [go_sem, reduceIte, Nat.reduceEqDiff]
    refine AW.freeze 800 _ rfl ⟨trivial, trivial⟩ ?_
    simp only [go_sem, reduceIte, Nat.reduceEqDiff]
    refine g ?_
    repeat' (first | refine st_ rfl (g ?_) | refine hold_ (g ?_) | exact trivial | refine cond_d (fun h => g ?_) (fun h => g ?_) | refine cond_ (fun h => g ?_) (fun h => g ?_) | (refine hKD _ _ ⟨rfl, g ?_⟩; clear hKD KD) | ((first | refine vops_ifd rfl rfl (fun h e => ?_) (fun h e => ?_) | refine vdraw_ifd rfl rfl (fun h e => ?_) (fun h e => ?_)) <;> simp only [e] <;> clear e <;> refine g ?_) | ((first | refine vops_if rfl rfl (fun h => ?_) (fun h => ?_) | refine vdraw_if rfl rfl (fun h => ?_) (fun h => ?_)) <;> simp only [h] <;> refine g ?_) | refine ix_ (by omega) (g ?_) | refine call_ (clonestD _) rfl (g ?_) | refine call_ (hM _ hRv) rfl (g ?_))
    · rw [if_pos (by omega)]; exact Sub1.rfl_ _
    · rw [if_neg (by omega)]; exact Sub1.rfl_ _
end Go.Proofs.YtaiekfeiaamemaaGreatDoor
/- The pieces' reaches are the objects' reaches. -/
namespace Go.Proofs.YtaiekfeiaamemaaGreatDoor
theorem zones_pair : ∀ {l : List Zone} {p : Option Zone}, zonesFrom p l = true → l.Pairwise (fun x y => x.span.hi < y.span.lo) ∧ ∀ x ∈ l, zoneEnd p < x.span.lo ∧ x.span.lo ≤ x.span.hi
  | [], _, _ => ⟨.nil, fun x hx => by simp at hx⟩
  | x :: l, p, h => by
    simp only [zonesFrom, zoneNext, zoneOk, Bool.and_eq_true, decide_eq_true_eq] at h
    obtain ⟨⟨⟨h1, _⟩, ⟨h2, h3⟩, _⟩, h4⟩ := h
    obtain ⟨g1, g2⟩ := zones_pair h4
    have g3 : ∀ y ∈ l, x.span.hi < y.span.lo := fun y hy => (g2 y hy).1
    refine ⟨.cons g3 g1, fun y hy => ?_⟩
    rcases List.mem_cons.1 hy with rfl | hy
    · exact ⟨h1, h2⟩
    · have := g3 y hy
      have := (g2 y hy).2
      omega
theorem zone_lt {z : List Zone} (hF : zonesFormed z = true) {i j : Nat} (h : i < j) (hj : j < z.length) : z[i].span.hi < z[j].span.lo := List.pairwise_iff_getElem.1 (zones_pair hF).1 i j (by omega) hj h
theorem zone_le {z : List Zone} (hF : zonesFormed z = true) {i : Nat} (hi : i < z.length) : -1 < z[i].span.lo ∧ z[i].span.lo ≤ z[i].span.hi := (zones_pair hF).2 z[i] (List.getElem_mem hi)
theorem end_at' {l : List Zone} {m : Nat} (h0 : 0 < m) (h : m - 1 < l.length) : zoneEnd (l.take m).getLast? = l[m - 1].span.hi := by
  rw [take_last' h0 h]; rfl
theorem end_ge {z : List Zone} (hF : zonesFormed z = true) {i j : Nat} (hj : j < i) (hi : i ≤ z.length) : z[j].span.hi ≤ zoneEnd (z.take i).getLast? := by
  rw [end_at' (l := z) (m := i) (by omega) (by omega)]
  rcases Nat.lt_or_ge j (i - 1) with h | h
  · have := zone_lt hF h (by omega)
    have := zone_le hF (show i - 1 < z.length by omega)
    omega
  · obtain rfl : j = i - 1 := by omega
    exact Int.le_refl _
theorem no_below {z : List Zone} (hF : zonesFormed z = true) {i : Nat} (hi : i ≤ z.length) {o : Int} (ho : zoneEnd (z.take i).getLast? < o) : ∀ x ∈ z.take i, x.has o = false := fun x hx => by
  obtain ⟨j, hj, rfl⟩ := List.mem_take_iff_getElem.1 hx
  have := end_ge hF (show j < i by omega) hi
  simp [Zone.has]; omega
theorem end_lt {z : List Zone} (hF : zonesFormed z = true) {i : Nat} (hi : i < z.length) : zoneEnd (z.take i).getLast? < z[i].span.lo := by
  rcases Nat.eq_zero_or_pos i with rfl | h
  · exact (zone_le hF hi).1
  · rw [end_at' h (by omega)]
    exact zone_lt hF (by omega) hi
theorem reach_at {z : List Zone} (hF : zonesFormed z = true) (known : List Stamp) {i : Nat} (hi : i < z.length) {o : Int} (h : z[i].span.lo ≤ o ∧ o ≤ z[i].span.hi) : reachOf z known o = z[i].vec := by
  have := end_lt hF hi
  unfold reachOf
  rw [zoneAt_take (no_below hF (by omega) (by omega)) hi (by simp [Zone.has]; omega)]
theorem reach_gap {z : List Zone} (hF : zonesFormed z = true) (known : List Stamp) {i : Nat} (hi : i ≤ z.length) {o : Int} (h : zoneEnd (z.take i).getLast? < o) (h2 : ∀ hl : i < z.length, o < z[i].span.lo) : reachOf z known o = known := by
  unfold reachOf
  rw [zoneAt_none]
  intro x hx
  obtain ⟨k, hk, rfl⟩ := List.mem_iff_getElem.1 hx
  rcases Nat.lt_or_ge k i with h3 | h3
  · have := end_ge hF h3 hi
    simp [Zone.has]; omega
  · have h4 := h2 (by omega)
    have h5 : z[i].span.lo ≤ z[k].span.lo := by
      rcases Nat.eq_or_lt_of_le h3 with rfl | h6
      · exact Int.le_refl _
      · have := zone_lt hF h6 hk
        have := zone_le hF (show i < z.length by omega)
        omega
    simp [Zone.has]; omega
theorem piece_reach {z : List Zone} (hF : zonesFormed z = true) (known : List Stamp) : ∀ x ∈ piecesZ z known, ∀ o, x.span.lo ≤ o → o ≤ x.span.hi → reachOf z known o = x.vec := by
  have hu : ∀ i, i ≤ z.length → ∀ x ∈ uptoZ z known i, ∀ o, x.span.lo ≤ o → o ≤ x.span.hi → reachOf z known o = x.vec := by
    intro i
    induction i with
    | zero => intro _ x hx; simp [uptoZ] at hx
    | succ i ih =>
      intro hi x hx o h1 h2
      rw [upto_step (by omega), List.mem_append, List.mem_append, List.mem_singleton] at hx
      rcases hx with hx | hx | hx
      · exact ih (by omega) x hx o h1 h2
      · unfold gapZ at hx
        split at hx
        · rw [List.mem_singleton] at hx
          rw [hx] at h1 h2 ⊢
          simp only at h1 h2 ⊢
          exact reach_gap hF known (i := i) (by omega) (by omega) fun _ => by omega
        · simp at hx
      · rw [hx] at h1 h2 ⊢
        exact reach_at hF known (by omega) ⟨h1, h2⟩
  intro x hx o h1 h2
  rw [piecesZ, List.mem_append] at hx
  rcases hx with hx | hx
  · exact hu _ (Nat.le_refl _) x hx o h1 h2
  · unfold tailZ at hx
    split at hx
    · rw [List.mem_singleton] at hx
      subst hx
      simp only at h1 h2 ⊢
      refine reach_gap hF known (i := z.length) (Nat.le_refl _) ?_ fun hl => absurd hl (Nat.lt_irrefl _)
      rw [List.take_length]; omega
    · simp at hx
theorem piece_of {z : List Zone} (hF : zonesFormed z = true) (known : List Stamp) {o : Int} (h0 : 0 ≤ o) (h1 : o ≤ 255) : ∃ x ∈ piecesZ z known, x.span.lo ≤ o ∧ o ≤ x.span.hi := by
  obtain ⟨i, hi⟩ : ∃ i, z.findIdx (fun x => decide (o ≤ x.span.hi)) = i := ⟨_, rfl⟩
  have hil : i ≤ z.length := hi ▸ List.findIdx_le_length
  have hlow : zoneEnd (z.take i).getLast? < o := by
    rcases Nat.eq_zero_or_pos i with rfl | h
    · show (-1 : Int) < o; omega
    · rw [end_at' (l := z) (m := i) h (by omega)]
      have := List.not_of_lt_findIdx (p := fun x : Zone => decide (o ≤ x.span.hi)) (xs := z) (i := i - 1) (by rw [hi]; omega)
      simp at this
      exact this
  rcases Nat.lt_or_ge i z.length with h | h
  · have h3 : o ≤ z[i].span.hi := by
      have := List.findIdx_getElem (p := fun x : Zone => decide (o ≤ x.span.hi)) (xs := z) (w := by rw [hi]; exact h)
      simp only [hi] at this
      simpa using this
    have hs := upto_all (known := known) (show i + 1 ≤ z.length from h)
    rw [upto_step h] at hs
    rcases Int.lt_or_le o z[i].span.lo with h4 | h4
    · refine ⟨⟨⟨zoneEnd (z.take i).getLast? + 1, z[i].span.lo - 1⟩, known⟩, hs.subset ?_, by show zoneEnd _ + 1 ≤ o; omega, by show o ≤ z[i].span.lo - 1; omega⟩
      rw [gapZ, if_pos (by omega)]
      simp
    · exact ⟨z[i], hs.subset (by simp), h4, h3⟩
  · obtain rfl : i = z.length := by omega
    rw [List.take_length] at hlow
    refine ⟨⟨⟨zoneEnd z.getLast? + 1, 255⟩, known⟩, ?_, by show zoneEnd _ + 1 ≤ o; omega, h1⟩
    rw [piecesZ, tailZ, if_pos (by omega)]
    simp
end Go.Proofs.YtaiekfeiaamemaaGreatDoor
/- Up to where an interest is known: the program's and the reference's are one. -/
namespace Go.Proofs.YtaiekfeiaamemaaGreatDoor
theorem touch_iff (a b : List Span) : touchS a b = true ↔ ∃ o : Nat, o < 256 ∧ memB a o = true ∧ memB b o = true := by
  rw [touchS, decide_eq_true_eq]
  constructor
  · intro hp
    obtain ⟨x, hx⟩ : ∃ x, x ∈ meetS2 a b := by
      cases hc : meetS2 a b with
      | nil => rw [hc] at hp; simp at hp
      | cons x l => exact ⟨x, by simp⟩
    have hf := (formed_all (ofSet_formed _) x hx).2
    obtain ⟨o, ho⟩ : ∃ o : Nat, (o : Int) = x.lo := ⟨x.lo.toNat, by omega⟩
    have ho' : o < 256 := by omega
    have m3 : memB (meetS2 a b) o = true := by
      rw [memB, List.any_eq_true]
      exact ⟨x, hx, by simp; omega⟩
    unfold meetS2 at m3
    rw [memB_ofSet _ ho', Bool.and_eq_true] at m3
    exact ⟨o, ho', m3⟩
  · rintro ⟨o, ho, h1, h2⟩
    have m3 : memB (meetS2 a b) o = true := by
      unfold meetS2
      rw [memB_ofSet _ ho, h1, h2]; rfl
    cases hc : meetS2 a b with
    | nil => rw [hc] at m3; simp [memB] at m3
    | cons x l => simp
theorem fold_min (n : Nat) : ∀ (l : List (List Stamp)) (x : Int), l.foldl (fun a m => min a (countOf m n)) x ≤ x ∧ (∀ m ∈ l, l.foldl (fun a m => min a (countOf m n)) x ≤ countOf m n) ∧ (l.foldl (fun a m => min a (countOf m n)) x = x ∨ ∃ m ∈ l, l.foldl (fun a m => min a (countOf m n)) x = countOf m n)
  | [], x => ⟨Int.le_refl _, fun m hm => by simp at hm, .inl rfl⟩
  | y :: l, x => by
    obtain ⟨h1, h2, h3⟩ := fold_min n l (min x (countOf y n))
    rw [List.foldl_cons]
    refine ⟨by omega, fun m hm => ?_, ?_⟩
    · rcases List.mem_cons.1 hm with rfl | hm
      · omega
      · exact h2 m hm
    · rcases h3 with h3 | ⟨m, hm, h3⟩
      · rcases Int.le_total x (countOf y n) with h4 | h4
        · exact .inl (by omega)
        · exact .inr ⟨y, by simp, by omega⟩
      · exact .inr ⟨m, List.mem_cons_of_mem _ hm, h3⟩
theorem meet_le {ls : List (List Stamp)} (n : Nat) : (∀ m ∈ ls, meetC ls n ≤ countOf m n) ∧ (ls ≠ [] → ∃ m ∈ ls, meetC ls n = countOf m n) := by
  cases ls with
  | nil => exact ⟨fun m hm => by simp at hm, fun h => absurd rfl h⟩
  | cons a l =>
    obtain ⟨h1, h2, h3⟩ := fold_min n l (countOf a n)
    refine ⟨fun m hm => ?_, fun _ => ?_⟩
    · rcases List.mem_cons.1 hm with rfl | hm
      · exact h1
      · exact h2 m hm
    · rcases h3 with h3 | ⟨m, hm, h3⟩
      · exact ⟨a, by simp, h3⟩
      · exact ⟨m, List.mem_cons_of_mem _ hm, h3⟩
theorem meetS_set {ls ms : List (List Stamp)} (h : ∀ x, x ∈ ls ↔ x ∈ ms) : meetS ls = meetS ms := by
  unfold meetS
  congr 1
  funext n
  obtain ⟨a1, a2⟩ := meet_le (ls := ls) n
  obtain ⟨b1, b2⟩ := meet_le (ls := ms) n
  by_cases hl : ls = []
  · subst hl
    have : ms = [] := List.eq_nil_iff_forall_not_mem.2 fun x hx => by simpa using (h x).2 hx
    rw [this]
  · have hm : ms ≠ [] := fun e => hl (List.eq_nil_iff_forall_not_mem.2 fun x hx => by simpa [e] using (h x).1 hx)
    obtain ⟨x, hx, e1⟩ := a2 hl
    obtain ⟨y, hy, e2⟩ := b2 hm
    have := a1 y ((h y).2 hy)
    have := b1 x ((h x).1 hx)
    omega
theorem rows_mem {z : List Zone} {known : List Stamp} {it : List Span} {v : List Stamp} : ∀ {m : Nat}, v ∈ sinceRows z known it m ↔ ∃ o : Nat, o < m ∧ memB it o = true ∧ v = reachS z known o
  | 0 => by simp [sinceRows]
  | m + 1 => by
    rw [sinceRows, List.mem_append, rows_mem]
    constructor
    · rintro (⟨o, h1, h2⟩ | h)
      · exact ⟨o, by omega, h2⟩
      · split at h
        · rename_i hb
          exact ⟨m, by omega, hb, List.mem_singleton.1 h⟩
        · simp at h
    · rintro ⟨o, h1, h2, h3⟩
      rcases Nat.lt_or_ge o m with h4 | h4
      · exact .inl ⟨o, h4, h2, h3⟩
      · obtain rfl : o = m := by omega
        right
        rw [if_pos h2, h3]
        simp
theorem since_set {z : List Zone} {known : List Stamp} (it : List Span) (hF : zonesFormed z = true) (hk : vecFormed known = true) (v : List Stamp) : v ∈ reachT it (piecesZ z known) ↔ v ∈ sinceRows z known it 256 := by
  have hr : ∀ o : Nat, o < 256 → reachS z known o = reachOf z known o := fun o ho => by
    unfold reachS
    rw [if_pos ⟨hF, hk, by omega, by omega⟩]
  rw [rows_mem]
  unfold reachT
  rw [List.mem_map]
  constructor
  · rintro ⟨x, hx, rfl⟩
    obtain ⟨hx, ht⟩ := List.mem_filter.1 hx
    obtain ⟨o, ho, m1, m2⟩ := (touch_iff _ _).1 ht
    simp [memB] at m2
    exact ⟨o, ho, m1, by rw [hr o ho, piece_reach hF known x hx o m2.1 m2.2]⟩
  · rintro ⟨o, ho, m1, rfl⟩
    obtain ⟨x, hx, h1, h2⟩ := piece_of hF known (o := (o : Int)) (by omega) (by omega)
    refine ⟨x, List.mem_filter.2 ⟨hx, (touch_iff _ _).2 ⟨o, ho, m1, ?_⟩⟩, ?_⟩
    · simp [memB]; omega
    · rw [hr o ho, piece_reach hF known x hx o h1 h2]
theorem since_same (z : List Zone) (known : List Stamp) (it : List Span) : sinceT z known it = sinceS z known it := by
  unfold sinceT sinceS
  by_cases h : zonesFormed z = true ∧ vecFormed known = true
  · rw [if_pos h, if_pos h]
    have hs := since_set (z := z) (known := known) it h.1 h.2
    by_cases he : reachT it (piecesZ z known) = []
    · have h2 : sinceRows z known it 256 = [] := List.eq_nil_iff_forall_not_mem.2 fun x hx => by simpa [he] using (hs x).2 hx
      rw [he, h2]
    · have h2 : sinceRows z known it 256 ≠ [] := fun e => he (List.eq_nil_iff_forall_not_mem.2 fun x hx => by simpa [e] using (hs x).1 hx)
      rw [if_neg (fun e => he (List.length_eq_zero_iff.1 e)), if_neg (fun e => h2 (List.length_eq_zero_iff.1 e)), meetS_set hs]
  · rw [if_neg h, if_neg h]
end Go.Proofs.YtaiekfeiaamemaaGreatDoor
/- Whether a view is formed (the program's), where its caches are checked as the reference checks them. -/
namespace Go.Proofs.YtaiekfeiaamemaaGreatDoor
open Go.ChangeShapes Go.WideShapes Go.ChangeAt Go.RowKit
attribute [local irreducible] AW AWY vops vopsY vop vopL vdraw callW qop binQ lenQ storeQ appendQ callQ ACalls AIter setI
attribute [local go_sem] enB_eq boI_eq boA_eq byI_eq enW_eq wrI_eq wA_eq enZ_eq znI_eq vwA_eq storeQ_bp storeQ_rp

set_option maxRecDepth 100000 in
set_option maxHeartbeats 1600000 in
theorem view_of (hc : ∀ (l : List Body) (room : Int), I64 room → ACalls Tryz.prog TzTab 111 [.iv (boI l), .val (.int .i64 room)] (.val (.bool (cacheFormed l room))) []) (v : View) (iR : I64 v.room) : ACalls Tryz.prog TzTab 33 [vwA v] (.val (.bool (viewFormed v))) [] := by
  refine ACalls.of (n := 62) (rs := [.cell 2 4]) Tryz.func33 rfl (by kernel_rfl) Tryz.ntmps33 (by kernel_rfl) (by simp) (fun _ _ => TzTab.later) ?_
  intro hok V w0
  have hz : v.zones.length ≤ 1073741824 := by simpa [znI] using hok.1.2.1.1
  obtain ⟨B, hB⟩ : ∃ B, viewFormed v = B := ⟨_, rfl⟩
  rw [hB]
  refine g ?_
  refine AW.seq ?_
  refine AW.reg rfl fun KK hKK => ?_
  refine g ?_
  repeat' (first | refine hold_ (g ?_) | (refine hKK _ (g ?_); clear hKK KK) | exact trivial)
  refine AW.freeze 200 _ rfl ⟨trivial, trivial, trivial, trivial, iR, trivial⟩ ?_
  simp only [go_sem, reduceIte, Nat.reduceEqDiff]
  refine g ?_
  repeat' (first | refine st_ rfl (g ?_) | refine hold_ (g ?_) | exact trivial | refine cond_d (fun h => g ?_) (fun h => g ?_) | refine cond_ (fun h => g ?_) (fun h => g ?_) | (refine hKD _ _ ⟨rfl, g ?_⟩; clear hKD KD) | ((first | refine vops_ifd rfl rfl (fun h e => ?_) (fun h e => ?_) | refine vdraw_ifd rfl rfl (fun h e => ?_) (fun h e => ?_)) <;> simp only [e] <;> clear e <;> refine g ?_) | ((first | refine vops_if rfl rfl (fun h => ?_) (fun h => ?_) | refine vdraw_if rfl rfl (fun h => ?_) (fun h => ?_)) <;> simp only [h] <;> refine g ?_) | refine ix_ (by omega) (g ?_) | refine call_ (vformed_call _) rfl (g ?_) | refine call_ (zformed_call _) rfl (g ?_) | refine call_ (shformed_call _) rfl (g ?_) | refine call_ (hc _ _ iR) rfl (g ?_))
  · rw [← hB]; simp at h; simp [viewFormed, partsB, h]
  · rw [← hB]; simp at h; simp [viewFormed, partsB, h]
  · rw [← hB]; simp at h; simp [viewFormed, partsB, h]
  · rw [← hB]; simp at h; simp [viewFormed, partsB, h]
  have hP : partsB v = true := by simp at *; simp [partsB, *]
  have hH : shelfFormed v.held = true := by simp only [partsB, Bool.and_eq_true] at hP; exact hP.1.2
  refine AW.loop (fun m : {m : Nat // m ≤ v.zones.length ∧ ∀ x ∈ v.zones.take m, decide (cmpV x.vec v.known = 1) = true} => ⟨[(1, .ip [stI v.known, znI v.zones, wrI v.held, boI v.bodies, .val (.int .i64 v.room)]), (2, .bp 300 0), (32, .iv (znI v.zones)), (33, .val (.int .i64 (v.zones.length : Nat))), (34, .val (.int .i64 (m.1 : Nat)))], [.box 300 [.val (.bool false)]]⟩) (fun m => v.zones.length - m.1) ⟨0, Nat.zero_le _, fun x hx => by simp at hx⟩ id ⟨⟨rfl, rfl, rfl, rfl, rfl, trivial⟩, ⟨rfl, trivial⟩, by simp [idsOf, BA.id]⟩ fun ⟨m, hm, ht⟩ => ?_
  refine g ?_
  repeat' (first | refine st_ rfl (g ?_) | refine hold_ (g ?_) | exact trivial | refine cond_d (fun h => g ?_) (fun h => g ?_) | refine cond_ (fun h => g ?_) (fun h => g ?_) | (refine hKD _ _ ⟨rfl, g ?_⟩; clear hKD KD) | ((first | refine vops_ifd rfl rfl (fun h e => ?_) (fun h e => ?_) | refine vdraw_ifd rfl rfl (fun h e => ?_) (fun h e => ?_)) <;> simp only [e] <;> clear e <;> refine g ?_) | ((first | refine vops_if rfl rfl (fun h => ?_) (fun h => ?_) | refine vdraw_if rfl rfl (fun h => ?_) (fun h => ?_)) <;> simp only [h] <;> refine g ?_) | refine ix_ (by omega) (g ?_) | refine call_ (vcompare_call _ _) rfl (g ?_) | refine call_ (shall_call _) rfl (g ?_))
  · have hlt : m < v.zones.length := by omega
    rw [← hB]; simp only [viewFormed]; rw [all_no (l := v.zones) (p := fun (x : Zone) => decide (cmpV x.vec v.known = 1)) hlt (by simpa using h)]; simp
  · exact ⟨⟨m + 1, by omega, all_step (by omega) ht (by simpa using h)⟩, id, ⟨⟨rfl, rfl, rfl, rfl, rfl, trivial⟩, ⟨rfl, trivial⟩, by simp [idsOf, BA.id]⟩, by show v.zones.length - (m + 1) < v.zones.length - m; omega⟩
  obtain rfl : m = v.zones.length := by omega
  rw [List.take_length] at ht
  have h1 : (v.zones.all fun x => decide (cmpV x.vec v.known = 1)) = true := List.all_eq_true.2 ht
  refine AW.le (S := ⟨[(2, .bp 300 0), (1, .ip [stI v.known, znI v.zones, wrI v.held, boI v.bodies, .val (.int .i64 v.room)]), (47, .fn 192 [.ip [wrI v.held]])], [.box 300 [.val (.bool false)]]⟩) (ρ := id) ⟨⟨rfl, rfl, rfl, trivial⟩, ⟨rfl, trivial⟩, by simp [idsOf, BA.id]⟩ ?_
  refine AW.range (shall_iter v.held hH) [(2, .bp 300 0)] [(1, .ip [stI v.known, znI v.zones, wrI v.held, boI v.bodies, .val (.int .i64 v.room)]), (47, .fn 192 [.ip [wrI v.held]])] (fun _ => [.box 300 [.val (.bool false)]]) (fun pre => ∀ w ∈ pre, reachedB v.zones v.known w = true) rfl (fun w hw => by cases hw) rfl rfl rfl rfl (fun x => ⟨rfl, rfl⟩) (fun k pre x hsp hI => ?_) (fun xs hS hI => ?_)
  · simp only [parF, enWo, List.cons_append, List.nil_append]
    refine g ?_
    refine g ?_
    repeat' (first | refine st_ rfl (g ?_) | refine hold_ (g ?_) | exact trivial | refine cond_d (fun h => g ?_) (fun h => g ?_) | refine cond_ (fun h => g ?_) (fun h => g ?_) | (refine hKD _ _ ⟨rfl, g ?_⟩; clear hKD KD) | ((first | refine vops_ifd rfl rfl (fun h e => ?_) (fun h e => ?_) | refine vdraw_ifd rfl rfl (fun h e => ?_) (fun h e => ?_)) <;> simp only [e] <;> clear e <;> refine g ?_) | ((first | refine vops_if rfl rfl (fun h => ?_) (fun h => ?_) | refine vdraw_if rfl rfl (fun h => ?_) (fun h => ?_)) <;> simp only [h] <;> refine g ?_) | refine ix_ (by omega) (g ?_) | refine call_ (reached_call _ _ x) rfl (g ?_))
    · refine ⟨id, [.box 300 [.val (.bool false)]], ⟨⟨rfl, trivial⟩, ⟨rfl, trivial⟩, by simp [idsOf, BA.id]⟩, ?_⟩
      refine g ?_
      repeat' (first | refine st_ rfl (g ?_) | refine hold_ (g ?_) | exact trivial | refine cond_d (fun h => g ?_) (fun h => g ?_) | refine cond_ (fun h => g ?_) (fun h => g ?_) | (refine hKD _ _ ⟨rfl, g ?_⟩; clear hKD KD) | ((first | refine vops_ifd rfl rfl (fun h e => ?_) (fun h e => ?_) | refine vdraw_ifd rfl rfl (fun h e => ?_) (fun h e => ?_)) <;> simp only [e] <;> clear e <;> refine g ?_) | ((first | refine vops_if rfl rfl (fun h => ?_) (fun h => ?_) | refine vdraw_if rfl rfl (fun h => ?_) (fun h => ?_)) <;> simp only [h] <;> refine g ?_) | refine ix_ (by omega) (g ?_))
      have hx : x ∈ v.held := hsp.subset (by simp)
      rw [← hB]
      simp only [viewFormed]
      rw [show (v.held.all fun w => reachedB v.zones v.known w) = false from List.all_eq_false.2 ⟨x, hx, by simpa using h⟩]
      simp
    · refine ⟨fun w hw => ?_, id, ⟨rfl, trivial⟩, ⟨rfl, trivial⟩, by simp [idsOf, BA.id]⟩
      rcases List.mem_append.1 hw with h3 | h3
      · exact hI w h3
      · rw [List.mem_singleton.1 h3]; simpa using h
  · obtain rfl : xs = v.held := hS
    have h2 : (v.held.all fun x => reachedB v.zones v.known x) = true := List.all_eq_true.2 hI
    refine g ?_
    repeat' (first | refine st_ rfl (g ?_) | refine hold_ (g ?_) | exact trivial | refine cond_d (fun h => g ?_) (fun h => g ?_) | refine cond_ (fun h => g ?_) (fun h => g ?_) | (refine hKD _ _ ⟨rfl, g ?_⟩; clear hKD KD) | ((first | refine vops_ifd rfl rfl (fun h e => ?_) (fun h e => ?_) | refine vdraw_ifd rfl rfl (fun h e => ?_) (fun h e => ?_)) <;> simp only [e] <;> clear e <;> refine g ?_) | ((first | refine vops_if rfl rfl (fun h => ?_) (fun h => ?_) | refine vdraw_if rfl rfl (fun h => ?_) (fun h => ?_)) <;> simp only [h] <;> refine g ?_) | refine ix_ (by omega) (g ?_) | refine call_ (hasfb_call _ _ _ _ (fun x => formed1_call v x hH)) rfl (g ?_))
    rw [← hB]
    simp only [viewFormed]
    rw [hP, h1, h2, List.not_any_eq_all_not]
    simp
end Go.Proofs.YtaiekfeiaamemaaGreatDoor
/- Up to where a view knows an interest sharply (the program's). -/
namespace Go.Proofs.YtaiekfeiaamemaaGreatDoor
open Go.ChangeShapes Go.WideShapes Go.ChangeAt Go.RowKit
attribute [local irreducible] AW AWY vops vopsY vop vopL vdraw callW qop binQ lenQ storeQ appendQ callQ ACalls AIter setI
attribute [local go_sem] vwA_eq storeQ_bp storeQ_rp
def sinceVT (v : View) (it : List Span) : List Stamp := if viewFormed v = true then sinceT v.zones v.known it else []
set_option maxRecDepth 100000 in
theorem vsince_call (hM : MeetOk) (v : View) (it : List Span) (hV : ACalls Tryz.prog TzTab 33 [vwA v] (.val (.bool (viewFormed v))) []) : ACalls Tryz.prog TzTab 52 [vwA v, .iv (spI it)] (.iv (stI (sinceVT v it))) [] := by
  refine ACalls.ofS (n := 14) (rs := [.tmp 4]) Tryz.func52 rfl (by kernel_rfl) Tryz.ntmps52 (by kernel_rfl) (by simp) (fun _ _ => TzTab.later) ?_
  intro hok V w0
  refine g ?_
  repeat' (first | refine st_ rfl (g ?_) | refine hold_ (g ?_) | exact trivial | refine cond_d (fun h => g ?_) (fun h => g ?_) | refine cond_ (fun h => g ?_) (fun h => g ?_) | (refine hKD _ _ ⟨rfl, g ?_⟩; clear hKD KD) | ((first | refine vops_ifd rfl rfl (fun h e => ?_) (fun h e => ?_) | refine vdraw_ifd rfl rfl (fun h e => ?_) (fun h e => ?_)) <;> simp only [e] <;> clear e <;> refine g ?_) | ((first | refine vops_if rfl rfl (fun h => ?_) (fun h => ?_) | refine vdraw_if rfl rfl (fun h => ?_) (fun h => ?_)) <;> simp only [h] <;> refine g ?_) | refine ix_ (by omega) (g ?_) | refine call_ (hV) rfl (g ?_) | refine call_ (tsince_call hM _ _ _) rfl (g ?_))
  · rw [sinceVT, if_neg (by simpa using h)]; exact nil_sub 2
  · rw [sinceVT, if_pos (by simpa using h)]; exact Sub1.rfl_ _
end Go.Proofs.YtaiekfeiaamemaaGreatDoor
/- Subscriptions as trees; one's own copy of them (the reference's). -/
namespace Go.Proofs.YtaiekfeiaamemaaGreatDoor
open Go.ChangeShapes Go.WideShapes Go.ChangeAt Go.RowKit
attribute [local irreducible] AW AWY vops vopsY vop vopL vdraw callW qop binQ lenQ storeQ appendQ callQ ACalls AIter setI
attribute [local go_sem] storeQ_bp storeQ_rp
def enSub (s : Sub) : List IV := [.val (.int .i64 s.from_), spI s.interest, .val (.int .i64 s.session), .val (.int .i64 s.seq), .val (.bool s.live), .val (.bool s.heard), .val (.bool s.idle)]
def subI (l : List Sub) : IV := .sl 7 (l.map enSub)
theorem enSub_eq (s : Sub) : enSub s = [.val (.int .i64 s.from_), spI s.interest, .val (.int .i64 s.session), .val (.int .i64 s.seq), .val (.bool s.live), .val (.bool s.heard), .val (.bool s.idle)] := rfl
theorem subI_eq (l : List Sub) : subI l = .sl 7 (l.map enSub) := rfl
attribute [local go_sem] enSub_eq subI_eq
set_option maxRecDepth 100000 in
theorem rown_call (l : List Sub) : ACalls Tryz.prog TzTab 16 [.iv (subI l)] (.iv (subI l)) [] := by
  refine ACalls.of (n := 25) (rs := [.tmp 2]) Tryz.func16 rfl (by kernel_rfl) Tryz.ntmps16 (by kernel_rfl) (by simp) (fun _ _ => TzTab.later) ?_
  intro hok V w0
  have hlen : l.length ≤ 1073741824 := by simpa [subI] using hok.1.1
  refine g ?_
  repeat' (first | refine st_ rfl (g ?_) | refine hold_ (g ?_) | exact trivial | refine cond_d (fun h => g ?_) (fun h => g ?_) | refine cond_ (fun h => g ?_) (fun h => g ?_) | (refine hKD _ _ ⟨rfl, g ?_⟩; clear hKD KD) | ((first | refine vops_ifd rfl rfl (fun h e => ?_) (fun h e => ?_) | refine vdraw_ifd rfl rfl (fun h e => ?_) (fun h e => ?_)) <;> simp only [e] <;> clear e <;> refine g ?_) | ((first | refine vops_if rfl rfl (fun h => ?_) (fun h => ?_) | refine vdraw_if rfl rfl (fun h => ?_) (fun h => ?_)) <;> simp only [h] <;> refine g ?_) | refine ix_ (by omega) (g ?_))
  refine AW.adopt 3 9900 123 7 rfl rfl ?_
  refine AW.loop (fun i : {i : Nat // i ≤ l.length} => ⟨[(0, .iv (subI l)), (3, .own 9900), (4, .val (.int .i64 (i.1 : Nat)))], [.row 9900 123 7 ((l.take i.1).map enSub)]⟩) (fun i => l.length - i.1) ⟨0, Nat.zero_le _⟩ id ⟨⟨rfl, rfl, rfl, trivial⟩, ⟨rfl, trivial⟩, by simp [idsOf, BA.id]⟩ fun ⟨i, hi⟩ => ?_
  repeat (refine AW.seq ?_)
  refine AW.reg rfl fun KK hKK => ?_
  refine g ?_
  repeat' (first | refine hold_ (g ?_) | (refine hKK _ (g ?_); clear hKK KK) | exact trivial)
  repeat (refine AW.seq ?_)
  refine st_ rfl ?_
  refine g ?_
  refine cond_ (fun h => ?_) (fun h => ?_)
  · have hlt : i < l.length := by have := of_decide_eq_true h; omega
    obtain ⟨-, o1, o2, o3, o4, o5, o6, o7, -⟩ := okR_mem (by simpa [subI] using hok.1.2) (enSub l[i]) (List.mem_map_of_mem (List.getElem_mem hlt))
    refine g ?_
    repeat' (first | refine st_ rfl (g ?_) | refine hold_ (g ?_) | exact trivial | refine cond_ (fun h => g ?_) (fun h => g ?_) | (refine hKD _ _ ⟨rfl, g ?_⟩; clear hKD KD))
    refine ⟨by omega, _, get_map (List.getElem?_eq_getElem hlt), ?_⟩
    refine g ?_
    repeat' (first | refine st_ rfl (g ?_) | refine hold_ (g ?_) | exact trivial | refine cond_ (fun h => g ?_) (fun h => g ?_) | (refine hKD _ _ ⟨rfl, g ?_⟩; clear hKD KD))
    refine call_ (rscopyD _) rfl ?_
    refine g ?_
    repeat' (first | refine st_ rfl (g ?_) | refine hold_ (g ?_) | exact trivial | refine cond_ (fun h => g ?_) (fun h => g ?_) | (refine hKD _ _ ⟨rfl, g ?_⟩; clear hKD KD))
    refine bs1 (by omega) rfl rfl rfl ⟨o1, trivial, o3, o4, trivial, trivial, trivial, trivial⟩ ?_
    refine g ?_
    repeat' (first | refine st_ rfl (g ?_) | refine hold_ (g ?_) | exact trivial | refine cond_ (fun h => g ?_) (fun h => g ?_) | (refine hKD _ _ ⟨rfl, g ?_⟩; clear hKD KD))
    refine append_own rfl (by kernel_rfl) (by omega) (by kernel_rfl) rfl (by simp; omega) ?_
    refine g ?_
    repeat' (first | refine st_ rfl (g ?_) | refine hold_ (g ?_) | exact trivial | refine cond_ (fun h => g ?_) (fun h => g ?_) | (refine hKD _ _ ⟨rfl, g ?_⟩; clear hKD KD))
    refine ⟨⟨i + 1, hlt⟩, fun b => if b = 9900 then 2400 else b, ⟨⟨rfl, rfl, rfl, trivial⟩, ⟨?_, trivial⟩, by simp [idsOf, BA.id]⟩, by show l.length - (i + 1) < l.length - i; omega⟩
    show some (BA.row _ _ _ _) = some (BA.row _ _ _ ((l.take (i + 1)).map enSub))
    rw [List.take_succ_eq_append_getElem hlt, List.map_append]
    rfl
  · obtain rfl : i = l.length := by have := of_decide_eq_false h; omega
    refine AW.freeze 9900 _ rfl trivial ?_
    simp only [go_sem, reduceIte, Nat.reduceEqDiff]
    rw [List.take_length]
    refine g ?_
    repeat' (first | refine st_ rfl (g ?_) | refine hold_ (g ?_) | exact trivial | refine cond_d (fun h => g ?_) (fun h => g ?_) | refine cond_ (fun h => g ?_) (fun h => g ?_) | (refine hKD _ _ ⟨rfl, g ?_⟩; clear hKD KD) | ((first | refine vops_ifd rfl rfl (fun h e => ?_) (fun h e => ?_) | refine vdraw_ifd rfl rfl (fun h e => ?_) (fun h e => ?_)) <;> simp only [e] <;> clear e <;> refine g ?_) | ((first | refine vops_if rfl rfl (fun h => ?_) (fun h => ?_) | refine vdraw_if rfl rfl (fun h => ?_) (fun h => ?_)) <;> simp only [h] <;> refine g ?_) | refine ix_ (by omega) (g ?_))
end Go.Proofs.YtaiekfeiaamemaaGreatDoor
/- Whether two rows of subscriptions are the same (the reference's). -/
namespace Go.Proofs.YtaiekfeiaamemaaGreatDoor
open Go.ChangeShapes Go.WideShapes Go.ChangeAt Go.RowKit
attribute [local irreducible] AW AWY vops vopsY vop vopL vdraw callW qop binQ lenQ storeQ appendQ callQ ACalls AIter setI
attribute [local go_sem] enSub_eq subI_eq storeQ_bp storeQ_rp
theorem sub_ext : ∀ (x y : Sub), x.from_ = y.from_ → x.interest = y.interest → x.session = y.session → x.seq = y.seq → x.live = y.live → x.heard = y.heard → x.idle = y.idle → x = y
  | ⟨_, _, _, _, _, _, _⟩, ⟨_, _, _, _, _, _, _⟩, rfl, rfl, rfl, rfl, rfl, rfl, rfl => rfl
theorem exR {A K : Value → Prop} (r : Value) (hA : A r) (hk : K r) : ∃ r, A r ∧ Hold (K r) := ⟨r, hA, hold_ hk⟩
set_option maxRecDepth 100000 in
set_option maxHeartbeats 1600000 in
theorem rsubs_call (l m : List Sub) : ACalls Tryz.prog TzTab 19 [.iv (subI l), .iv (subI m)] (.val (.bool (decide (l = m)))) [] := by
  refine ACalls.of (n := 75) (rs := [.tmp 4]) Tryz.func19 rfl (by kernel_rfl) Tryz.ntmps19 (by kernel_rfl) (by simp) (fun _ _ => TzTab.later) ?_
  intro hok V w0
  have hlen : l.length ≤ 1073741824 := by simpa [subI] using hok.1.1
  obtain ⟨B, hB⟩ : ∃ B, decide (l = m) = B := ⟨_, rfl⟩
  rw [hB]
  refine g ?_
  repeat' (first | refine st_ rfl (g ?_) | refine hold_ (g ?_) | exact trivial | refine cond_d (fun h => g ?_) (fun h => g ?_) | refine cond_ (fun h => g ?_) (fun h => g ?_) | (refine hKD _ _ ⟨rfl, g ?_⟩; clear hKD KD) | ((first | refine vops_ifd rfl rfl (fun h e => ?_) (fun h e => ?_) | refine vdraw_ifd rfl rfl (fun h e => ?_) (fun h e => ?_)) <;> simp only [e] <;> clear e <;> refine g ?_) | ((first | refine vops_if rfl rfl (fun h => ?_) (fun h => ?_) | refine vdraw_if rfl rfl (fun h => ?_) (fun h => ?_)) <;> simp only [h] <;> refine g ?_) | refine ix_ (by omega) (g ?_))
  · rw [← hB, decide_eq_false]
    rintro rfl
    exact h rfl
  have hlm : l.length = m.length := by omega
  refine AW.loop (fun i : {i : Nat // i ≤ l.length ∧ l.take i = m.take i} => ⟨[(0, .iv (subI l)), (1, .iv (subI m)), (5, .val (.int .i64 (i.1 : Nat)))], []⟩) (fun i => l.length - i.1) ⟨0, Nat.zero_le _, rfl⟩ id ⟨⟨rfl, rfl, rfl, trivial⟩, trivial, List.nodup_nil⟩ fun ⟨i, hi, ht⟩ => ?_
  refine g ?_
  repeat' (first | refine st_ rfl (g ?_) | refine hold_ (g ?_) | exact trivial | refine cond_d (fun h => g ?_) (fun h => g ?_) | refine cond_ (fun h => g ?_) (fun h => g ?_) | (refine hKD _ _ ⟨rfl, g ?_⟩; clear hKD KD) | ((first | refine vops_ifd rfl rfl (fun h e => ?_) (fun h e => ?_) | refine vdraw_ifd rfl rfl (fun h e => ?_) (fun h e => ?_)) <;> simp only [e] <;> clear e <;> refine g ?_) | ((first | refine vops_if rfl rfl (fun h => ?_) (fun h => ?_) | refine vdraw_if rfl rfl (fun h => ?_) (fun h => ?_)) <;> simp only [h] <;> refine g ?_) | refine ix_ (by omega) (g ?_))
  · have hlt : i < l.length := by omega
    have hlt2 : i < m.length := by omega
    refine AW.drawn (ds := [19, 20, 21, 22, 23, 24, 25, 26, 6, 7]) (fin := [2, 3]) (bs := [0, 0, 0, 0, 0, 0, 0, 0, 0, 1, 2, 3]) [⟨[], [], [], [], 0⟩, ⟨[], [], [], [], 0⟩, ⟨[(19, 0), (20, 1)], [], [], [], 0⟩, ⟨[(21, 2)], [], [], [], 0⟩, ⟨[], [], [], [], 0⟩, ⟨[], [], [], [], 0⟩, ⟨[(23, 4), (24, 5)], [], [], [], 0⟩, ⟨[(25, 6)], [], [], [], 0⟩, ⟨[], [], [], [], 1⟩, ⟨[], [], [], [], 1⟩, ⟨[(6, 8), (22, 3)], [], [], [0], 1⟩, ⟨[(7, 9), (26, 7)], [], [], [1], 1⟩] (by kernel_rfl) rfl (by kernel_rfl) rfl rfl rfl fun KD hKD => ?_
    refine g ?_
    repeat' (first | refine st_ rfl (g ?_) | refine hold_ (g ?_) | exact trivial | refine cond_d (fun h => g ?_) (fun h => g ?_) | refine cond_ (fun h => g ?_) (fun h => g ?_) | (refine hKD _ _ ⟨rfl, g ?_⟩; clear hKD KD) | ((first | refine vops_ifd rfl rfl (fun h e => ?_) (fun h e => ?_) | refine vdraw_ifd rfl rfl (fun h e => ?_) (fun h e => ?_)) <;> simp only [e] <;> clear e <;> refine g ?_) | ((first | refine vops_if rfl rfl (fun h => ?_) (fun h => ?_) | refine vdraw_if rfl rfl (fun h => ?_) (fun h => ?_)) <;> simp only [h] <;> refine g ?_) | refine ix_ (by omega) (g ?_) | refine call_ (rssame_call _ _) rfl (g ?_) | ((refine exR (.bool (l[i].live != m[i].live)) ?_ ?_; focus (intro w; generalize l[i].live = a; generalize m[i].live = b; cases a <;> cases b <;> rfl))) <;> refine g ?_ | ((refine exR (.bool (l[i].heard != m[i].heard)) ?_ ?_; focus (intro w; generalize l[i].heard = a; generalize m[i].heard = b; cases a <;> cases b <;> rfl))) <;> refine g ?_ | ((refine exR (.bool (l[i].idle != m[i].idle)) ?_ ?_; focus (intro w; generalize l[i].idle = a; generalize m[i].idle = b; cases a <;> cases b <;> rfl))) <;> refine g ?_)
    all_goals first
      | (rw [← hB]; refine (decide_eq_false ?_).symm; rintro rfl; simp at h; done)
      | (rw [← hB]; refine decide_eq_false ?_; rintro rfl; simp at h; done)
      | skip
    rename_i a1 a2 a3 a4 a5 a6
    have he : l[i] = m[i] := sub_ext _ _ (by simpa using a1) (by simpa using a2) (by simpa using a3) (by simpa using a4) (by simpa using a5) (by simpa using a6) (by simpa using h)
    refine ⟨⟨i + 1, hlt, by rw [List.take_succ_eq_append_getElem hlt, List.take_succ_eq_append_getElem hlt2, ht, he]⟩, id, ⟨⟨rfl, rfl, rfl, trivial⟩, trivial, List.nodup_nil⟩, by show l.length - (i + 1) < l.length - i; omega⟩
  · obtain rfl : i = l.length := by omega
    rw [List.take_length, hlm, List.take_length] at ht
    rw [← hB]
    exact (decide_eq_true ht).symm
end Go.Proofs.YtaiekfeiaamemaaGreatDoor
/- Whether bodies are as they must be (the program's): a set that is kept in a map. -/
namespace Go.Proofs.YtaiekfeiaamemaaGreatDoor
open Go.ChangeShapes Go.WideShapes Go.ChangeAt Go.RowKit
attribute [local irreducible] AW AWY vops vopsY vop vopL vdraw callW qop binQ lenQ storeQ appendQ callQ ACalls AIter setI
attribute [local go_sem] enB_eq boI_eq boA_eq byI_eq storeQ_bp storeQ_rp

set_option maxRecDepth 100000 in
theorem cformed_call (l : List Body) (room : Int) (iR : I64 room) : ACalls Tryz.prog TzTab 111 [.iv (boI l), .val (.int .i64 room)] (.val (.bool (cacheFormed l room))) [] := by
  refine ACalls.of (n := 43) (rs := [.tmp 4]) Tryz.func111 rfl (by kernel_rfl) Tryz.ntmps111 (by kernel_rfl) (by simp) (fun _ _ => TzTab.later) ?_
  intro hok V w0
  have hlen : l.length ≤ 1073741824 := by simpa [boI] using hok.1.1
  obtain ⟨B, hB⟩ : ∃ B, cacheFormed l room = B := ⟨_, rfl⟩
  rw [hB]
  unfold cacheFormed roomB at hB
  refine g ?_
  repeat' (first | refine st_ rfl (g ?_) | refine hold_ (g ?_) | exact trivial | refine cond_d (fun h => g ?_) (fun h => g ?_) | refine cond_ (fun h => g ?_) (fun h => g ?_) | (refine hKD _ _ ⟨rfl, g ?_⟩; clear hKD KD) | ((first | refine vops_ifd rfl rfl (fun h e => ?_) (fun h e => ?_) | refine vdraw_ifd rfl rfl (fun h e => ?_) (fun h e => ?_)) <;> simp only [e] <;> clear e <;> refine g ?_) | ((first | refine vops_if rfl rfl (fun h => ?_) (fun h => ?_) | refine vdraw_if rfl rfl (fun h => ?_) (fun h => ?_)) <;> simp only [h] <;> refine g ?_) | refine ix_ (by omega) (g ?_))
  · rw [← hB, decide_eq_false (p := 0 ≤ room) (by omega)]; rfl
  · rw [← hB, decide_eq_false (p := room ≤ 16777216) (by omega)]; simp
  · rw [← hB, decide_eq_false (p := l.length ≤ 256) (by omega)]; simp
  rw [decide_eq_true (p := 0 ≤ room) (by omega), decide_eq_true (p := room ≤ 16777216) (by omega), decide_eq_true (p := l.length ≤ 256) (by omega), Bool.true_and, Bool.true_and, Bool.true_and] at hB
  refine AW.loop (fun x : {x : Nat × List (Int × Value) // x.1 ≤ l.length ∧ onceB (l.take x.1) = true ∧ ∀ o, (kvGet x.2 o).getD (.bool false) = .bool (hasB (l.take x.1) o)} => ⟨[(0, .iv (boI l)), (1, .val (.int .i64 room)), (5, .mv 2000), (20, .iv (boI l)), (21, .val (.int .i64 (l.length : Nat))), (22, .val (.int .i64 (x.1.1 : Nat)))], [.mp 2000 .i64 x.1.2]⟩) (fun x => l.length - x.1.1) ⟨(0, []), Nat.zero_le _, rfl, fun o => rfl⟩ id ⟨⟨rfl, rfl, rfl, rfl, rfl, rfl, trivial⟩, ⟨rfl, trivial⟩, by simp [idsOf, BA.id]⟩ fun ⟨⟨m, kv⟩, hm, ht, hk⟩ => ?_
  simp only at hm ht hk
  refine g ?_
  repeat' (first | refine st_ rfl (g ?_) | refine hold_ (g ?_) | exact trivial | refine cond_d (fun h => g ?_) (fun h => g ?_) | refine cond_ (fun h => g ?_) (fun h => g ?_) | (refine hKD _ _ ⟨rfl, g ?_⟩; clear hKD KD) | ((first | refine vops_ifd rfl rfl (fun h e => ?_) (fun h e => ?_) | refine vdraw_ifd rfl rfl (fun h e => ?_) (fun h e => ?_)) <;> simp only [e] <;> clear e <;> refine g ?_) | ((first | refine vops_if rfl rfl (fun h => ?_) (fun h => ?_) | refine vdraw_if rfl rfl (fun h => ?_) (fun h => ?_)) <;> simp only [h] <;> refine g ?_) | refine ix_ (by omega) (g ?_) | refine call_ (bright_call _) rfl (g ?_))
  · have hlt : m < l.length := by omega
    refine ⟨.bool (hasB (l.take m) l[m].object), hk _, ?_⟩
    cases hh : hasB (l.take m) l[m].object
    · refine g ?_
      repeat' (first | refine st_ rfl (g ?_) | refine hold_ (g ?_) | exact trivial | refine cond_d (fun h => g ?_) (fun h => g ?_) | refine cond_ (fun h => g ?_) (fun h => g ?_) | (refine hKD _ _ ⟨rfl, g ?_⟩; clear hKD KD) | ((first | refine vops_ifd rfl rfl (fun h e => ?_) (fun h e => ?_) | refine vdraw_ifd rfl rfl (fun h e => ?_) (fun h e => ?_)) <;> simp only [e] <;> clear e <;> refine g ?_) | ((first | refine vops_if rfl rfl (fun h => ?_) (fun h => ?_) | refine vdraw_if rfl rfl (fun h => ?_) (fun h => ?_)) <;> simp only [h] <;> refine g ?_) | refine ix_ (by omega) (g ?_) | refine call_ (bright_call _) rfl (g ?_))
      · rw [← hB, once_no hlt ht (.inl (by simpa using h))]; rfl
      · have hr : rightBody l[m] = true := by simpa using h
        refine ⟨⟨(m + 1, _), hlt, by rw [once_step hlt ht, hr, hh]; rfl, fun o => ?_⟩, id, ⟨⟨rfl, rfl, rfl, rfl, rfl, rfl, trivial⟩, ⟨rfl, trivial⟩, by simp [idsOf, BA.id]⟩, by show l.length - (m + 1) < l.length - m; omega⟩
        rw [kvGet_put, hasB_snoc hlt]
        by_cases e : o = l[m].object
        · rw [if_pos e, e]; simp
        · rw [if_neg e, hk o, decide_eq_false (fun e' => e e'.symm), Bool.or_false]
    · refine g ?_
      repeat' (first | refine st_ rfl (g ?_) | refine hold_ (g ?_) | exact trivial | refine cond_d (fun h => g ?_) (fun h => g ?_) | refine cond_ (fun h => g ?_) (fun h => g ?_) | (refine hKD _ _ ⟨rfl, g ?_⟩; clear hKD KD) | ((first | refine vops_ifd rfl rfl (fun h e => ?_) (fun h e => ?_) | refine vdraw_ifd rfl rfl (fun h e => ?_) (fun h e => ?_)) <;> simp only [e] <;> clear e <;> refine g ?_) | ((first | refine vops_if rfl rfl (fun h => ?_) (fun h => ?_) | refine vdraw_if rfl rfl (fun h => ?_) (fun h => ?_)) <;> simp only [h] <;> refine g ?_) | refine ix_ (by omega) (g ?_))
      rw [← hB, once_no hlt ht (.inr hh)]; rfl
  · obtain rfl : m = l.length := by omega
    rw [List.take_length] at ht
    refine call_ (used_call l (by omega) fun x hx => (rightBody_in (once_right ht x hx)).2.2) rfl ?_
    refine g ?_
    repeat' (first | refine st_ rfl (g ?_) | refine hold_ (g ?_) | exact trivial | refine cond_d (fun h => g ?_) (fun h => g ?_) | refine cond_ (fun h => g ?_) (fun h => g ?_) | (refine hKD _ _ ⟨rfl, g ?_⟩; clear hKD KD) | ((first | refine vops_ifd rfl rfl (fun h e => ?_) (fun h e => ?_) | refine vdraw_ifd rfl rfl (fun h e => ?_) (fun h e => ?_)) <;> simp only [e] <;> clear e <;> refine g ?_) | ((first | refine vops_if rfl rfl (fun h => ?_) (fun h => ?_) | refine vdraw_if rfl rfl (fun h => ?_) (fun h => ?_)) <;> simp only [h] <;> refine g ?_) | refine ix_ (by omega) (g ?_))
    rw [← hB, ht]; rfl
end Go.Proofs.YtaiekfeiaamemaaGreatDoor
/- Counts as a vector (the program's), over abstract states. -/
namespace Go.Proofs.YtaiekfeiaamemaaGreatDoor
open Go.ChangeShapes Go.WideShapes Go.ChangeAt Go.RowKit
attribute [local irreducible] AW AWY vops vopsY vop vopL vdraw callW qop binQ lenQ storeQ appendQ callQ ACalls AIter cntI
attribute [local go_sem] storeQ_bp storeQ_rp

/-- the counts of the nodes that have one -/
def onBits (f : Nat → Int) (M n : Nat) : Int := if M.testBit n = true then f n else 0
theorem stampsOf_all {f : Nat → Int} {M : Nat} (hbit : ∀ n, n < 64 → M.testBit n = true → 0 < f n) {ys : List (Fin 64)} (hys : ys.map (·.1) = nodesOf M 64) : stampsOf f ys = vecOf (onBits f M) := by
  rw [vecOf, vecUpto_nodes (onBits f M) M 64 fun n hn => ?_, ← hys, List.map_map]
  · refine List.map_congr_left fun x hx => ?_
    have : x.1 ∈ nodesOf M 64 := by rw [← hys]; exact List.mem_map_of_mem hx
    rw [mem_nodesOf] at this
    show (⟨f x.1, _⟩ : Stamp) = ⟨onBits f M x.1, _⟩
    rw [onBits, if_pos this.2]
  · unfold onBits
    cases h : M.testBit n
    · simp
    · simpa using hbit n hn h
set_option maxRecDepth 100000 in
theorem list_call (f : Nat → Int) (M : Nat) (hM : M < 18446744073709551616) (hbit : ∀ n, n < 64 → M.testBit n = true → 0 < f n) (hf : ∀ n, n < 64 → I64 (f n)) : ACalls Tryz.prog TzTab 233 [.ip (cntI f M)] (.iv (stI (vecOf (onBits f M)))) [] := by
  refine ACalls.of (n := 17) (rs := [.tmp 2]) Tryz.func233 rfl (by kernel_rfl) Tryz.ntmps233 (by kernel_rfl) (by simp) (fun _ _ => TzTab.later) ?_
  intro hok V w0
  refine g ?_
  repeat' (first | refine st_ rfl (g ?_) | refine hold_ (g ?_) | exact trivial | refine cond_d (fun h => g ?_) (fun h => g ?_) | refine cond_ (fun h => g ?_) (fun h => g ?_) | (refine hKD _ _ ⟨rfl, g ?_⟩; clear hKD KD) | ((first | refine vops_ifd rfl rfl (fun h e => ?_) (fun h e => ?_) | refine vdraw_ifd rfl rfl (fun h e => ?_) (fun h e => ?_)) <;> simp only [e] <;> clear e <;> refine g ?_) | ((first | refine vops_if rfl rfl (fun h => ?_) (fun h => ?_) | refine vdraw_if rfl rfl (fun h => ?_) (fun h => ?_)) <;> simp only [h] <;> refine g ?_) | refine ix_ (by omega) (g ?_) | refine call_ (each_call _) rfl (g ?_))
  refine AW.adoptB 400 9900 63 2 rfl rfl ?_
  refine AW.le (S := ⟨[(3, .bp 400 0), (7, .fn 255 [.ip [.pt (cntI f M)]])], [.row 9900 63 2 ((stampsOf f []).map enSt), .box 400 [.own 9900]]⟩) (ρ := id) ⟨⟨rfl, rfl, trivial⟩, ⟨rfl, rfl, trivial⟩, by simp [idsOf, BA.id]⟩ ?_
  refine AW.range (each_iter f M hM) [(3, .bp 400 0)] [(7, .fn 255 [.ip [.pt (cntI f M)]])] (fun pre => [.row 9900 63 2 ((stampsOf f pre).map enSt), .box 400 [.own 9900]]) (fun _ => True) rfl trivial rfl rfl rfl rfl (fun x => ⟨rfl, rfl⟩) (fun c pre x hsp hI => ?_) (fun xs hS hI => ?_)
  · have hl := hsp.length_le
    have hl2 := nodesOf_length M 64
    rw [List.length_map, List.length_append, List.length_singleton] at hl
    have hr : (stampsOf f pre).length = pre.length := by unfold stampsOf; rw [List.length_map]
    have hsn := stampsOf_snoc f pre x
    have w1 := hf x.1 x.2
    have w2 : I64 ((x.1 : Nat) : Int) := I64.of (by omega) (by omega)
    simp only [parF, enE, List.cons_append, List.nil_append]
    refine g ?_
    refine g ?_
    repeat' (first | refine st_ rfl (g ?_) | refine hold_ (g ?_) | exact trivial | refine cond_ (fun h => g ?_) (fun h => g ?_) | (refine hKD _ _ ⟨rfl, g ?_⟩; clear hKD KD))
    refine bs1 (by omega) rfl rfl rfl ⟨w1, w2, trivial⟩ ?_
    refine g ?_
    repeat' (first | refine st_ rfl (g ?_) | refine hold_ (g ?_) | exact trivial | refine cond_ (fun h => g ?_) (fun h => g ?_) | (refine hKD _ _ ⟨rfl, g ?_⟩; clear hKD KD))
    refine append_own rfl (by kernel_rfl) (by omega) (by kernel_rfl) rfl (by simp; omega) ?_
    refine g ?_
    repeat' (first | refine st_ rfl (g ?_) | refine hold_ (g ?_) | exact trivial | refine cond_ (fun h => g ?_) (fun h => g ?_) | (refine hKD _ _ ⟨rfl, g ?_⟩; clear hKD KD))
    refine ⟨trivial, fun b => if b = 9900 then 1600 else b, ⟨rfl, trivial⟩, ⟨?_, rfl, trivial⟩, by simp [idsOf, BA.id]⟩
    rw [hsn, List.map_append]
    rfl
  · rw [stampsOf_all hbit hS]
    refine g ?_
    refine AW.freeze 9900 _ rfl trivial ?_
    simp only [go_sem, reduceIte, Nat.reduceEqDiff]
    refine AW.freeze 400 _ rfl ⟨trivial, trivial⟩ ?_
    simp only [go_sem, reduceIte, Nat.reduceEqDiff]
    refine g ?_
    repeat' (first | refine st_ rfl (g ?_) | refine hold_ (g ?_) | exact trivial | refine cond_d (fun h => g ?_) (fun h => g ?_) | refine cond_ (fun h => g ?_) (fun h => g ?_) | (refine hKD _ _ ⟨rfl, g ?_⟩; clear hKD KD) | ((first | refine vops_ifd rfl rfl (fun h e => ?_) (fun h e => ?_) | refine vdraw_ifd rfl rfl (fun h e => ?_) (fun h e => ?_)) <;> simp only [e] <;> clear e <;> refine g ?_) | ((first | refine vops_if rfl rfl (fun h => ?_) (fun h => ?_) | refine vdraw_if rfl rfl (fun h => ?_) (fun h => ?_)) <;> simp only [h] <;> refine g ?_) | refine ix_ (by omega) (g ?_))
    rfl
end Go.Proofs.YtaiekfeiaamemaaGreatDoor
/- The least counts of vectors (the program's): an iterator over counts that the rounds turn. -/
namespace Go.Proofs.YtaiekfeiaamemaaGreatDoor
open Go.ChangeShapes Go.WideShapes Go.ChangeAt Go.RowKit
attribute [local irreducible] vops vopsY vop vopL vdraw callW qop binQ lenQ storeQ appendQ callQ ACalls AIter
attribute [local go_sem] storeQ_bp storeQ_rp

section
variable {V w0 : World} {n : Nd} {ro : Option Nat} {σ : AState} {K : Exit → AState → Prop}
/-- 'c.each()' of a box of one's own -/
theorem AW.eachOwn {id dst x : Nat} {ats : Array TypeId} {ty : TypeId} {pos : String} {after : Array Edge} (b : Nat) (hx : look σ.fr x = .bp b 0) (hf : (offF (100 * (dst + 1)) (100 * (dst + 1) + 100) σ.fr && offB (100 * (dst + 1)) (100 * (dst + 1) + 100) σ.bk) = true) (hd : (Nat.blt dst n.n && !memN dst n.fx) = true)
    (h : K .normal ⟨(dst, .fn 255 [.bp (100 * (dst + 1)) 0]) :: σ.fr, .box (100 * (dst + 1)) [.bp b 0] :: σ.bk⟩) :
    AW Tryz.prog TzTab ro V w0 n (.region id #[⟨some dst, .call { callee := .value (.func 242), args := #[.tmp x], argTypes := ats }, ty, pos, after, none⟩] false) σ K := fun hG m E a w hn hs => by
  obtain ⟨c, hc⟩ : ∃ c, 100 * (dst + 1) = c := ⟨_, rfl⟩
  rw [hc] at hf h
  rw [Bool.and_eq_true] at hf
  refine wpIn_region_lit (l := [_]) (wpListIn_step fun K' hK' => ?_)
  rw [if_pos (by rfl)]
  refine wp_wpIn (fun _ h => by cases h) ?_
  have hxv := hs.slots x
  rw [hx] at hxv
  generalize hxe : a.tmps.getD x undef = u at hxv
  cases hxv
  have hexec : (execOp a.eval ⟨some dst, .call { callee := .value (.func 242), args := #[.tmp x], argTypes := ats }, ty, pos, after, none⟩).run Tryz.prog w = .ok (.enter 242 #[.pointer (some ⟨E.blk b, 0, none⟩)]) w := by
    have hen := enters_f (P := Tryz.prog) Tryz.func242 rfl (by kernel_rfl) #[.pointer (some ⟨E.blk b, 0, none⟩)] w
    have he : a.eval (.tmp x) = .pointer (some ⟨E.blk b, 0, none⟩) := hxe
    simp [execOp, resolve, Act.eval, Deferred.ofValue, invoke, hen, hxe]
  unfold Oper.wp
  rw [hexec, Oper.upon_enter]
  refine (countsEach (E.blk b) w).mono ?_
  rintro e w' ⟨rfl, hw'⟩
  refine hK' _ _ ?_
  let E' : Env := ⟨fun q => if q = c then w.heap.size else E.blk q, E.row⟩
  have hE : Env.same c (c + 100) E E' := fun q hq => by
    have : ¬ q = c := by omega
    simp [E', this]
  have hbel : Below w.heap.size w w' := by rw [← hw']; exact balloc (Below.refl _ w)
  have hb := offF_look hf.1 x
  rw [hx] at hb
  simp only [AV.off, Bool.or_eq_true, decide_eq_true_eq] at hb
  have hbe : E'.blk b = E.blk b := (hE b hb).1
  have ho : owns E' [.box c [.bp b 0]] = [w.heap.size] := by simp [owns, BA.owned, E']
  have hst := hs.add (nb := [.box c [.bp b 0]]) hbel hE hf.1 hf.2 (by rw [ho]; simp) (fun g hg => by rw [ho] at hg; simp at hg; omega) (fun q hq => by
    simp only [List.mem_singleton] at hq
    subst hq
    refine ⟨#[.pointer (some ⟨E.blk b, 0, none⟩)], _, by rw [← hw']; simp only [E', if_true]; exact Blk.new _ _ _, RepAs.cons ?_ RepAs.nil⟩
    rw [← hbe]; exact .bp)
  simp only [Bool.and_eq_true, Bool.not_eq_true'] at hd
  refine ⟨m, E', _, Fm.le.refl m, h, hst.put (dst := some dst) (fun d e => by cases e; rw [hn]; exact ⟨blt_iff.1 hd.1, memN_iff hd.2⟩) (.fn rfl fun j v q e1 e2 => ?_)⟩
  match j, e1, e2 with
  | 0, e1, e2 =>
    simp at e1 e2
    subst e1 e2
    have := RepA.bp (E := E') (X := vis V w0 w' (owns E' ([.box c [.bp b 0]] ++ σ.bk))) (b := c) (o := 0)
    simpa [E'] using this
  | j + 1, e1, e2 => simp at e1
/-- a box of numbers, told as an array -/
theorem AW.toArr {P : Program} {G : World → Prop} {c : Code} (b : Nat) {cs : List AV} {is : List IV} (hb : findB b σ.bk = some (.box b cs)) (hi : toIs cs = some is) (ho : okAs cs) (h : AW P G ro V w0 n c ⟨σ.fr, replB b [.arr b is] σ.bk⟩ K) : AW P G ro V w0 n c σ K := fun hG m E a w hn hs => by
  obtain ⟨pre, post, e1, e2, e3⟩ := findB_split hb
  obtain ⟨fr, bk⟩ := σ
  simp only at e1 e3 h hs
  subst e1
  refine h hG m E a w hn ?_
  rw [e3]
  have e : owns E (pre ++ .arr b is :: post) = owns E (pre ++ .box b cs :: post) := by simp [owns_append, owns, BA.owned]
  refine ⟨hs.ext, hs.low, by simpa [e] using hs.apart, by simpa [e] using hs.base, fun x hx => ?_, fun i => by simpa [e] using hs.slots i, hs.size, hs.defers, by simpa [e] using hs.hold⟩
  simp only [List.singleton_append, e] at hx ⊢
  rcases List.mem_append.1 hx with hx | hx
  · exact hs.holds x (List.mem_append_left _ hx)
  · rcases List.mem_cons.1 hx with rfl | hx
    · obtain ⟨C, t, h1, h2⟩ := hs.holds (.box b cs) (by simp)
      exact ⟨C, t, h1, h2.toIs hi ho⟩
    · exact hs.holds x (List.mem_append_right _ (List.mem_cons_of_mem _ hx))
end
theorem cntI_put {f : Nat → Int} {M n : Nat} (h : n < 64) (x : Int) : (cntI f M).set n (.val (.int .i64 x)) = cntI (fun k => if k = n then x else f k) M := by
  rw [cntI, cntI, ← cnts_set h, Array.toList_setIfInBounds, List.map_set]
theorem cntI_mask {f : Nat → Int} {M M' : Nat} : (cntI f M).set 64 (.val (.int .u64 M')) = cntI f M' := by
  have := congrArg (fun C : Array Value => C.toList.map IV.val) (cnts_set_has (f := f) (M := M) (M' := M'))
  simpa [cntI, Array.toList_setIfInBounds, List.map_set] using this
theorem cntI_len {f : Nat → Int} {M : Nat} : (cntI f M).length = 65 := by rw [cntI, List.length_map, Array.length_toList, cnts_size]
theorem bp_inv {E : Env} {X : World} {v : Value} {b o : Nat} (h : RepA E X v (.bp b o)) : v = .pointer (some ⟨E.blk b, o, none⟩) := by cases h; rfl
def enX (x : Fin 64) : List AV := [.val (.int .i64 (x.1 : Nat)), .any]
attribute [local irreducible] cntI AW
section
variable {V w0 : World} {n : Nd} {K : Exit → AState → Prop}
theorem AW.rangeEach {i j b c M : Nat} {ps : Array Tmp} {assign body : Code} {bk : List BA} (hM : M < 18446744073709551616) (fx pu : List (Nat × AV)) (B : List (Fin 64) → List BA) (I : List (Fin 64) → Prop)
    (hi : look (fx ++ pu) i = .fn 255 [.bp c 0]) (hj : look (fx ++ pu) j = .bp b 0) (hbox : ∀ pre, ∃ f, BA.box c [.bp b 0] ∈ B pre ∧ BA.arr b (cntI f M) ∈ B pre)
    (hB : B [] = bk) (hI : I []) (hr : n.rnd = false) (hpu : pureF pu = true) (hps : parOk n.n (fx.map (·.1)) ps.toList = true) (hp2 : ps.size = 2)
    (hbody : ∀ l pre x, I pre → AW Tryz.prog TzTab (some l) V w0 ⟨n.n, fx.map (·.1), true⟩ assign ⟨parF ps.toList (enX x) (fx ++ pu), B pre⟩ fun e σ1 => e = .normal ∧ AW Tryz.prog TzTab (some l) V w0 ⟨n.n, fx.map (·.1), true⟩ body σ1 (rpost K fx pu (I (pre ++ [x])) (B (pre ++ [x]))))
    (hdone : ∀ xs : List (Fin 64), xs.map (·.1) = nodesOf M 64 → I xs → K .normal ⟨fx ++ pu, B xs⟩) : AW Tryz.prog TzTab none V w0 n (.rangeFunc (.tmp i) ps assign body) ⟨fx ++ pu, bk⟩ K := by
  refine AW.rangeG (gf := 255) (encs := enX) (S := fun ys : List (Fin 64) => ys.map (·.1) = nodesOf M 64) (Sp := fun _ => True) (enters_f (P := Tryz.prog) Tryz.func255 rfl (by kernel_rfl)) fx pu B I (fun m0 E0 a w W1 lb hn hs hge hlb hx hG l J Jx sJ sJx hJS hy h0 => ?_) hB hI hr hi hpu hps (fun x => ⟨hp2.symm, rfl⟩) (fun l pre x _ => hbody l pre x) hdone
  obtain ⟨v, rfl, hv⟩ : ∃ v, lb = #[v] ∧ RepA E0 (vis V w0 w (owns E0 (B []))) v (.bp c 0) := args1 hlb
  cases hv
  have hsi := hs.slots i
  have hsj := hs.slots j
  simp only [hi] at hsi
  simp only [hj] at hsj
  have key : ∀ pre X W, J pre X W → TzTab W → ∃ f, EachAny (E0.blk c) (E0.blk b) f M W := by
    intro pre X W hJ hT
    obtain ⟨E, hst⟩ := hJS pre X W hJ
    have hti := hst.slots i
    have htj := hst.slots j
    simp only [hi] at hti
    simp only [hj] at htj
    have ec : E.blk c = E0.blk c := by
      have e1 : a.tmps.getD i undef = .func (.func 255) #[] #[.pointer (some ⟨E0.blk c, 0, none⟩)] := hge
      rw [e1] at hti
      cases hti with
      | fn h1 h2 =>
        have := bp_inv (h2 0 _ _ rfl rfl)
        simpa using this.symm
    have eb : E.blk b = E0.blk b := by
      have := (bp_inv hsj).symm.trans (bp_inv htj)
      simpa using this.symm
    obtain ⟨f, hb1, hb2⟩ := hbox pre
    obtain ⟨C1, t1, p1, p2⟩ := hst.holds _ hb1
    obtain ⟨C2, t2, p3, p4⟩ := hst.holds _ hb2
    refine ⟨f, ⟨t1, ?_⟩, ⟨t2, ?_⟩, hT⟩
    · have : C1 = #[.pointer (some ⟨E0.blk b, 0, none⟩)] := by
        obtain ⟨v, vs, e, q1, q2⟩ := RepAs.cons_iff.1 p2
        rw [RepAs.nil_iff.1 q2] at e
        cases q1
        rw [← Array.toArray_toList (xs := C1), e, eb]
      rw [← this, ← ec]
      exact p1
    · have : C2 = cnts f M := by
        unfold cntI at p4
        rw [← Array.toArray_toList (xs := C2), reps_vals p4]
      rw [← this, ← eb]
      exact p3
  refine (callsIn_wide (n := 1)).1 ((each1_live 1 (by omega) l (E0.blk c) (E0.blk b) M hM (fun pre W => ∃ X, J pre X W ∧ Ext (vis V w0 w (owns E0 (B []))) X ∧ Ext X W ∧ W1.heap.size ≤ W.heap.size ∧ TzTab W) (fun pre W => ∃ X, Jx pre X W) (fun pre W ⟨X, h1, _, _, _, h5⟩ => key pre X W h1 h5) (fun pre x W f ⟨X, h1, h2, h3, h4, h5⟩ hE _ => ?_) W1 ⟨_, h0, Ext.refl _, hx, Nat.le_refl _, hG⟩).mono ?_)
  · obtain ⟨fn, tmps, asg, bd, q1, q2⟩ := hy pre x X W (eachEnc f x) E0 h1 h2 h3 h4 h5 (RepAs.cons .val (RepAs.cons .any RepAs.nil)) trivial
    refine ⟨fn, tmps, asg, bd, q1, q2.mono fun e W' ⟨r1, r2, r3, r4, r5⟩ => ?_⟩
    rcases r5 with ⟨rfl, r5⟩ | ⟨rfl, r5⟩
    · exact .inl ⟨rfl, X, r5, h2, r2, Nat.le_trans h4 r1, r3⟩
    · exact .inr ⟨rfl, X, r5⟩
  · rintro e W' ⟨h1, ⟨ys, h2, X, h3, _⟩ | ⟨pre, _, X, h3⟩⟩
    · exact ⟨h1, .inl ⟨ys, X, h2, h3⟩⟩
    · exact ⟨h1, .inr ⟨pre, X, h3⟩⟩
end
def mixMin (f d : Nat → Int) (pre : List (Fin 64)) (n : Nat) : Int := if pre.any (fun x => decide (x.1 = n)) = true then min (f n) (d n) else f n
theorem mixMin_nil (f d : Nat → Int) : mixMin f d [] = f := by funext n; simp [mixMin]
theorem mixMin_snoc (f d : Nat → Int) (pre : List (Fin 64)) (x : Fin 64) : (fun k => if k = x.1 then min (mixMin f d pre x.1) (d x.1) else mixMin f d pre k) = mixMin f d (pre ++ [x]) := by
  funext k
  by_cases hk : k = x.1
  · subst hk
    rw [if_pos rfl, mixMin, mixMin, List.any_append]
    simp only [List.any_cons, List.any_nil, Bool.or_false, decide_true, Bool.or_true, if_true]
    split <;> omega
  · rw [if_neg hk, mixMin, mixMin, List.any_append]
    simp [show ¬ x.1 = k from fun e => hk e.symm]
structure MeetS (ls : List (List Stamp)) where
  i : Nat
  f : Nat → Int
  M : Nat
  h0 : 0 < i
  hi : i ≤ ls.length
  hM : M < 18446744073709551616
  hf : ∀ n, n < 64 → I64 (f n)
  pos : ∀ n, n < 64 → M.testBit n = true → 0 < f n
  is : ∀ n, n < 64 → onBits f M n = meetC (ls.take i) n
set_option maxRecDepth 100000 in
set_option maxHeartbeats 1600000 in
theorem meet_call (ls : List (List Stamp)) : ACalls Tryz.prog TzTab 203 [.iv (stsI ls)] (.iv (stI (meetS ls))) [] := by
  refine ACalls.ofS (n := 47) (rs := [.tmp 2]) Tryz.func203 rfl (by kernel_rfl) Tryz.ntmps203 (by kernel_rfl) (by simp) (fun _ _ => TzTab.later) ?_
  intro hok V w0
  have hlen : ls.length ≤ 1073741824 := by simpa [stsI] using hok.1.1
  have hI : ∀ l ∈ ls, ∀ n : Int, I64 (countOf l n) := fun l hl n => by
    have h1 := okR_mem hok.1.2 [stI l] (List.mem_map_of_mem hl)
    refine countOf_i64 (fun s hs => ?_) n
    obtain ⟨-, h2, -⟩ := okR_mem h1.2.1.2 (enSt s) (List.mem_map_of_mem hs)
    exact h2
  unfold stsI
  refine g ?_
  repeat' (first | refine st_ rfl (g ?_) | refine hold_ (g ?_) | exact trivial | refine cond_d (fun h => g ?_) (fun h => g ?_) | refine cond_ (fun h => g ?_) (fun h => g ?_) | (refine hKD _ _ ⟨rfl, g ?_⟩; clear hKD KD) | ((first | refine vops_ifd rfl rfl (fun h e => ?_) (fun h e => ?_) | refine vdraw_ifd rfl rfl (fun h e => ?_) (fun h e => ?_)) <;> simp only [e] <;> clear e <;> refine g ?_) | ((first | refine vops_if rfl rfl (fun h => ?_) (fun h => ?_) | refine vdraw_if rfl rfl (fun h => ?_) (fun h => ?_)) <;> simp only [h] <;> refine g ?_) | refine ix_ (by omega) (g ?_))
  · obtain rfl : ls = [] := List.length_eq_zero_iff.1 (by omega)
    exact nil_sub 2
  have hpos : 0 < ls.length := by omega
  refine ⟨_, get_map (List.getElem?_eq_getElem hpos), hold_ ?_⟩
  refine g ?_
  repeat' (first | refine st_ rfl (g ?_) | refine hold_ (g ?_) | exact trivial | refine cond_d (fun h => g ?_) (fun h => g ?_) | refine cond_ (fun h => g ?_) (fun h => g ?_) | (refine hKD _ _ ⟨rfl, g ?_⟩; clear hKD KD) | ((first | refine vops_ifd rfl rfl (fun h e => ?_) (fun h e => ?_) | refine vdraw_ifd rfl rfl (fun h e => ?_) (fun h e => ?_)) <;> simp only [e] <;> clear e <;> refine g ?_) | ((first | refine vops_if rfl rfl (fun h => ?_) (fun h => ?_) | refine vdraw_if rfl rfl (fun h => ?_) (fun h => ?_)) <;> simp only [h] <;> refine g ?_) | refine ix_ (by omega) (g ?_) | refine call_ (read_call ls[0]) rfl (g ?_))
  refine ⟨cntI_len, by simp [rep], ?_⟩
  rw [setsL_all (by simp [rep, cntI_len])]
  refine AW.toArr 400 rfl (toIs_map _) (okAs_map _) ?_
  simp only [replB_box, if_true, List.singleton_append]
  refine g ?_
  repeat' (first | refine st_ rfl (g ?_) | refine hold_ (g ?_) | exact trivial | refine cond_d (fun h => g ?_) (fun h => g ?_) | refine cond_ (fun h => g ?_) (fun h => g ?_) | (refine hKD _ _ ⟨rfl, g ?_⟩; clear hKD KD) | ((first | refine vops_ifd rfl rfl (fun h e => ?_) (fun h e => ?_) | refine vdraw_ifd rfl rfl (fun h e => ?_) (fun h e => ?_)) <;> simp only [e] <;> clear e <;> refine g ?_) | ((first | refine vops_if rfl rfl (fun h => ?_) (fun h => ?_) | refine vdraw_if rfl rfl (fun h => ?_) (fun h => ?_)) <;> simp only [h] <;> refine g ?_) | refine ix_ (by omega) (g ?_))
  refine ⟨1, _, rfl, rfl, by omega, by simp, hold_ ?_⟩
  refine g ?_
  repeat' (first | refine st_ rfl (g ?_) | refine hold_ (g ?_) | exact trivial | refine cond_d (fun h => g ?_) (fun h => g ?_) | refine cond_ (fun h => g ?_) (fun h => g ?_) | (refine hKD _ _ ⟨rfl, g ?_⟩; clear hKD KD) | ((first | refine vops_ifd rfl rfl (fun h e => ?_) (fun h e => ?_) | refine vdraw_ifd rfl rfl (fun h e => ?_) (fun h e => ?_)) <;> simp only [e] <;> clear e <;> refine g ?_) | ((first | refine vops_if rfl rfl (fun h => ?_) (fun h => ?_) | refine vdraw_if rfl rfl (fun h => ?_) (fun h => ?_)) <;> simp only [h] <;> refine g ?_) | refine ix_ (by omega) (g ?_))
  have e0 : ls.take 1 = [ls[0]] := by
    cases ls with
    | nil => simp at hpos
    | cons a l => rfl
  have eS : ((ls.map fun l => [stI l]).take ls.length).drop 1 = (ls.drop 1).map fun l => [stI l] := by rw [List.take_of_length_le (by simp), List.map_drop]
  have c0 : countOf ls[0] = countOf ls[0] := rfl
  have hb0 : ∀ n, n < 64 → (maskOf ls[0]).testBit n = true → 0 < countOf ls[0] (n : Nat) := fun n hn h => by
    rw [maskOf_bit hn] at h
    have := countOf_nonneg ls[0] n
    simp at h
    omega
  refine AW.loop (fun x : MeetS ls => ⟨[(3, .bp 400 0), (16, .iv (.sl 1 ((ls.drop 1).map fun l => [stI l]))), (17, .val (.int .i64 ((ls.length - 1 : Nat) : Nat))), (18, .val (.int .i64 ((x.i - 1 : Nat) : Nat)))], [.arr 400 (cntI x.f x.M)]⟩) (fun x => ls.length - x.i) ⟨1, _, _, Nat.one_pos, hpos, maskOf_lt ls[0], fun n _ => hI _ (List.getElem_mem hpos) n, hb0, fun n hn => ?_⟩ id ⟨⟨rfl, congrArg (fun l => AV.iv (.sl 1 l)) eS, congrArg (fun l : List (List IV) => AV.val (.int .i64 (l.length : Nat))) eS |>.trans (by simp [AV.ren]), rfl, trivial⟩, ⟨rfl, trivial⟩, by simp [idsOf, BA.id]⟩ fun ⟨i, f, M, hi0, hi, hM, hf, hp, hs⟩ => ?_
  · rw [e0]
    show onBits _ _ n = countOf ls[0] n
    unfold onBits
    split
    · rfl
    · rename_i h
      rw [maskOf_bit hn] at h
      have h : countOf ls[0] (n : Nat) = 0 := by simpa using h
      exact h.symm
  simp only
  have hd : (ls.drop 1).length = ls.length - 1 := by simp
  repeat (refine AW.seq ?_)
  refine AW.reg rfl fun KK hKK => ?_
  refine g ?_
  repeat' (first | refine hold_ (g ?_) | (refine hKK _ (g ?_); clear hKK KK) | exact trivial)
  repeat (refine AW.seq ?_)
  refine st_ rfl ?_
  refine g ?_
  refine cond_ (fun h => ?_) (fun h => ?_)
  · have hlt : i < ls.length := by have := of_decide_eq_true h; omega
    obtain ⟨q, hq⟩ : ∃ q, ls[i] = q := ⟨_, rfl⟩
    have hq2 : (ls.drop 1)[i - 1]? = some q := by rw [List.getElem?_drop, ← hq, show 1 + (i - 1) = i by omega]; exact List.getElem?_eq_getElem hlt
    have hqI : ∀ n : Int, I64 (countOf q n) := hI q (hq ▸ List.getElem_mem hlt)
    have hMq := maskOf_lt q
    refine g ?_
    repeat' (first | refine st_ rfl (g ?_) | refine hold_ (g ?_) | exact trivial | refine cond_ (fun h => g ?_) (fun h => g ?_) | (refine hKD _ _ ⟨rfl, g ?_⟩; clear hKD KD))
    refine ⟨by omega, _, get_map hq2, ?_⟩
    refine g ?_
    repeat' (first | refine st_ rfl (g ?_) | refine hold_ (g ?_) | exact trivial | refine cond_ (fun h => g ?_) (fun h => g ?_) | (refine hKD _ _ ⟨rfl, g ?_⟩; clear hKD KD))
    refine call_ (read_call q) rfl ?_
    refine g ?_
    repeat' (first | refine hold_ (g ?_) | (refine hKK _ (g ?_); clear hKK KK) | exact trivial)
    refine ⟨cntI_len, by simp [rep], ?_⟩
    rw [setsL_all (by simp [rep, cntI_len])]
    simp only [go_sem, reduceIte]
    refine AW.freeze 700 _ rfl (okAs_map _) ?_
    simp only [go_sem, toIs_map, reduceIte, Nat.reduceEqDiff]
    refine AW.seq ?_
    refine AW.reg rfl fun KK hKK => ?_
    refine g ?_
    repeat' (first | refine hold_ (g ?_) | (refine hKK _ (g ?_); clear hKK KK) | exact trivial)
    refine ⟨_, cntI_has, ?_⟩
    refine g ?_
    repeat' (first | refine hold_ (g ?_) | (refine hKK _ (g ?_); clear hKK KK) | exact trivial)
    refine rdI_drop cntI_has ?_
    refine g ?_
    repeat' (first | refine hold_ (g ?_) | (refine hKK _ (g ?_); clear hKK KK) | exact trivial)
    have hand : bits .and .u64 (M : Int) ((maskOf q : Nat) : Int) = ((M &&& maskOf q : Nat) : Int) := u64_and_nat _ _ hM hMq
    refine ⟨.int .u64 ((M &&& maskOf q : Nat) : Int), fun w => by go_simp, ?_⟩
    have hM2 : M &&& maskOf q < 18446744073709551616 := Nat.lt_of_le_of_lt Nat.and_le_left hM
    have ho2 : okV (.int .u64 ((M &&& maskOf q : Nat) : Int)) := by
      show (Lit.int .u64 ((M &&& maskOf q : Nat) : Int)).wf = true
      simp [Lit.wf, IntKind.max, IntKind.min, IntKind.signed, IntKind.bits]
      omega
    refine g ?_
    repeat' (first | refine hold_ (g ?_) | (refine hKK _ (g ?_); clear hKK KK) | exact trivial)
    refine ⟨_, rfl, ⟨ho2, trivial⟩, by rw [cntI_len]; omega, ?_⟩
    refine g ?_
    repeat' (first | refine hold_ (g ?_) | (refine hKK _ (g ?_); clear hKK KK) | exact trivial)
    rw [cntI_mask]
    obtain ⟨M2, hM2e⟩ : ∃ M2, M &&& maskOf q = M2 := ⟨_, rfl⟩
    rw [hM2e] at hM2 ⊢
    refine AW.seq (AW.eachOwn 400 rfl rfl rfl ?_)
    simp only [go_sem]
    refine g ?_
    repeat' (first | refine st_ rfl (g ?_) | refine hold_ (g ?_) | exact trivial | refine cond_ (fun h => g ?_) (fun h => g ?_) | (refine hKD _ _ ⟨rfl, g ?_⟩; clear hKD KD))
    refine AW.le (S := ⟨[(3, .bp 400 0), (30, .fn 255 [.bp 3100 0]), (6, .ip (cntI (fun n => countOf q n) (maskOf q))), (16, .iv (.sl 1 ((ls.drop 1).map fun l => [stI l]))), (17, .val (.int .i64 ((ls.length - 1 : Nat) : Nat))), (18, .val (.int .i64 ((i - 1 : Nat) : Nat)))], [.box 3100 [.bp 400 0], .arr 400 (cntI (mixMin f (fun n => countOf q n) []) M2)]⟩) (ρ := id) ⟨⟨rfl, rfl, rfl, rfl, rfl, rfl, trivial⟩, ⟨rfl, by rw [mixMin_nil]; rfl, trivial⟩, by simp [idsOf, BA.id]⟩ ?_
    refine AW.rangeEach (i := 30) (j := 3) (b := 400) (c := 3100) hM2 [(3, .bp 400 0), (30, .fn 255 [.bp 3100 0])] [(6, .ip (cntI (fun n => countOf q n) (maskOf q))), (16, .iv (.sl 1 ((ls.drop 1).map fun l => [stI l]))), (17, .val (.int .i64 ((ls.length - 1 : Nat) : Nat))), (18, .val (.int .i64 ((i - 1 : Nat) : Nat)))] (fun pre => [.box 3100 [.bp 400 0], .arr 400 (cntI (mixMin f (fun n => countOf q n) pre) M2)]) (fun _ => True) rfl rfl (fun pre => ⟨mixMin f (fun n => countOf q n) pre, List.mem_cons_self .., List.mem_cons_of_mem _ (List.mem_cons_self ..)⟩) rfl trivial rfl rfl rfl rfl (fun c pre x _ => ?_) (fun ys hS _ => ?_)
    · simp only [parF, enX, List.cons_append, List.nil_append]
      refine g ?_
      refine g ?_
      repeat' (first | refine st_ rfl (g ?_) | refine hold_ (g ?_) | exact trivial | refine cond_ (fun h => g ?_) (fun h => g ?_) | (refine hKD _ _ ⟨rfl, g ?_⟩; clear hKD KD))
      refine AW.drawn (ds := [33, 34, 35, 36, 37, 38, 39, 40, 41, 42, 43, 44]) (fin := [0, 2]) (bs := [2, 2, 2, 2, 2, 2, 2, 2, 2, 2, 2, 2, 2]) [⟨[], [], [], [], 0⟩, ⟨[], [], [], [], 0⟩, ⟨[], [], [], [], 0⟩, ⟨[(35, 2), (34, 1)], [], [0, 1], [], 0⟩, ⟨[(36, 3)], [], [0, 1], [], 0⟩, ⟨[], [], [], [], 0⟩, ⟨[], [], [], [], 0⟩, ⟨[(39, 6), (38, 5)], [], [0, 1], [], 0⟩, ⟨[(40, 7)], [], [0, 1], [], 0⟩, ⟨[(37, 4), (41, 8)], [], [], [], 0⟩, ⟨[], [], [], [], 0⟩, ⟨[(43, 10), (33, 0)], [], [0, 1], [], 0⟩, ⟨[(44, 11), (42, 9)], [], [], [1], 1⟩] (by kernel_rfl) rfl (by kernel_rfl) rfl rfl rfl fun KD hKD => ?_
      have hx := x.2
      refine g ?_
      repeat' (first | refine hold_ (g ?_) | (refine hKD _ _ ⟨rfl, g ?_⟩; clear hKD KD) | exact trivial)
      refine ⟨by omega, by omega, ?_⟩
      refine g ?_
      repeat' (first | refine hold_ (g ?_) | (refine hKD _ _ ⟨rfl, g ?_⟩; clear hKD KD) | exact trivial)
      refine ⟨.val (.int .i64 (mixMin f (fun n => countOf q n) pre x.1)), by simpa using cntI_at hx, ?_⟩
      refine g ?_
      repeat' (first | refine hold_ (g ?_) | (refine hKD _ _ ⟨rfl, g ?_⟩; clear hKD KD) | exact trivial)
      refine ⟨by omega, by omega, ?_⟩
      refine g ?_
      repeat' (first | refine hold_ (g ?_) | (refine hKD _ _ ⟨rfl, g ?_⟩; clear hKD KD) | exact trivial)
      rw [Nat.mul_one]
      refine rdI_drop (cntI_at hx) ?_
      refine g ?_
      repeat' (first | refine hold_ (g ?_) | (refine hKD _ _ ⟨rfl, g ?_⟩; clear hKD KD) | exact trivial)
      refine ⟨by omega, by omega, ?_⟩
      refine g ?_
      repeat' (first | refine hold_ (g ?_) | (refine hKD _ _ ⟨rfl, g ?_⟩; clear hKD KD) | exact trivial)
      refine ⟨[.val (.int .i64 (min (mixMin f (fun n => countOf q n) pre x.1) (countOf q x.1)))], rfl, ⟨i64_min ?_ (hqI _), trivial⟩, by rw [cntI_len]; simp, ?_⟩
      · unfold mixMin
        split
        · exact i64_min (hf _ hx) (hqI _)
        · exact hf _ hx
      refine g ?_
      repeat' (first | refine hold_ (g ?_) | (refine hKD _ _ ⟨rfl, g ?_⟩; clear hKD KD) | exact trivial)
      refine ⟨trivial, id, ⟨rfl, rfl, trivial⟩, ⟨rfl, ?_, trivial⟩, by simp [idsOf, BA.id]⟩
      refine congrArg (fun C => some (BA.arr 400 C)) ?_
      rw [← mixMin_snoc, ← cntI_put hx]
      simp
    · refine g ?_
      refine g ?_
      repeat' (first | refine st_ rfl (g ?_) | refine hold_ (g ?_) | exact trivial | refine cond_d (fun h => g ?_) (fun h => g ?_) | refine cond_ (fun h => g ?_) (fun h => g ?_) | (refine hKD _ _ ⟨rfl, g ?_⟩; clear hKD KD) | ((first | refine vops_ifd rfl rfl (fun h e => ?_) (fun h e => ?_) | refine vdraw_ifd rfl rfl (fun h e => ?_) (fun h e => ?_)) <;> simp only [e] <;> clear e <;> refine g ?_) | ((first | refine vops_if rfl rfl (fun h => ?_) (fun h => ?_) | refine vdraw_if rfl rfl (fun h => ?_) (fun h => ?_)) <;> simp only [h] <;> refine g ?_) | refine ix_ (by omega) (g ?_))
      have hany : ∀ n, n < 64 → ys.any (fun x => decide (x.1 = n)) = (M.testBit n && (maskOf q).testBit n) := fun n hn => by
        rw [← Nat.testBit_and, hM2e, Bool.eq_iff_iff]
        have hm : n ∈ ys.map (·.1) ↔ M2.testBit n = true := by rw [hS, mem_nodesOf]; exact ⟨fun h => h.2, fun h => ⟨hn, h⟩⟩
        rw [← hm, List.any_eq_true, List.mem_map]
        exact ⟨fun ⟨x, h1, h2⟩ => ⟨x, h1, by simpa using h2⟩, fun ⟨x, h1, h2⟩ => ⟨x, h1, by simpa using h2⟩⟩
      have hcq := countOf_nonneg q
      have hmix : ∀ n, n < 64 → mixMin f (fun n => countOf q n) ys n = if (M.testBit n && (maskOf q).testBit n) = true then min (f n) (countOf q n) else f n := fun n hn => by rw [mixMin, hany n hn]
      have hb2 : ∀ n, n < 64 → M2.testBit n = (M.testBit n && (maskOf q).testBit n) := fun n _ => by rw [← hM2e, Nat.testBit_and]
      refine ⟨⟨i + 1, mixMin f (fun n => countOf q n) ys, M2, by omega, hlt, hM2, fun n hn => ?_, fun n hn h => ?_, fun n hn => ?_⟩, id, ⟨⟨rfl, rfl, rfl, ?_, trivial⟩, ⟨rfl, trivial⟩, by simp [idsOf, BA.id]⟩, by show ls.length - (i + 1) < ls.length - i; omega⟩
      · rw [hmix n hn]
        split
        · exact i64_min (hf n hn) (hqI _)
        · exact hf n hn
      · rw [hmix n hn, if_pos (by rw [← hb2 n hn]; exact h)]
        rw [hb2 n hn, Bool.and_eq_true, maskOf_bit hn] at h
        have h1 := hp n hn h.1
        have h2 := hcq n
        have h3 : ¬ countOf q n = 0 := by simpa using h.2
        omega
      · rw [meet_step hi0 hlt, hq, ← hs n hn]
        unfold onBits
        have h2 := hcq n
        rw [hmix n hn, hb2 n hn, maskOf_bit hn]
        cases hMb : M.testBit n
        · simp only [Bool.false_and, if_neg Bool.false_ne_true]
          omega
        · have h1 := hp n hn hMb
          by_cases h3 : countOf q n = 0
          · simp [h3]; omega
          · simp [h3]
      · refine congrArg (fun m : Int => AV.val (.int .i64 m)) ?_
        show ((i - 1 : Nat) : Int) + 1 = ((i + 1 - 1 : Nat) : Int)
        omega
  · have hil : i = ls.length := by have := of_decide_eq_false h; omega
    subst hil
    rw [List.take_length] at hs
    refine AW.freeze 400 _ rfl trivial ?_
    simp only [go_sem, reduceIte, Nat.reduceEqDiff]
    refine g ?_
    repeat' (first | refine st_ rfl (g ?_) | refine hold_ (g ?_) | exact trivial | refine cond_d (fun h => g ?_) (fun h => g ?_) | refine cond_ (fun h => g ?_) (fun h => g ?_) | (refine hKD _ _ ⟨rfl, g ?_⟩; clear hKD KD) | ((first | refine vops_ifd rfl rfl (fun h e => ?_) (fun h e => ?_) | refine vdraw_ifd rfl rfl (fun h e => ?_) (fun h e => ?_)) <;> simp only [e] <;> clear e <;> refine g ?_) | ((first | refine vops_if rfl rfl (fun h => ?_) (fun h => ?_) | refine vdraw_if rfl rfl (fun h => ?_) (fun h => ?_)) <;> simp only [h] <;> refine g ?_) | refine ix_ (by omega) (g ?_) | refine call_ (list_call f M hM hp hf) rfl (g ?_))
    rw [show meetS ls = vecOf (onBits f M) from (vecUpto_congr fun n hn => (hs n hn).symm)]
    exact Sub1.rfl_ _
end Go.Proofs.YtaiekfeiaamemaaGreatDoor
namespace Go.Proofs.YtaiekfeiaamemaaGreatDoor
open Go.ChangeShapes Go.WideShapes Go.ChangeAt Go.RowKit

theorem sub_rep {X : World} {cs : List Value} {s : Sub} (h : SubR X X.heap.size cs s) : RepVs X cs (enSub s) := by
  obtain ⟨v, rfl, h1, h2, h3, hv⟩ := h
  exact ⟨.val h1, spans_rep hv (Nat.le_refl _), .val h2, .val h3, .val trivial, .val trivial, .val trivial, trivial⟩
theorem rep_sub {X : World} {cs : List Value} {s : Sub} (h : RepVs X cs (enSub s)) : SubR X X.heap.size cs s := by
  match cs, h with
  | [a, b, c, d, e, f, g], ⟨h1, h2, h3, h4, h5, h6, h7, _⟩ => cases h1 with | val i1 => cases h3 with | val i3 => cases h4 with | val i4 => cases h5; cases h6; cases h7; exact ⟨_, rfl, i1, i3, i4, h2.spans⟩
theorem iv_subs {E : Env} {V : World} {v : Value} {l : List Sub} (h : RepA E V v (.iv (subI l))) : Subs V V.heap.size v l := by
  cases h with
  | iv h => exact RepV.to_typed (R := SubR V V.heap.size) (l := l) (enc := enSub) h fun cs x _ hx => rep_sub hx
theorem minusO_vis (V w w' : World) (v : Value) : Ext (minusO (mixW V w w') v) (vis V w w' v.ownBlock.toList) :=
  ⟨by rw [minusO_size, vis_size, mix_size]; exact Nat.le_refl _, fun p u hp => by
    have hlt := World.block_lt_of_cell? _ p hp
    rw [minusO_size, mix_size] at hlt
    have h1 := (minusO_ext (mixW V w w') v).cell p u hp
    have h2 : p.block ∉ v.ownBlock.toList := fun hm => by
      rw [Option.mem_toList] at hm
      unfold minusO at hp
      rw [hm] at hp
      exact minus_near _ hp rfl
    by_cases ho : p.block < w.heap.size
    · rw [vis_old ho hlt, ← mix_old ho hlt]; exact h1
    · rw [vis_new (Nat.not_lt.1 ho), if_neg h2, ← mix_new (Nat.not_lt.1 ho)]; exact h1⟩
/-- whose result is a new row that holds slices -/
theorem bridge_ownN {P : Program} {G : World → Prop} {f : FuncId} {fn : Func} {c : Code} {α : Type} {R : World → List Value → α → Prop} {enc : α → List IV} {k T : Nat} {l : List α} (hR : ∀ X cs x, R X cs x → RepVs X cs (enc x)) {args : List AV} (hf : P.funcs[f]? = some fn) (hb : fn.body = some c) (hname : (fn.name == "runtime.NumGoroutine") = false)
    (h : ∀ (V w : World) (E : Env) (vs : Array Value), Ext V w → G w → RepAs E V vs.toList args → Calls P f vs w fun e w' => (∃ v, e = .returned v ∧ OwnN R k V w w' w.heap.size T v l) ∧ Below w.heap.size w w') : ACalls P G f args (.own 0) [.row 0 T k (l.map enc)] :=
  ⟨enters_f hf hb hname, fun V w E vs hV hG hr => (h V w E vs hV hG hr).mono fun _ w' ⟨⟨v, he, hO⟩, hb⟩ => by
    have hO' : OwnSl (R (minusO (mixW V w w') v)) k w' w.heap.size T v l := hO
    obtain ⟨A, cc, hv⟩ := hO'.form
    have ho : owns ⟨fun _ => (v.ownBlock).getD 0, fun _ => v⟩ [.row 0 T k (l.map enc)] = v.ownBlock.toList := by simp [owns, BA.owned]
    refine ⟨v, ⟨fun _ => (v.ownBlock).getD 0, fun _ => v⟩, he, hb, by rw [ho]; cases v.ownBlock <;> simp, fun g hg => by rw [ho, Option.mem_toList] at hg; exact (hO'.lt g hg).1, fun b hb' => ?_, ?_⟩
    · simp only [List.mem_singleton] at hb'
      subst hb'
      refine ⟨hO'.map_ fun cs x h => ?_, fun g hg => by simp [hg]⟩
      rw [ho]
      exact RepVs.ext (minusO_vis V w w' v) (hR _ cs x h)
    · rw [hv]
      exact .own rfl⟩
attribute [local irreducible] AW AWY vops vopsY vop vopL vdraw callW qop binQ lenQ storeQ appendQ callQ ACalls AIter setI
theorem num_call (n : Int) : ACalls Tryz.prog TzTab 71 [.val (.int .i64 n)] (.val (.bool (numB n))) [] :=
  bridge_val Tryz.func71 rfl (by kernel_rfl) fun V w E vs hV hG hr => by
    obtain ⟨v, rfl, hv⟩ := args1 hr
    cases hv
    exact (sessionNumber n w).mono fun _ w' h => ⟨h.1, h.2 ▸ Below.refl _ _⟩
theorem node_call (n : Int) : ACalls Tryz.prog TzTab 70 [.val (.int .i64 n)] (.val (.bool (nodeB n))) [] :=
  bridge_val Tryz.func70 rfl (by kernel_rfl) fun V w E vs hV hG hr => by
    obtain ⟨v, rfl, hv⟩ := args1 hr
    cases hv
    exact (sessionNode n w).mono fun _ w' h => ⟨h.1, h.2 ▸ Below.refl _ _⟩
theorem rnum_call (n : Int) : ACalls Tryz.prog TzTab 77 [.val (.int .i64 n)] (.val (.bool (numB n))) [] :=
  bridge_val Tryz.func77 rfl (by kernel_rfl) fun V w E vs hV hG hr => by
    obtain ⟨v, rfl, hv⟩ := args1 hr
    cases hv
    exact (refNumber17 n w).mono fun _ w' h => ⟨h.1, h.2 ▸ Below.refl _ _⟩
theorem rnext_call (n : Int) (h0 : 0 ≤ n) (h1 : n < 9223372036854775807) : ACalls Tryz.prog TzTab 80 [.val (.int .i64 n)] (.val (.int .i64 (nextN n))) [] :=
  bridge_val Tryz.func80 rfl (by kernel_rfl) fun V w E vs hV hG hr => by
    obtain ⟨v, rfl, hv⟩ := args1 hr
    cases hv
    exact (refNext17 n w h0 h1).mono fun _ w' h => ⟨h.1, h.2 ▸ Below.refl _ _⟩
theorem fsubs_call (l : List Sub) : ACalls Tryz.prog TzTab 21 [.iv (subI l)] (.val (.bool (subsFormed l))) [] :=
  bridge_val Tryz.func21 rfl (by kernel_rfl) fun V w E vs hV hG hr => by
    obtain ⟨v, rfl, hv⟩ := args1 hr
    exact sessionFormedSubs l v w ((iv_subs hv).ext hV)
theorem rfsubs_call (l : List Sub) : ACalls Tryz.prog TzTab 76 [.iv (subI l)] (.val (.bool (subsFormed l))) [] :=
  bridge_val Tryz.func76 rfl (by kernel_rfl) fun V w E vs hV hG hr => by
    obtain ⟨v, rfl, hv⟩ := args1 hr
    exact refFormedSubs l v w ((iv_subs hv).ext hV)
theorem subsO_call (l : List Sub) : ACalls Tryz.prog TzTab 72 [.iv (subI l)] (.own 0) [.row 0 123 7 (l.map enSub)] :=
  bridge_ownN (fun _ _ _ h => sub_rep h) Tryz.func72 rfl (by kernel_rfl) fun V w E vs hV hG hr => by
    obtain ⟨v, rfl, hv⟩ := args1 hr
    exact sessionSubs l v V w hV (iv_subs hv)
theorem rownO_call (l : List Sub) : ACalls Tryz.prog TzTab 16 [.iv (subI l)] (.own 0) [.row 0 123 7 (l.map enSub)] :=
  bridge_ownN (fun _ _ _ h => sub_rep h) Tryz.func16 rfl (by kernel_rfl) fun V w E vs hV hG hr => by
    obtain ⟨v, rfl, hv⟩ := args1 hr
    exact refOwn l v V w hV (iv_subs hv)

def enMsg (m : Msg) : List IV := [.val (.int .i64 m.kind), .val (.int .i64 m.from_), .val (.int .i64 m.to_), .val (.int .i64 m.session), .val (.int .i64 m.seq), spI m.interest, stI m.vector, noI m.notes, .val (.int .i64 m.body.object), .val (.int .i64 m.body.stamp.count), .val (.int .i64 m.body.stamp.node), byI m.body.value]
def msI (l : List Msg) : IV := .sl 12 (l.map enMsg)
def msA (m : Msg) : AV := .agg [.val (.int .i64 m.kind), .val (.int .i64 m.from_), .val (.int .i64 m.to_), .val (.int .i64 m.session), .val (.int .i64 m.seq), .iv (spI m.interest), .iv (stI m.vector), .iv (noI m.notes), .val (.int .i64 m.body.object), .val (.int .i64 m.body.stamp.count), .val (.int .i64 m.body.stamp.node), .iv (byI m.body.value)]
theorem enMsg_eq (m : Msg) : enMsg m = [.val (.int .i64 m.kind), .val (.int .i64 m.from_), .val (.int .i64 m.to_), .val (.int .i64 m.session), .val (.int .i64 m.seq), spI m.interest, stI m.vector, noI m.notes, .val (.int .i64 m.body.object), .val (.int .i64 m.body.stamp.count), .val (.int .i64 m.body.stamp.node), byI m.body.value] := rfl
theorem msI_eq (l : List Msg) : msI l = .sl 12 (l.map enMsg) := rfl
theorem msA_eq (m : Msg) : msA m = .agg [.val (.int .i64 m.kind), .val (.int .i64 m.from_), .val (.int .i64 m.to_), .val (.int .i64 m.session), .val (.int .i64 m.seq), .iv (spI m.interest), .iv (stI m.vector), .iv (noI m.notes), .val (.int .i64 m.body.object), .val (.int .i64 m.body.stamp.count), .val (.int .i64 m.body.stamp.node), .iv (byI m.body.value)] := rfl
/-- which subscription is asked for anew -/
def dueB (bl : List Span) (s : Sub) : Bool := !(s.heard && !(s.live && s.idle && touchS s.interest bl))
def renewSub (s : Sub) (t : Int) : Sub := ⟨s.from_, s.interest, t, 0, false, true, false⟩
def renewMsg (me : Int) (s : Sub) (t : Int) (v : List Stamp) : Msg := ⟨1, me, s.from_, t, 0, s.interest, v, [], ⟨0, ⟨0, 0⟩, []⟩⟩
structure RenewA where
  done : List Sub
  msgs : List Msg
  tries : Int
def renewStep (bl : List Span) (me : Int) (sn : List Span → List Stamp) (a : RenewA) (s : Sub) : RenewA :=
  if dueB bl s = true then ⟨a.done ++ [renewSub s (nextN a.tries)], a.msgs ++ [renewMsg me s (nextN a.tries) (sn s.interest)], nextN a.tries⟩ else ⟨a.done ++ [{ s with heard := false }], a.msgs, a.tries⟩
def renewAll (bl : List Span) (me : Int) (sn : List Span → List Stamp) (l : List Sub) (t : Int) : RenewA := l.foldl (renewStep bl me sn) ⟨[], [], t⟩
def renewS (l : List Sub) (me tries : Int) (v : View) : RenewA × Int := if (subsFormed l && nodeB me && numB tries && viewFormed v) = true then (renewAll (blurredS v.zones) me (sinceV v) l tries, 0) else (⟨[], [], 0⟩, 1)
end Go.Proofs.YtaiekfeiaamemaaGreatDoor
