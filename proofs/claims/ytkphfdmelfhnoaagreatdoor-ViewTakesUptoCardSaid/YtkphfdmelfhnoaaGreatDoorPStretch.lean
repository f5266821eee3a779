/- A reach, node by node, as far as a note goes on where it ends (the program's). -/
import Derived.Test.YtkphfdmelfhnoaaGreatDoorPPieces
import Derived.Test.YtkphfdmelfhnoaaGreatDoorPTakeLaw
set_option linter.all false
set_option linter.unnecessarySimpa false
set_option linter.unusedSimpArgs false
set_option linter.unusedVariables false
namespace Go.Proofs.YtkphfdmelfhnoaaGreatDoor
open Go.ChangeShapes Go.WideShapes Go.ChangeAt Go.RowKit
attribute [local irreducible] AW AWY vops vopsY vop vopL vdraw callW qop binQ lenQ storeQ appendQ callQ ACalls AIter cntI
attribute [local go_sem] storeQ_bp storeQ_rp
def onBits (f : Nat → Int) (M n : Nat) : Int := if M.testBit n = true then f n else 0
end Go.Proofs.YtkphfdmelfhnoaaGreatDoor
namespace Go.Proofs.YtkphfdmelfhnoaaGreatDoor
open Go.ChangeShapes Go.WideShapes Go.ChangeAt Go.RowKit
attribute [local irreducible] vops vopsY vop vopL vdraw callW qop binQ lenQ storeQ appendQ callQ ACalls AIter
attribute [local go_sem] storeQ_bp storeQ_rp
section
variable {V w0 : World} {n : Nd} {ro : Option Nat} {σ : AState} {K : Exit → AState → Prop}
end
def enX (x : Fin 64) : List AV := [.val (.int .i64 (x.1 : Nat)), .any]
attribute [local irreducible] cntI AW
section
variable {V w0 : World} {n : Nd} {K : Exit → AState → Prop}
end
def mixMin (f d : Nat → Int) (pre : List (Fin 64)) (n : Nat) : Int := if pre.any (fun x => decide (x.1 = n)) = true then min (f n) (d n) else f n
structure MeetS (ls : List (List Stamp)) where
 i : Nat
 f : Nat → Int
 M : Nat
 h0 : 0 < i
 hi : i ≤ ls.length
 hM : M < 18446744073709551616
 hf : ∀ n, n < 64 → I64 (f n)
 pos : ∀ n, n < 64 → M.testBit n = true → 0 < f n
 is : ∀ n, n < 64 → onBits f M n = meetC (ls.take i) n
end Go.Proofs.YtkphfdmelfhnoaaGreatDoor
namespace Go.Proofs.YtkphfdmelfhnoaaGreatDoor
open Go.ChangeShapes Go.WideShapes Go.ChangeAt Go.RowKit
attribute [local irreducible] AW AWY vops vopsY vop vopL vdraw callW qop binQ lenQ storeQ appendQ callQ ACalls AIter cntI
attribute [local go_sem] noteA_eq storeQ_bp storeQ_rp
def farP (v : List Stamp) (n : Note) (pre : List (Fin 64)) (o : Nat) : Int := if pre.any (fun x => decide (x.1 = o)) = true then stretchC v n o else countOf v o
theorem stretchC_nonneg (v : List Stamp) (n : Note) (o : Nat) : 0 ≤ stretchC v n o := by
 have := countOf_nonneg v o
 unfold stretchC
 split <;> omega
theorem farP_nonneg (v : List Stamp) (n : Note) (pre : List (Fin 64)) (o : Nat) : 0 ≤ farP v n pre o := by
 have := countOf_nonneg v o
 have := stretchC_nonneg v n o
 unfold farP
 split <;> omega
theorem farP_snoc {v : List Stamp} {n : Note} {pre : List (Fin 64)} {x : Fin 64} {o : Nat} : farP v n (pre ++ [x]) o = if o = x.1 then stretchC v n x.1 else farP v n pre o := by
 unfold farP
 rw [List.any_append]
 simp only [List.any_cons, List.any_nil, Bool.or_false]
 by_cases e : o = x.1
 ·subst e; simp
 ·rw [if_neg e, decide_eq_false (fun h => e h.symm), Bool.or_false]
theorem farP_at {v : List Stamp} {n : Note} {pre : List (Fin 64)} {x : Fin 64} : farP v n pre x.1 = stretchC v n x.1 ∨ farP v n pre x.1 = countOf v x.1 := by
 unfold farP
 split
 ·exact .inl rfl
 ·exact .inr rfl
theorem farP_no {v : List Stamp} {n : Note} {pre : List (Fin 64)} {x : Fin 64} (h : ¬ (countOf v x.1 < countOf n.end_ x.1 ∧ countOf n.start x.1 ≤ countOf v x.1)) : vecOf (farP v n (pre ++ [x])) = vecOf (farP v n pre) :=
 vecOf_congr fun o ho => by
  rw [farP_snoc]
  split
  ·rename_i e
   subst e
   have hs : stretchC v n x.1 = countOf v x.1 := by
    unfold stretchC
    split <;> omega
   rcases farP_at (v := v) (n := n) (pre := pre) (x := x) with e | e <;> omega
  ·rfl
theorem countOf_one {c : Int} {k : Nat} (h : rightB c k = true) (o : Nat) : countOf [⟨c, k⟩] o = if o = k then c else 0 := by
 simp only [countOf, h, and_true]
 by_cases e : o = k
 ·subst e; simp
 ·rw [if_neg e, if_neg (by omega)]
theorem farP_yes {v : List Stamp} {n : Note} {pre : List (Fin 64)} {x : Fin 64} (h1 : countOf v x.1 < countOf n.end_ x.1) (h2 : countOf n.start x.1 ≤ countOf v x.1) (hr : rightB (countOf n.end_ x.1) x.1 = true) : joinS [vecOf (farP v n pre), [⟨countOf n.end_ x.1, (x.1 : Nat)⟩]] = vecOf (farP v n (pre ++ [x])) :=
 vecOf_congr fun o ho => by
  rw [joinC_two, countOf_vecOf _ ho (farP_nonneg _ _ _ _), countOf_one hr, farP_snoc]
  have h3 := farP_nonneg v n pre o
  by_cases e : o = x.1
  ·subst e
   rw [if_pos rfl, if_pos rfl]
   have hs : stretchC v n x.1 = countOf n.end_ x.1 := by
    unfold stretchC
    rw [if_pos h2]; omega
   rcases farP_at (v := v) (n := n) (pre := pre) (x := x) with e | e <;> omega
  ·rw [if_neg e, if_neg e]; omega
theorem farP_nil {v : List Stamp} (hv : vecFormed v = true) (n : Note) : vecOf (farP v n []) = v := by
 have : vecOf (farP v n []) = vecOf fun k => countOf v k := vecOf_congr fun o _ => by simp [farP]
 rw [this, vecOf_count hv]
theorem farP_all {v : List Stamp} {n : Note} {xs : List (Fin 64)} (h : xs.map (·.1) = nodesOf (maskOf n.end_) 64) : vecOf (farP v n xs) = farS v n :=
 vecOf_congr fun o ho => by
  unfold farP
  split
  ·rfl
  ·rename_i hh
   have : o ∉ nodesOf (maskOf n.end_) 64 := fun hm => hh (by
    rw [← h, List.mem_map] at hm
    obtain ⟨x, h1, h2⟩ := hm
    exact List.any_eq_true.2 ⟨x, h1, by simpa using h2⟩)
   rw [mem_nodesOf, maskOf_bit ho] at this
   have h0 : countOf n.end_ o = 0 := by
    by_cases e : countOf n.end_ o = 0
    ·exact e
    ·exact absurd ⟨ho, by simp [e]⟩ this
   have := countOf_nonneg v o
   unfold stretchC
   rw [h0]
   split <;> omega
theorem vwithD (l : List Stamp) (s : Stamp) (i1 : I64 s.count) (i2 : I64 s.node) : ACalls Tryz.prog TzTab 177 [.iv (stI l), .agg [.val (.int .i64 s.count), .val (.int .i64 s.node)]] (.iv (stI (joinS [l, [s]]))) [] := (vwith_call l s i1 i2).frz trivial
set_option maxRecDepth 100000 in
set_option maxHeartbeats 1600000 in
theorem stretched_call (v : List Stamp) (n : Note) (hv : vecFormed v = true) : ACalls Tryz.prog TzTab 156 [.iv (stI v), noteA n] (.iv (stI (farS v n))) [] := by
 refine ACalls.ofS (n := 35) (rs := [.tmp 4]) Tryz.func156 rfl (by kernel_rfl) Tryz.ntmps156 (by kernel_rfl) (by simp) (fun _ _ => TzTab.later) ?_
 intro hok V w0
 refine g ?_
 refine AW.seq ?_
 refine AW.reg rfl fun KK hKK => ?_
 refine g ?_
 repeat' (refine hKK _ (g ?_); clear hKK KK)
 refine AW.freeze 300 _ rfl ⟨trivial, trivial⟩ ?_
 simp only [go_sem, reduceIte, Nat.reduceEqDiff]
 refine AW.freeze 400 _ rfl ⟨trivial, trivial, trivial, trivial, trivial⟩ ?_
 simp only [go_sem, reduceIte, Nat.reduceEqDiff]
 refine g ?_
 repeat' (first | refine st_ rfl (g ?_) | refine call_ (all_call _) rfl (g ?_))
 have hI : ∀ k : Int, I64 (countOf n.end_ k) := fun k => by
  refine countOf_i64 (fun s hs => ?_) k
  obtain ⟨-, h2, -⟩ := okR_mem hok.2.1.2.1.2 (enSt s) (List.mem_map_of_mem hs)
  exact h2
 refine AW.le (S := ⟨[(5, .bp 600 0), (2, .ip [stI v]), (3, .ip [stI n.start, stI n.end_, spI n.blur, wrI n.writes]), (12, .fn 248 [.ip [.pt (cntI (fun k => countOf n.end_ k) (maskOf n.end_))]])], [.box 600 [.iv (stI (vecOf (farP v n [])))]]⟩) (ρ := id) ⟨⟨rfl, rfl, rfl, rfl, trivial⟩, ⟨by rw [farP_nil hv]; rfl, trivial⟩, by simp [idsOf, BA.id]⟩ ?_
 refine AW.range (each_iter (fun k => countOf n.end_ k) (maskOf n.end_) (maskOf_lt _)) [(5, .bp 600 0)] [(2, .ip [stI v]), (3, .ip [stI n.start, stI n.end_, spI n.blur, wrI n.writes]), (12, .fn 248 [.ip [.pt (cntI (fun k => countOf n.end_ k) (maskOf n.end_))]])] (fun pre => [.box 600 [.iv (stI (vecOf (farP v n pre)))]]) (fun _ => True) rfl trivial rfl rfl rfl rfl (fun x => ⟨rfl, rfl⟩) (fun c pre x hsp _ => ?_) (fun xs hS _ => ?_)
 ·have hm : x.1 ∈ nodesOf (maskOf n.end_) 64 := hsp.subset (by simp)
  rw [mem_nodesOf, maskOf_bit x.2] at hm
  have hne : countOf n.end_ x.1 ≠ 0 := by simpa using hm.2
  have hpos := countOf_pos hne
  have hr : rightB (countOf n.end_ x.1) x.1 = true := decide_eq_true ⟨hpos, by omega, by have := x.2; omega⟩
  have hx := x.2
  simp only [parF, enE, List.cons_append, List.nil_append]
  refine g ?_
  refine g ?_
  repeat' (first | refine st_ rfl (g ?_) | refine cond_d (fun h => g ?_) (fun h => g ?_) | (refine vops_ifd rfl rfl (fun h e => ?_) (fun h e => ?_) <;> simp only [e] <;> clear e <;> refine g ?_) | refine call_ (vcount_call _ _) rfl (g ?_) | refine call_ (vwithD (vecOf (farP v n pre)) ⟨countOf n.end_ x.1, (x.1 : Nat)⟩ (hI _) (I64.of (by show (-9223372036854775808 : Int) ≤ (x.1 : Nat); omega) (by show ((x.1 : Nat) : Int) ≤ 9223372036854775807; omega))) rfl (g ?_))
  ·rename_i h1
   exact ⟨trivial, id, ⟨rfl, trivial⟩, ⟨congrArg (fun l => some (BA.box 600 [.iv (stI l)])) (farP_yes h1 h hr), trivial⟩, by simp [idsOf, BA.id]⟩
  ·exact ⟨trivial, id, ⟨rfl, trivial⟩, ⟨congrArg (fun l => some (BA.box 600 [.iv (stI l)])) (farP_no (fun q => h q.2)).symm, trivial⟩, by simp [idsOf, BA.id]⟩
  ·exact ⟨trivial, id, ⟨rfl, trivial⟩, ⟨congrArg (fun l => some (BA.box 600 [.iv (stI l)])) (farP_no (fun q => h q.1)).symm, trivial⟩, by simp [idsOf, BA.id]⟩
 ·refine g ?_
  rw [farP_all hS]
  refine g ?_
  repeat' refine st_ rfl (g ?_)
  exact Sub1.rfl_ _
end Go.Proofs.YtkphfdmelfhnoaaGreatDoor
