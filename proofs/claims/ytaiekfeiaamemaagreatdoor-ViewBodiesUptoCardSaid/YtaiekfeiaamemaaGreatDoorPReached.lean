/- Whether a write is reached, and a body wanted (the reference's); whether a write is reached (the program's). -/
import Derived.Test.YtaiekfeiaamemaaGreatDoorPZones
import Derived.Test.YtaiekfeiaamemaaGreatDoorPShelf
set_option linter.all false
set_option linter.unnecessarySimpa false
set_option linter.unusedSimpArgs false
set_option linter.unusedVariables false
namespace Go.Proofs.YtaiekfeiaamemaaGreatDoor
open Go.ChangeShapes Go.WideShapes Go.ChangeAt Go.RowKit
attribute [local irreducible] AW AWY vops vopsY vop vopL vdraw callW qop binQ lenQ storeQ appendQ callQ ACalls AIter setI
attribute [local go_sem] enZ_eq znI_eq storeQ_bp storeQ_rp
theorem rep_set : (rep 256 (.bool false)).map IV.val = setI fun _ => false := List.ext_getElem? fun o => by
 unfold rep
 rw [List.map_replicate, List.getElem?_replicate]
 by_cases ho : o < 256
 ·rw [if_pos ho, setI_at ho]
 ·rw [if_neg ho, List.getElem?_eq_none (by rw [setI_len]; omega)]
theorem setI_put {f : Nat → Bool} {p : Nat} {b : Bool} (hp : p < 256) : (setI f).set p (.val (.bool b)) = setI fun o => if o = p then b else f o := List.ext_getElem? fun o => by
 rw [List.getElem?_set]
 by_cases e : p = o
 ·subst e; rw [if_pos rfl, setI_len, if_pos hp, setI_at hp, if_pos rfl]
 ·rw [if_neg e]
  by_cases ho : o < 256
  ·rw [setI_at ho, setI_at ho, if_neg fun h => e h.symm]
  ·rw [List.getElem?_eq_none (by rw [setI_len]; omega), List.getElem?_eq_none (by rw [setI_len]; omega)]
theorem zoneIx_any (l : List Zone) (o : Int) : decide (0 ≤ zoneIx l o) = l.any fun x => x.has o := by
 unfold zoneIx
 rw [Bool.eq_iff_iff, decide_eq_true_eq, List.any_eq_true, ← List.findIdx_lt_length]
 by_cases h : l.findIdx (fun x => x.has o) < l.length
 ·rw [if_pos h]; simp [h]
 ·rw [if_neg h]; simp [h]
set_option maxRecDepth 100000 in
theorem zblur_call (z : List Zone) : ACalls Tryz.prog TzTab 73 [.iv (znI z)] (.iv (spI (blurredS z))) [] := by
 refine ACalls.ofS (n := 24) (rs := [.tmp 2]) Tryz.func73 rfl (by kernel_rfl) Tryz.ntmps73 (by kernel_rfl) (by simp) (fun _ _ => TzTab.later) ?_
 intro hok V w0
 have hlen : z.length ≤ 1073741824 := by simpa [znI] using hok.1.1
 refine g ?_
 repeat' (first | refine st_ rfl (g ?_) | refine hold_ (g ?_) | exact trivial | refine cond_d (fun h => g ?_) (fun h => g ?_) | refine cond_ (fun h => g ?_) (fun h => g ?_) | (refine vops_ifd rfl rfl (fun h e => ?_) (fun h e => ?_) <;> simp only [e] <;> clear e <;> refine g ?_) | (refine vops_if rfl rfl (fun h => ?_) (fun h => ?_) <;> simp only [h] <;> refine g ?_) | refine ix_ (by omega) (g ?_) | refine call_ (zformed_call _) rfl (g ?_))
 ·rw [blurredS, if_neg (by simpa using h)]
  exact nil_sub 2
 rw [blurredS, if_pos (by simpa using h)]
 refine AW.adopt 3 9900 46 2 rfl rfl ?_
 refine AW.loop (fun m : {m : Nat // m ≤ z.length} => ⟨[(3, .own 9900), (9, .iv (znI z)), (10, .val (.int .i64 (z.length : Nat))), (11, .val (.int .i64 (m.1 : Nat)))], [.row 9900 46 2 (((z.take m.1).map (·.span)).map enSp)]⟩) (fun m => z.length - m.1) ⟨0, Nat.zero_le _⟩ id ⟨⟨rfl, rfl, rfl, rfl, trivial⟩, ⟨rfl, trivial⟩, by simp [idsOf, BA.id]⟩ fun ⟨m, hm⟩ => ?_
 repeat (refine AW.seq ?_)
 refine AW.reg rfl fun KK hKK => ?_
 refine g ?_
 repeat' (first | refine hold_ (g ?_) | (refine hKK _ (g ?_); clear hKK KK) | exact trivial)
 repeat (refine AW.seq ?_)
 refine st_ rfl ?_
 refine g ?_
 refine cond_d (fun h => ?_) (fun h => ?_)
 ·refine g ?_
  repeat' (first | refine st_ rfl (g ?_) | refine hold_ (g ?_) | exact trivial | refine cond_d (fun h => g ?_) (fun h => g ?_) | refine cond_ (fun h => g ?_) (fun h => g ?_) | (refine vops_ifd rfl rfl (fun h e => ?_) (fun h e => ?_) <;> simp only [e] <;> clear e <;> refine g ?_) | (refine vops_if rfl rfl (fun h => ?_) (fun h => ?_) <;> simp only [h] <;> refine g ?_) | refine ix_ (by omega) (g ?_))
  have hlt : m < z.length := by omega
  obtain ⟨-, o1, o2, -⟩ := okR_mem (by simpa [znI] using hok.1.2) (enZ z[m]) (List.mem_map_of_mem (List.getElem_mem hlt))
  refine bs1 (by omega) rfl rfl rfl ⟨o1, o2, trivial⟩ ?_
  refine g ?_
  repeat' (first | refine st_ rfl (g ?_) | refine hold_ (g ?_) | exact trivial | refine cond_d (fun h => g ?_) (fun h => g ?_) | refine cond_ (fun h => g ?_) (fun h => g ?_) | (refine vops_ifd rfl rfl (fun h e => ?_) (fun h e => ?_) <;> simp only [e] <;> clear e <;> refine g ?_) | (refine vops_if rfl rfl (fun h => ?_) (fun h => ?_) <;> simp only [h] <;> refine g ?_) | refine ix_ (by omega) (g ?_))
  refine append_own rfl (by kernel_rfl) (by omega) (by kernel_rfl) rfl (by simp; omega) ?_
  refine g ?_
  repeat' (first | refine st_ rfl (g ?_) | refine hold_ (g ?_) | exact trivial | refine cond_d (fun h => g ?_) (fun h => g ?_) | refine cond_ (fun h => g ?_) (fun h => g ?_) | (refine vops_ifd rfl rfl (fun h e => ?_) (fun h e => ?_) <;> simp only [e] <;> clear e <;> refine g ?_) | (refine vops_if rfl rfl (fun h => ?_) (fun h => ?_) <;> simp only [h] <;> refine g ?_) | refine ix_ (by omega) (g ?_))
  refine ⟨⟨m + 1, hlt⟩, fun b => if b = 9900 then 2000 else b, ⟨⟨rfl, rfl, rfl, rfl, trivial⟩, ⟨?_, trivial⟩, by simp [idsOf]⟩, by show z.length - (m + 1) < z.length - m; omega⟩
  rw [List.take_succ_eq_append_getElem hlt, List.map_append, List.map_append]
  rfl
 ·obtain rfl : m = z.length := by omega
  rw [List.take_length]
  refine AW.freeze 9900 _ rfl trivial ?_
  simp only [go_sem, reduceIte, Nat.reduceEqDiff]
  refine g ?_
  repeat' (first | refine st_ rfl (g ?_) | refine hold_ (g ?_) | exact trivial | refine cond_d (fun h => g ?_) (fun h => g ?_) | refine cond_ (fun h => g ?_) (fun h => g ?_) | (refine vops_ifd rfl rfl (fun h e => ?_) (fun h e => ?_) <;> simp only [e] <;> clear e <;> refine g ?_) | (refine vops_if rfl rfl (fun h => ?_) (fun h => ?_) <;> simp only [h] <;> refine g ?_) | refine ix_ (by omega) (g ?_))
  refine bs1 (by omega) rfl rfl rfl ⟨trivial, trivial⟩ ?_
  refine g ?_
  repeat' (first | refine st_ rfl (g ?_) | refine hold_ (g ?_) | exact trivial | refine cond_d (fun h => g ?_) (fun h => g ?_) | refine cond_ (fun h => g ?_) (fun h => g ?_) | (refine vops_ifd rfl rfl (fun h e => ?_) (fun h e => ?_) <;> simp only [e] <;> clear e <;> refine g ?_) | (refine vops_if rfl rfl (fun h => ?_) (fun h => ?_) <;> simp only [h] <;> refine g ?_) | refine ix_ (by omega) (g ?_))
  refine call_l (sjoin_call [z.map (·.span)] (by simp [sumSpan]; omega)) (by simp [okBk, okAs, okA, okV]) rfl (flat_row (flat_sp _)) (by exact Sbs.rfl_ _) rfl ?_
  refine g ?_
  repeat' (first | ((fail_if_success refine AW.ret ?_); refine st_ rfl (g ?_)) | refine hold_ (g ?_) | exact trivial | refine cond_ (fun h => g ?_) (fun h => g ?_))
  refine AW.freeze 2400 _ rfl trivial ?_
  simp only [go_sem, reduceIte, Nat.reduceEqDiff]
  refine g ?_
  repeat' (first | refine st_ rfl (g ?_) | refine hold_ (g ?_) | exact trivial | refine cond_d (fun h => g ?_) (fun h => g ?_) | refine cond_ (fun h => g ?_) (fun h => g ?_) | (refine vops_ifd rfl rfl (fun h e => ?_) (fun h e => ?_) <;> simp only [e] <;> clear e <;> refine g ?_) | (refine vops_if rfl rfl (fun h => ?_) (fun h => ?_) <;> simp only [h] <;> refine g ?_) | refine ix_ (by omega) (g ?_))
  simp only [List.flatten_cons, List.flatten_nil, List.append_nil]
  exact Sub1.rfl_ _
set_option maxRecDepth 100000 in
theorem rzblur_call (z : List Zone) : ACalls Tryz.prog TzTab 79 [.iv (znI z)] (.iv (spI (blurredS z))) [] := by
 refine ACalls.ofS (n := 20) (rs := [.tmp 2]) Tryz.func79 rfl (by kernel_rfl) Tryz.ntmps79 (by kernel_rfl) (by simp) (fun _ _ => TzTab.later) ?_
 intro hok V w0
 have hlen : z.length ≤ 1073741824 := by simpa [znI] using hok.1.1
 refine g ?_
 repeat' (first | refine st_ rfl (g ?_) | refine hold_ (g ?_) | exact trivial | refine cond_d (fun h => g ?_) (fun h => g ?_) | refine cond_ (fun h => g ?_) (fun h => g ?_) | (refine vops_ifd rfl rfl (fun h e => ?_) (fun h e => ?_) <;> simp only [e] <;> clear e <;> refine g ?_) | (refine vops_if rfl rfl (fun h => ?_) (fun h => ?_) <;> simp only [h] <;> refine g ?_) | refine ix_ (by omega) (g ?_) | refine call_ (rzformed_call _) rfl (g ?_))
 ·rw [blurredS, if_neg (by simpa using h)]
  exact nil_sub 2
 rw [blurredS, if_pos (by simpa using h)]
 refine AW.loop (fun m : {m : Nat // m ≤ 256} => ⟨[(0, .iv (znI z)), (3, .bp 400 0), (4, .val (.int .i64 (m.1 : Nat)))], [.arr 400 (setI fun o => decide (o < m.1) && (z.any fun x => x.has o))]⟩) (fun m => 256 - m.1) ⟨0, Nat.zero_le _⟩ id ⟨⟨rfl, rfl, rfl, trivial⟩, ⟨?_, trivial⟩, by simp [idsOf, BA.id]⟩ fun ⟨m, hm⟩ => ?_
 ·exact congrArg (fun C => some (BA.arr 400 C)) (rep_set.trans (setI_congr fun o ho => by simp))
 refine g ?_
 repeat' (first | refine st_ rfl (g ?_) | refine hold_ (g ?_) | exact trivial | refine cond_d (fun h => g ?_) (fun h => g ?_) | refine cond_ (fun h => g ?_) (fun h => g ?_) | (refine vops_ifd rfl rfl (fun h e => ?_) (fun h e => ?_) <;> simp only [e] <;> clear e <;> refine g ?_) | (refine vops_if rfl rfl (fun h => ?_) (fun h => ?_) <;> simp only [h] <;> refine g ?_) | refine ix_ (by omega) (g ?_) | refine call_ (rzat_call _ _) rfl (g ?_))
 ·refine ⟨by omega, h, ?_⟩
  rw [Nat.mul_one, Nat.zero_add]
  refine g ?_
  repeat' (first | refine st_ rfl (g ?_) | refine hold_ (g ?_) | exact trivial | refine cond_d (fun h => g ?_) (fun h => g ?_) | refine cond_ (fun h => g ?_) (fun h => g ?_) | (refine vops_ifd rfl rfl (fun h e => ?_) (fun h e => ?_) <;> simp only [e] <;> clear e <;> refine g ?_) | (refine vops_if rfl rfl (fun h => ?_) (fun h => ?_) <;> simp only [h] <;> refine g ?_) | refine ix_ (by omega) (g ?_) | refine call_ (rzat_call _ _) rfl (g ?_))
  refine ⟨_, rfl, ⟨trivial, trivial⟩, by rw [setI_len]; omega, ?_⟩
  refine g ?_
  repeat' (first | refine st_ rfl (g ?_) | refine hold_ (g ?_) | exact trivial | refine cond_d (fun h => g ?_) (fun h => g ?_) | refine cond_ (fun h => g ?_) (fun h => g ?_) | (refine vops_ifd rfl rfl (fun h e => ?_) (fun h e => ?_) <;> simp only [e] <;> clear e <;> refine g ?_) | (refine vops_if rfl rfl (fun h => ?_) (fun h => ?_) <;> simp only [h] <;> refine g ?_) | refine ix_ (by omega) (g ?_) | refine call_ (rzat_call _ _) rfl (g ?_))
  refine ⟨⟨m + 1, by omega⟩, id, ⟨⟨rfl, rfl, rfl, trivial⟩, ⟨congrArg (fun C => some (BA.arr 400 C)) ?_, trivial⟩, by simp [idsOf, BA.id]⟩, by show 256 - (m + 1) < 256 - m; omega⟩
  rw [setI_put (by omega)]
  refine setI_congr fun o ho => ?_
  by_cases e : o = m
  ·subst e
   rw [if_pos rfl, zoneIx_any]
   simp
  ·rw [if_neg e]
   congr 1
   rw [decide_eq_decide]
   show o < m ↔ o < m + 1
   omega
 ·obtain rfl : m = 256 := by omega
  refine ⟨(setI_len _).symm, ?_⟩
  refine g ?_
  repeat' (first | refine st_ rfl (g ?_) | refine hold_ (g ?_) | exact trivial | refine cond_d (fun h => g ?_) (fun h => g ?_) | refine cond_ (fun h => g ?_) (fun h => g ?_) | (refine vops_ifd rfl rfl (fun h e => ?_) (fun h e => ?_) <;> simp only [e] <;> clear e <;> refine g ?_) | (refine vops_if rfl rfl (fun h => ?_) (fun h => ?_) <;> simp only [h] <;> refine g ?_) | refine ix_ (by omega) (g ?_) | refine call_ (rsofD _) rfl (g ?_))
  rw [show ofSet (fun o => decide (o < 256) && z.any fun x => x.has o) = tidyS (z.map (·.span)) from ofSet_congr fun o ho => by
   rw [decide_eq_true ho, Bool.true_and, memB, List.any_map]
   rfl]
  exact Sub1.rfl_ _
end Go.Proofs.YtaiekfeiaamemaaGreatDoor
namespace Go.Proofs.YtaiekfeiaamemaaGreatDoor
open Go.ChangeShapes Go.WideShapes Go.ChangeAt Go.RowKit
attribute [local irreducible] AW AWY vops vopsY vop vopL vdraw callW qop binQ lenQ storeQ appendQ callQ ACalls AIter setI
attribute [local go_sem] enB_eq boI_eq boA_eq byI_eq storeQ_bp storeQ_rp
theorem bright_call (x : Body) : ACalls Tryz.prog TzTab 190 [boA x] (.val (.bool (rightBody x))) [] := by
 refine ACalls.of (n := 22) (rs := [.tmp 2]) Tryz.func190 rfl (by kernel_rfl) Tryz.ntmps190 (by kernel_rfl) (by simp) (fun _ _ => TzTab.later) ?_
 intro hok V w0
 obtain ⟨B, hB⟩ : ∃ B, rightBody x = B := ⟨_, rfl⟩
 rw [hB]
 unfold rightBody rightO at hB
 refine g ?_
 repeat' (first | refine st_ rfl (g ?_) | refine hold_ (g ?_) | exact trivial | refine cond_d (fun h => g ?_) (fun h => g ?_) | refine cond_ (fun h => g ?_) (fun h => g ?_) | (refine vops_ifd rfl rfl (fun h e => ?_) (fun h e => ?_) <;> simp only [e] <;> clear e <;> refine g ?_) | (refine vops_if rfl rfl (fun h => ?_) (fun h => ?_) <;> simp only [h] <;> refine g ?_) | refine ix_ (by omega) (g ?_) | refine call_ (right_call _ _) rfl (g ?_))
 all_goals (rw [← hB, Bool.eq_iff_iff]; simp [*]; try omega)
theorem rbright_call (x : Body) : ACalls Tryz.prog TzTab 118 [boA x] (.val (.bool (rightBody x))) [] := by
 refine ACalls.of (n := 22) (rs := [.tmp 2]) Tryz.func118 rfl (by kernel_rfl) Tryz.ntmps118 (by kernel_rfl) (by simp) (fun _ _ => TzTab.later) ?_
 intro hok V w0
 obtain ⟨B, hB⟩ : ∃ B, rightBody x = B := ⟨_, rfl⟩
 rw [hB]
 unfold rightBody rightO at hB
 refine g ?_
 repeat' (first | refine st_ rfl (g ?_) | refine hold_ (g ?_) | exact trivial | refine cond_d (fun h => g ?_) (fun h => g ?_) | refine cond_ (fun h => g ?_) (fun h => g ?_) | (refine vops_ifd rfl rfl (fun h e => ?_) (fun h e => ?_) <;> simp only [e] <;> clear e <;> refine g ?_) | (refine vops_if rfl rfl (fun h => ?_) (fun h => ?_) <;> simp only [h] <;> refine g ?_) | refine ix_ (by omega) (g ?_) | refine call_ (rright_call _ _) rfl (g ?_))
 all_goals (rw [← hB, Bool.eq_iff_iff]; simp [*]; try omega)
theorem used_call (l : List Body) (hl : l.length ≤ 1000) (hb : ∀ x ∈ l, x.value.length ≤ 256) : ACalls Tryz.prog TzTab 191 [.iv (boI l)] (.val (.int .i64 (usedS l : Nat))) [] := by
 refine ACalls.of (n := 19) (rs := [.tmp 2]) Tryz.func191 rfl (by kernel_rfl) Tryz.ntmps191 (by kernel_rfl) (by simp) (fun _ _ => TzTab.later) ?_
 intro hok V w0
 refine g ?_
 repeat' (first | refine st_ rfl (g ?_) | refine hold_ (g ?_) | exact trivial | refine cond_d (fun h => g ?_) (fun h => g ?_) | refine cond_ (fun h => g ?_) (fun h => g ?_) | (refine vops_ifd rfl rfl (fun h e => ?_) (fun h e => ?_) <;> simp only [e] <;> clear e <;> refine g ?_) | (refine vops_if rfl rfl (fun h => ?_) (fun h => ?_) <;> simp only [h] <;> refine g ?_) | refine ix_ (by omega) (g ?_))
 refine AW.loop (fun m : {m : Nat // m ≤ l.length} => ⟨[(3, .val (.int .i64 (usedS (l.take m.1) : Nat))), (6, .iv (boI l)), (7, .val (.int .i64 (l.length : Nat))), (8, .val (.int .i64 (m.1 : Nat)))], []⟩) (fun m => l.length - m.1) ⟨0, Nat.zero_le _⟩ id ⟨⟨rfl, rfl, rfl, rfl, trivial⟩, trivial, List.nodup_nil⟩ fun ⟨m, hm⟩ => ?_
 have hu := used_le (l.take m) fun x hx => hb x (List.mem_of_mem_take hx)
 rw [List.length_take] at hu
 by_cases hlt : m < l.length
 ·have hv := hb l[m] (List.getElem_mem hlt)
  have hs := used_step hlt
  refine g ?_
  repeat' (first | refine st_ rfl (g ?_) | refine hold_ (g ?_) | exact trivial | refine cond_d (fun h => g ?_) (fun h => g ?_) | refine cond_ (fun h => g ?_) (fun h => g ?_) | (refine vops_ifd rfl rfl (fun h e => ?_) (fun h e => ?_) <;> simp only [e] <;> clear e <;> refine g ?_) | (refine vops_if rfl rfl (fun h => ?_) (fun h => ?_) <;> simp only [h] <;> refine g ?_) | refine ix_ (by omega) (g ?_))
  ·refine ⟨⟨m + 1, hlt⟩, id, ⟨⟨by rw [hs]; rfl, rfl, rfl, rfl, trivial⟩, trivial, List.nodup_nil⟩, by show l.length - (m + 1) < l.length - m; omega⟩
  ·omega
 ·obtain rfl : m = l.length := by omega
  refine g ?_
  repeat' (first | refine st_ rfl (g ?_) | refine hold_ (g ?_) | exact trivial | refine cond_d (fun h => g ?_) (fun h => g ?_) | refine cond_ (fun h => g ?_) (fun h => g ?_) | (refine vops_ifd rfl rfl (fun h e => ?_) (fun h e => ?_) <;> simp only [e] <;> clear e <;> refine g ?_) | (refine vops_if rfl rfl (fun h => ?_) (fun h => ?_) <;> simp only [h] <;> refine g ?_) | refine ix_ (by omega) (g ?_))
  ·omega
  ·rw [List.take_length]
theorem rused_call (l : List Body) (hl : l.length ≤ 1000) (hb : ∀ x ∈ l, x.value.length ≤ 256) : ACalls Tryz.prog TzTab 195 [.iv (boI l)] (.val (.int .i64 (usedS l : Nat))) [] := by
 refine ACalls.of (n := 20) (rs := [.tmp 2]) Tryz.func195 rfl (by kernel_rfl) Tryz.ntmps195 (by kernel_rfl) (by simp) (fun _ _ => TzTab.later) ?_
 intro hok V w0
 refine g ?_
 repeat' (first | refine st_ rfl (g ?_) | refine hold_ (g ?_) | exact trivial | refine cond_d (fun h => g ?_) (fun h => g ?_) | refine cond_ (fun h => g ?_) (fun h => g ?_) | (refine vops_ifd rfl rfl (fun h e => ?_) (fun h e => ?_) <;> simp only [e] <;> clear e <;> refine g ?_) | (refine vops_if rfl rfl (fun h => ?_) (fun h => ?_) <;> simp only [h] <;> refine g ?_) | refine ix_ (by omega) (g ?_))
 refine AW.loop (fun m : {m : Nat // m ≤ l.length} => ⟨[(0, .iv (boI l)), (3, .val (.int .i64 (usedS (l.take m.1) : Nat))), (4, .val (.int .i64 (m.1 : Nat)))], []⟩) (fun m => l.length - m.1) ⟨0, Nat.zero_le _⟩ id ⟨⟨rfl, rfl, rfl, trivial⟩, trivial, List.nodup_nil⟩ fun ⟨m, hm⟩ => ?_
 have hu := used_le (l.take m) fun x hx => hb x (List.mem_of_mem_take hx)
 rw [List.length_take] at hu
 by_cases hlt : m < l.length
 ·have hv := hb l[m] (List.getElem_mem hlt)
  have hs := used_step hlt
  refine g ?_
  repeat' (first | refine st_ rfl (g ?_) | refine hold_ (g ?_) | exact trivial | refine cond_d (fun h => g ?_) (fun h => g ?_) | refine cond_ (fun h => g ?_) (fun h => g ?_) | (refine vops_ifd rfl rfl (fun h e => ?_) (fun h e => ?_) <;> simp only [e] <;> clear e <;> refine g ?_) | (refine vops_if rfl rfl (fun h => ?_) (fun h => ?_) <;> simp only [h] <;> refine g ?_) | refine ix_ (by omega) (g ?_))
  ·refine ⟨⟨m + 1, hlt⟩, id, ⟨⟨rfl, by rw [hs]; rfl, rfl, trivial⟩, trivial, List.nodup_nil⟩, by show l.length - (m + 1) < l.length - m; omega⟩
  ·omega
 ·obtain rfl : m = l.length := by omega
  refine g ?_
  repeat' (first | refine st_ rfl (g ?_) | refine hold_ (g ?_) | exact trivial | refine cond_d (fun h => g ?_) (fun h => g ?_) | refine cond_ (fun h => g ?_) (fun h => g ?_) | (refine vops_ifd rfl rfl (fun h e => ?_) (fun h e => ?_) <;> simp only [e] <;> clear e <;> refine g ?_) | (refine vops_if rfl rfl (fun h => ?_) (fun h => ?_) <;> simp only [h] <;> refine g ?_) | refine ix_ (by omega) (g ?_))
  ·omega
  ·rw [List.take_length]
set_option maxRecDepth 100000 in
theorem rcformed_call (l : List Body) (room : Int) (iR : I64 room) : ACalls Tryz.prog TzTab 135 [.iv (boI l), .val (.int .i64 room)] (.val (.bool (cacheFormed l room))) [] := by
 refine ACalls.of (n := 49) (rs := [.tmp 4]) Tryz.func135 rfl (by kernel_rfl) Tryz.ntmps135 (by kernel_rfl) (by simp) (fun _ _ => TzTab.later) ?_
 intro hok V w0
 have hlen : l.length ≤ 1073741824 := by simpa [boI] using hok.1.1
 obtain ⟨B, hB⟩ : ∃ B, cacheFormed l room = B := ⟨_, rfl⟩
 rw [hB]
 unfold cacheFormed roomB at hB
 refine g ?_
 repeat' (first | refine st_ rfl (g ?_) | refine hold_ (g ?_) | exact trivial | refine cond_d (fun h => g ?_) (fun h => g ?_) | refine cond_ (fun h => g ?_) (fun h => g ?_) | (refine vops_ifd rfl rfl (fun h e => ?_) (fun h e => ?_) <;> simp only [e] <;> clear e <;> refine g ?_) | (refine vops_if rfl rfl (fun h => ?_) (fun h => ?_) <;> simp only [h] <;> refine g ?_) | refine ix_ (by omega) (g ?_))
 ·rw [← hB, decide_eq_false (p := 0 ≤ room) (by omega)]; rfl
 ·rw [← hB, decide_eq_false (p := room ≤ 16777216) (by omega)]; simp
 ·rw [← hB, decide_eq_false (p := l.length ≤ 256) (by omega)]; simp
 rw [decide_eq_true (p := 0 ≤ room) (by omega), decide_eq_true (p := room ≤ 16777216) (by omega), decide_eq_true (p := l.length ≤ 256) (by omega), Bool.true_and, Bool.true_and, Bool.true_and] at hB
 refine AW.loop (fun m : {m : Nat // m ≤ l.length ∧ onceB (l.take m) = true} => ⟨[(0, .iv (boI l)), (1, .val (.int .i64 room)), (5, .bp 600 0), (6, .val (.int .i64 (m.1 : Nat)))], [.arr 600 (setI fun o => hasB (l.take m.1) o)]⟩) (fun m => l.length - m.1) ⟨0, Nat.zero_le _, rfl⟩ id ⟨⟨rfl, rfl, rfl, rfl, trivial⟩, ⟨?_, trivial⟩, by simp [idsOf, BA.id]⟩ fun ⟨m, hm, ht⟩ => ?_
 ·exact congrArg (fun C => some (BA.arr 600 C)) (rep_set.trans (setI_congr fun o ho => rfl))
 refine g ?_
 repeat' (first | refine st_ rfl (g ?_) | refine hold_ (g ?_) | exact trivial | refine cond_d (fun h => g ?_) (fun h => g ?_) | refine cond_ (fun h => g ?_) (fun h => g ?_) | (refine vops_ifd rfl rfl (fun h e => ?_) (fun h e => ?_) <;> simp only [e] <;> clear e <;> refine g ?_) | (refine vops_if rfl rfl (fun h => ?_) (fun h => ?_) <;> simp only [h] <;> refine g ?_) | refine ix_ (by omega) (g ?_) | refine call_ (rbright_call _) rfl (g ?_))
 ·rw [← hB, once_no (by omega) ht (.inl (by simpa using h))]; rfl
 ·have hlt : m < l.length := by omega
  have hr : rightBody l[m] = true := by simpa using h
  obtain ⟨r1, r2, r3⟩ := rightBody_in hr
  have hto : ((l[m].object.toNat : Nat) : Int) = l[m].object := by omega
  refine ⟨r1, r2, ?_⟩
  rw [Nat.mul_one, Nat.zero_add]
  refine g ?_
  repeat' (first | refine st_ rfl (g ?_) | refine hold_ (g ?_) | exact trivial | refine cond_d (fun h => g ?_) (fun h => g ?_) | refine cond_ (fun h => g ?_) (fun h => g ?_) | (refine vops_ifd rfl rfl (fun h e => ?_) (fun h e => ?_) <;> simp only [e] <;> clear e <;> refine g ?_) | (refine vops_if rfl rfl (fun h => ?_) (fun h => ?_) <;> simp only [h] <;> refine g ?_) | refine ix_ (by omega) (g ?_))
  refine ⟨_, setI_at (by omega), ?_⟩
  rw [hto]
  refine g ?_
  repeat' (first | refine st_ rfl (g ?_) | refine hold_ (g ?_) | exact trivial | refine cond_d (fun h => g ?_) (fun h => g ?_) | refine cond_ (fun h => g ?_) (fun h => g ?_) | (refine vops_ifd rfl rfl (fun h e => ?_) (fun h e => ?_) <;> simp only [e] <;> clear e <;> refine g ?_) | (refine vops_if rfl rfl (fun h => ?_) (fun h => ?_) <;> simp only [h] <;> refine g ?_) | refine ix_ (by omega) (g ?_))
  ·rw [← hB, once_no hlt ht (.inr h)]; rfl
  ·refine ⟨r1, r2, ?_⟩
   rw [Nat.mul_one, Nat.zero_add]
   refine g ?_
   repeat' (first | refine st_ rfl (g ?_) | refine hold_ (g ?_) | exact trivial | refine cond_d (fun h => g ?_) (fun h => g ?_) | refine cond_ (fun h => g ?_) (fun h => g ?_) | (refine vops_ifd rfl rfl (fun h e => ?_) (fun h e => ?_) <;> simp only [e] <;> clear e <;> refine g ?_) | (refine vops_if rfl rfl (fun h => ?_) (fun h => ?_) <;> simp only [h] <;> refine g ?_) | refine ix_ (by omega) (g ?_))
   refine ⟨_, rfl, ⟨trivial, trivial⟩, by rw [setI_len]; omega, ?_⟩
   refine g ?_
   repeat' (first | refine st_ rfl (g ?_) | refine hold_ (g ?_) | exact trivial | refine cond_d (fun h => g ?_) (fun h => g ?_) | refine cond_ (fun h => g ?_) (fun h => g ?_) | (refine vops_ifd rfl rfl (fun h e => ?_) (fun h e => ?_) <;> simp only [e] <;> clear e <;> refine g ?_) | (refine vops_if rfl rfl (fun h => ?_) (fun h => ?_) <;> simp only [h] <;> refine g ?_) | refine ix_ (by omega) (g ?_))
   refine ⟨⟨m + 1, hlt, by rw [once_step hlt ht, hr, h]; rfl⟩, id, ⟨⟨rfl, rfl, rfl, rfl, trivial⟩, ⟨congrArg (fun C => some (BA.arr 600 C)) ?_, trivial⟩, by simp [idsOf, BA.id]⟩, by show l.length - (m + 1) < l.length - m; omega⟩
   rw [setI_put (by omega)]
   refine setI_congr fun o ho => ?_
   rw [hasB_snoc hlt]
   by_cases e : o = l[m].object.toNat
   ·rw [if_pos e, e, hto]; simp
   ·rw [if_neg e, decide_eq_false (by omega), Bool.or_false]
 ·obtain rfl : m = l.length := by omega
  rw [List.take_length] at ht
  refine call_ (rused_call l (by omega) fun x hx => (rightBody_in (once_right ht x hx)).2.2) rfl ?_
  refine g ?_
  repeat' (first | refine st_ rfl (g ?_) | refine hold_ (g ?_) | exact trivial | refine cond_d (fun h => g ?_) (fun h => g ?_) | refine cond_ (fun h => g ?_) (fun h => g ?_) | (refine vops_ifd rfl rfl (fun h e => ?_) (fun h e => ?_) <;> simp only [e] <;> clear e <;> refine g ?_) | (refine vops_if rfl rfl (fun h => ?_) (fun h => ?_) <;> simp only [h] <;> refine g ?_) | refine ix_ (by omega) (g ?_))
  rw [← hB, ht]; rfl
end Go.Proofs.YtaiekfeiaamemaaGreatDoor
namespace Go.Proofs.YtaiekfeiaamemaaGreatDoor
open Go.ChangeShapes Go.WideShapes Go.ChangeAt Go.RowKit
attribute [local irreducible] AW AWY vops vopsY vop vopL vdraw callW qop binQ lenQ storeQ appendQ callQ ACalls AIter setI
attribute [local go_sem] storeQ_bp storeQ_rp
set_option maxRecDepth 100000 in
theorem vcompare_call (a b : List Stamp) : ACalls Tryz.prog TzTab 112 [.iv (stI a), .iv (stI b)] (.val (.int .i64 (cmpV a b))) [] := by
 refine ACalls.of (n := 22) (rs := [.tmp 4]) Tryz.func112 rfl (by kernel_rfl) Tryz.ntmps112 (by kernel_rfl) (by simp) (fun _ _ => TzTab.later) ?_
 intro hok V w0
 unfold cmpV
 have h1 := vcovers_call a b
 have h2 := vcovers_call b a
 generalize coversB a b = x at h1 ⊢
 generalize coversB b a = y at h2 ⊢
 cases x <;> cases y
 ·refine g ?_
  repeat' (first | refine st_ rfl (g ?_) | refine hold_ (g ?_) | exact trivial | refine cond_d (fun h => g ?_) (fun h => g ?_) | refine cond_ (fun h => g ?_) (fun h => g ?_) | (refine vops_ifd rfl rfl (fun h e => ?_) (fun h e => ?_) <;> simp only [e] <;> clear e <;> refine g ?_) | (refine vops_if rfl rfl (fun h => ?_) (fun h => ?_) <;> simp only [h] <;> refine g ?_) | refine ix_ (by omega) (g ?_))
  refine ⟨fun v hv => by simp at hv; subst hv; rfl, _, rfl, ⟨rfl, rfl, rfl, rfl, trivial⟩, ?_⟩
  refine g ?_
  repeat' (first | refine st_ rfl (g ?_) | refine hold_ (g ?_) | exact trivial | refine cond_d (fun h => g ?_) (fun h => g ?_) | refine cond_ (fun h => g ?_) (fun h => g ?_) | (refine vops_ifd rfl rfl (fun h e => ?_) (fun h e => ?_) <;> simp only [e] <;> clear e <;> refine g ?_) | (refine vops_if rfl rfl (fun h => ?_) (fun h => ?_) <;> simp only [h] <;> refine g ?_) | refine ix_ (by omega) (g ?_) | refine call_ (h1) rfl (g ?_) | refine call_ (h2) rfl (g ?_))
 ·refine g ?_
  repeat' (first | refine st_ rfl (g ?_) | refine hold_ (g ?_) | exact trivial | refine cond_d (fun h => g ?_) (fun h => g ?_) | refine cond_ (fun h => g ?_) (fun h => g ?_) | (refine vops_ifd rfl rfl (fun h e => ?_) (fun h e => ?_) <;> simp only [e] <;> clear e <;> refine g ?_) | (refine vops_if rfl rfl (fun h => ?_) (fun h => ?_) <;> simp only [h] <;> refine g ?_) | refine ix_ (by omega) (g ?_))
  refine ⟨fun v hv => by simp at hv; subst hv; rfl, _, rfl, ⟨rfl, rfl, rfl, rfl, trivial⟩, ?_⟩
  refine g ?_
  repeat' (first | refine st_ rfl (g ?_) | refine hold_ (g ?_) | exact trivial | refine cond_d (fun h => g ?_) (fun h => g ?_) | refine cond_ (fun h => g ?_) (fun h => g ?_) | (refine vops_ifd rfl rfl (fun h e => ?_) (fun h e => ?_) <;> simp only [e] <;> clear e <;> refine g ?_) | (refine vops_if rfl rfl (fun h => ?_) (fun h => ?_) <;> simp only [h] <;> refine g ?_) | refine ix_ (by omega) (g ?_) | refine call_ (h1) rfl (g ?_) | refine call_ (h2) rfl (g ?_))
 ·refine g ?_
  repeat' (first | refine st_ rfl (g ?_) | refine hold_ (g ?_) | exact trivial | refine cond_d (fun h => g ?_) (fun h => g ?_) | refine cond_ (fun h => g ?_) (fun h => g ?_) | (refine vops_ifd rfl rfl (fun h e => ?_) (fun h e => ?_) <;> simp only [e] <;> clear e <;> refine g ?_) | (refine vops_if rfl rfl (fun h => ?_) (fun h => ?_) <;> simp only [h] <;> refine g ?_) | refine ix_ (by omega) (g ?_))
  refine ⟨fun v hv => by simp at hv; subst hv; rfl, _, rfl, ⟨rfl, rfl, rfl, rfl, trivial⟩, ?_⟩
  refine g ?_
  repeat' (first | refine st_ rfl (g ?_) | refine hold_ (g ?_) | exact trivial | refine cond_d (fun h => g ?_) (fun h => g ?_) | refine cond_ (fun h => g ?_) (fun h => g ?_) | (refine vops_ifd rfl rfl (fun h e => ?_) (fun h e => ?_) <;> simp only [e] <;> clear e <;> refine g ?_) | (refine vops_if rfl rfl (fun h => ?_) (fun h => ?_) <;> simp only [h] <;> refine g ?_) | refine ix_ (by omega) (g ?_) | refine call_ (h1) rfl (g ?_) | refine call_ (h2) rfl (g ?_))
 ·refine g ?_
  repeat' (first | refine st_ rfl (g ?_) | refine hold_ (g ?_) | exact trivial | refine cond_d (fun h => g ?_) (fun h => g ?_) | refine cond_ (fun h => g ?_) (fun h => g ?_) | (refine vops_ifd rfl rfl (fun h e => ?_) (fun h e => ?_) <;> simp only [e] <;> clear e <;> refine g ?_) | (refine vops_if rfl rfl (fun h => ?_) (fun h => ?_) <;> simp only [h] <;> refine g ?_) | refine ix_ (by omega) (g ?_))
  refine ⟨fun v hv => by simp at hv; subst hv; rfl, _, rfl, ⟨rfl, rfl, rfl, rfl, trivial⟩, ?_⟩
  refine g ?_
  repeat' (first | refine st_ rfl (g ?_) | refine hold_ (g ?_) | exact trivial | refine cond_d (fun h => g ?_) (fun h => g ?_) | refine cond_ (fun h => g ?_) (fun h => g ?_) | (refine vops_ifd rfl rfl (fun h e => ?_) (fun h e => ?_) <;> simp only [e] <;> clear e <;> refine g ?_) | (refine vops_if rfl rfl (fun h => ?_) (fun h => ?_) <;> simp only [h] <;> refine g ?_) | refine ix_ (by omega) (g ?_) | refine call_ (h1) rfl (g ?_) | refine call_ (h2) rfl (g ?_))
set_option maxRecDepth 100000 in
theorem rvcompare_call (a b : List Stamp) : ACalls Tryz.prog TzTab 136 [.iv (stI a), .iv (stI b)] (.val (.int .i64 (cmpV a b))) [] := by
 refine ACalls.of (n := 22) (rs := [.tmp 4]) Tryz.func136 rfl (by kernel_rfl) Tryz.ntmps136 (by kernel_rfl) (by simp) (fun _ _ => TzTab.later) ?_
 intro hok V w0
 unfold cmpV
 have h1 := rvcovers_call a b
 have h2 := rvcovers_call b a
 generalize coversB a b = x at h1 ⊢
 generalize coversB b a = y at h2 ⊢
 cases x <;> cases y
 ·refine g ?_
  repeat' (first | refine st_ rfl (g ?_) | refine hold_ (g ?_) | exact trivial | refine cond_d (fun h => g ?_) (fun h => g ?_) | refine cond_ (fun h => g ?_) (fun h => g ?_) | (refine vops_ifd rfl rfl (fun h e => ?_) (fun h e => ?_) <;> simp only [e] <;> clear e <;> refine g ?_) | (refine vops_if rfl rfl (fun h => ?_) (fun h => ?_) <;> simp only [h] <;> refine g ?_) | refine ix_ (by omega) (g ?_) | refine call_ (h1) rfl (g ?_) | refine call_ (h2) rfl (g ?_))
 ·refine g ?_
  repeat' (first | refine st_ rfl (g ?_) | refine hold_ (g ?_) | exact trivial | refine cond_d (fun h => g ?_) (fun h => g ?_) | refine cond_ (fun h => g ?_) (fun h => g ?_) | (refine vops_ifd rfl rfl (fun h e => ?_) (fun h e => ?_) <;> simp only [e] <;> clear e <;> refine g ?_) | (refine vops_if rfl rfl (fun h => ?_) (fun h => ?_) <;> simp only [h] <;> refine g ?_) | refine ix_ (by omega) (g ?_) | refine call_ (h1) rfl (g ?_) | refine call_ (h2) rfl (g ?_))
 ·refine g ?_
  repeat' (first | refine st_ rfl (g ?_) | refine hold_ (g ?_) | exact trivial | refine cond_d (fun h => g ?_) (fun h => g ?_) | refine cond_ (fun h => g ?_) (fun h => g ?_) | (refine vops_ifd rfl rfl (fun h e => ?_) (fun h e => ?_) <;> simp only [e] <;> clear e <;> refine g ?_) | (refine vops_if rfl rfl (fun h => ?_) (fun h => ?_) <;> simp only [h] <;> refine g ?_) | refine ix_ (by omega) (g ?_) | refine call_ (h1) rfl (g ?_) | refine call_ (h2) rfl (g ?_))
 ·refine g ?_
  repeat' (first | refine st_ rfl (g ?_) | refine hold_ (g ?_) | exact trivial | refine cond_d (fun h => g ?_) (fun h => g ?_) | refine cond_ (fun h => g ?_) (fun h => g ?_) | (refine vops_ifd rfl rfl (fun h e => ?_) (fun h e => ?_) <;> simp only [e] <;> clear e <;> refine g ?_) | (refine vops_if rfl rfl (fun h => ?_) (fun h => ?_) <;> simp only [h] <;> refine g ?_) | refine ix_ (by omega) (g ?_) | refine call_ (h1) rfl (g ?_) | refine call_ (h2) rfl (g ?_))
end Go.Proofs.YtaiekfeiaamemaaGreatDoor
namespace Go.Proofs.YtaiekfeiaamemaaGreatDoor
open Go.ChangeShapes Go.WideShapes Go.ChangeAt Go.RowKit
attribute [local irreducible] AW AWY vops vopsY vop vopL vdraw callW qop binQ lenQ storeQ appendQ callQ ACalls AIter setI
attribute [local go_sem] enB_eq boI_eq boA_eq byI_eq enW_eq wrI_eq wA_eq enZ_eq znI_eq vwA_eq storeQ_bp storeQ_rp
set_option maxRecDepth 100000 in
theorem reached_call (z : List Zone) (known : List Stamp) (w : Write) : ACalls Tryz.prog TzTab 93 [.iv (znI z), .iv (stI known), wA w] (.val (.bool (reachedB z known w))) [] := by
 refine ACalls.of (n := 15) (rs := [.tmp 6]) Tryz.func93 rfl (by kernel_rfl) Tryz.ntmps93 (by kernel_rfl) (by simp) (fun _ _ => TzTab.later) ?_
 intro hok V w0
 refine g ?_
 repeat' (first | refine st_ rfl (g ?_) | refine hold_ (g ?_) | exact trivial | refine cond_d (fun h => g ?_) (fun h => g ?_) | refine cond_ (fun h => g ?_) (fun h => g ?_) | (refine hKD _ _ ⟨rfl, g ?_⟩; clear hKD KD) | ((first | refine vops_ifd rfl rfl (fun h e => ?_) (fun h e => ?_) | refine vdraw_ifd rfl rfl (fun h e => ?_) (fun h e => ?_)) <;> simp only [e] <;> clear e <;> refine g ?_) | ((first | refine vops_if rfl rfl (fun h => ?_) (fun h => ?_) | refine vdraw_if rfl rfl (fun h => ?_) (fun h => ?_)) <;> simp only [h] <;> refine g ?_) | refine ix_ (by omega) (g ?_))
 refine AW.drawn (ds := [7, 8, 9, 10, 11, 12, 13, 14, 6]) (fin := [0]) (bs := [1, 1, 1, 1, 1, 1, 1, 1, 1]) [⟨[], [], [], [], 0⟩, ⟨[], [], [], [], 0⟩, ⟨[], [], [], [], 0⟩, ⟨[(9, 2)], [], [0], [], 0⟩, ⟨[(7, 0), (8, 1), (10, 3)], [], [0], [], 0⟩, ⟨[], [], [], [], 0⟩, ⟨[(12, 5)], [], [0], [], 0⟩, ⟨[(11, 4), (13, 6)], [], [0], [], 0⟩, ⟨[(14, 7)], [], [], [], 0⟩] (by kernel_rfl) rfl (by kernel_rfl) rfl rfl rfl fun KD hKD => ?_
 refine g ?_
 repeat' (first | refine st_ rfl (g ?_) | refine hold_ (g ?_) | exact trivial | refine cond_d (fun h => g ?_) (fun h => g ?_) | refine cond_ (fun h => g ?_) (fun h => g ?_) | (refine hKD _ _ ⟨rfl, g ?_⟩; clear hKD KD) | ((first | refine vops_ifd rfl rfl (fun h e => ?_) (fun h e => ?_) | refine vdraw_ifd rfl rfl (fun h e => ?_) (fun h e => ?_)) <;> simp only [e] <;> clear e <;> refine g ?_) | ((first | refine vops_if rfl rfl (fun h => ?_) (fun h => ?_) | refine vdraw_if rfl rfl (fun h => ?_) (fun h => ?_)) <;> simp only [h] <;> refine g ?_) | refine ix_ (by omega) (g ?_) | refine call_ (zreach_call _ _ _) rfl (g ?_) | refine call_ (vhas_call _ w.stamp) rfl (g ?_))
 rfl
set_option maxRecDepth 100000 in
theorem rreached_call (v : View) (w : Write) : ACalls Tryz.prog TzTab 101 [vwA v, wA w] (.val (.bool (reachedB v.zones v.known w))) [] := by
 refine ACalls.of (n := 15) (rs := [.tmp 4]) Tryz.func101 rfl (by kernel_rfl) Tryz.ntmps101 (by kernel_rfl) (by simp) (fun _ _ => TzTab.later) ?_
 intro hok V w0
 refine g ?_
 repeat' (first | refine st_ rfl (g ?_) | refine hold_ (g ?_) | exact trivial | refine cond_d (fun h => g ?_) (fun h => g ?_) | refine cond_ (fun h => g ?_) (fun h => g ?_) | (refine hKD _ _ ⟨rfl, g ?_⟩; clear hKD KD) | ((first | refine vops_ifd rfl rfl (fun h e => ?_) (fun h e => ?_) | refine vdraw_ifd rfl rfl (fun h e => ?_) (fun h e => ?_)) <;> simp only [e] <;> clear e <;> refine g ?_) | ((first | refine vops_if rfl rfl (fun h => ?_) (fun h => ?_) | refine vdraw_if rfl rfl (fun h => ?_) (fun h => ?_)) <;> simp only [h] <;> refine g ?_) | refine ix_ (by omega) (g ?_))
 refine AW.drawn (ds := [5, 6, 7, 8, 9, 10, 11, 12, 13, 14, 4]) (fin := [0, 1]) (bs := [2, 2, 2, 2, 2, 2, 2, 2, 2, 2, 2]) [⟨[], [], [], [], 0⟩, ⟨[(5, 0)], [], [0, 1], [], 0⟩, ⟨[], [], [], [], 0⟩, ⟨[(7, 2)], [], [0, 1], [], 0⟩, ⟨[], [], [], [], 0⟩, ⟨[(9, 4)], [], [0, 1], [], 0⟩, ⟨[(6, 1), (8, 3), (10, 5)], [], [0, 1], [], 0⟩, ⟨[], [], [], [], 0⟩, ⟨[(12, 7)], [], [0, 1], [], 0⟩, ⟨[(11, 6), (13, 8)], [], [0, 1], [], 0⟩, ⟨[(14, 9)], [], [], [], 0⟩] (by kernel_rfl) rfl (by kernel_rfl) rfl rfl rfl fun KD hKD => ?_
 refine g ?_
 repeat' (first | refine st_ rfl (g ?_) | refine hold_ (g ?_) | exact trivial | refine cond_d (fun h => g ?_) (fun h => g ?_) | refine cond_ (fun h => g ?_) (fun h => g ?_) | (refine hKD _ _ ⟨rfl, g ?_⟩; clear hKD KD) | ((first | refine vops_ifd rfl rfl (fun h e => ?_) (fun h e => ?_) | refine vdraw_ifd rfl rfl (fun h e => ?_) (fun h e => ?_)) <;> simp only [e] <;> clear e <;> refine g ?_) | ((first | refine vops_if rfl rfl (fun h => ?_) (fun h => ?_) | refine vdraw_if rfl rfl (fun h => ?_) (fun h => ?_)) <;> simp only [h] <;> refine g ?_) | refine ix_ (by omega) (g ?_) | refine call_ (rzreach_call _ _ _) rfl (g ?_) | refine call_ (rvhas_call _ w.stamp) rfl (g ?_))
 rfl
theorem stamp_eq (x y : Operand) (p q r s : Int) (w : World) : (do eqGuard .eql 63 x y (.agg #[.int .i64 p, .int .i64 q]) (.agg #[.int .i64 r, .int .i64 s]); binOp .eql 63 (.agg #[.int .i64 p, .int .i64 q]) (.agg #[.int .i64 r, .int .i64 s]) : Sem Value).run Tryz.prog w = .ok (.bool (p == r && q == s)) w := by
 by_cases h1 : p = r <;> by_cases h2 : q = s <;> go_simp <;> simp [h1, h2]
theorem stamp_dec {a b : Stamp} : decide (a = b) = (a.count == b.count && a.node == b.node) := by
 obtain ⟨c, n⟩ := a
 obtain ⟨d, m⟩ := b
 by_cases h1 : c = d <;> by_cases h2 : n = m <;> simp [h1, h2]
set_option maxRecDepth 100000 in
theorem rwanted_call (v : View) (x : Body) : ACalls Tryz.prog TzTab 103 [vwA v, boA x] (.val (.bool (wantedB v.held x))) [] := by
 refine ACalls.of (n := 28) (rs := [.tmp 4]) Tryz.func103 rfl (by kernel_rfl) Tryz.ntmps103 (by kernel_rfl) (by simp) (fun _ _ => TzTab.later) ?_
 intro hok V w0
 obtain ⟨B, hB⟩ : ∃ B, wantedB v.held x = B := ⟨_, rfl⟩
 rw [hB]
 unfold wantedB wantedW at hB
 have hat := rat_call v.held x.object
 cases hg : getW v.held x.object with
 | none =>
  rw [hg] at hB hat
  refine g ?_
  repeat' (first | refine st_ rfl (g ?_) | refine hold_ (g ?_) | exact trivial | refine cond_d (fun h => g ?_) (fun h => g ?_) | refine cond_ (fun h => g ?_) (fun h => g ?_) | (refine vops_ifd rfl rfl (fun h e => ?_) (fun h e => ?_) <;> simp only [e] <;> clear e <;> refine g ?_) | (refine vops_if rfl rfl (fun h => ?_) (fun h => ?_) <;> simp only [h] <;> refine g ?_) | refine ix_ (by omega) (g ?_) | refine call_ (hat) rfl (g ?_))
  exact hB
 | some w =>
  rw [hg] at hB hat
  simp only [Option.getD_some, Option.isSome_some] at hat hB
  rw [stamp_dec] at hB
  refine g ?_
  repeat' (first | refine st_ rfl (g ?_) | refine hold_ (g ?_) | exact trivial | refine cond_d (fun h => g ?_) (fun h => g ?_) | refine cond_ (fun h => g ?_) (fun h => g ?_) | (refine vops_ifd rfl rfl (fun h e => ?_) (fun h e => ?_) <;> simp only [e] <;> clear e <;> refine g ?_) | (refine vops_if rfl rfl (fun h => ?_) (fun h => ?_) <;> simp only [h] <;> refine g ?_) | refine ix_ (by omega) (g ?_) | refine call_ (hat) rfl (g ?_))
  refine ⟨_, fun u => stamp_eq _ _ _ _ _ _ u, ?_⟩
  refine g ?_
  repeat' (first | refine st_ rfl (g ?_) | refine hold_ (g ?_) | exact trivial | refine cond_d (fun h => g ?_) (fun h => g ?_) | refine cond_ (fun h => g ?_) (fun h => g ?_) | (refine vops_ifd rfl rfl (fun h e => ?_) (fun h e => ?_) <;> simp only [e] <;> clear e <;> refine g ?_) | (refine vops_if rfl rfl (fun h => ?_) (fun h => ?_) <;> simp only [h] <;> refine g ?_) | refine ix_ (by omega) (g ?_))
  ·rw [← hB, h]; simp
  ·rw [← hB, h]; simp
end Go.Proofs.YtaiekfeiaamemaaGreatDoor
