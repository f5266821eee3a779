/- Bodies: right, how many bytes they have; the reference's form. -/
import Derived.Test.YtkphfdmelfhnoaaGreatDoorPZones
import Derived.Test.YtkphfdmelfhnoaaGreatDoorPShelf
set_option linter.all false
set_option linter.unnecessarySimpa false
set_option linter.unusedSimpArgs false
set_option linter.unusedVariables false
namespace Go.Proofs.YtkphfdmelfhnoaaGreatDoor
open Go.ChangeShapes Go.WideShapes Go.ChangeAt Go.RowKit
attribute [local irreducible] AW AWY vops vopsY vop vopL vdraw callW qop binQ lenQ storeQ appendQ callQ ACalls AIter setI
attribute [local go_sem] enZ_eq znI_eq storeQ_bp storeQ_rp
theorem rep_set : (rep 256 (.bool false)).map IV.val = setI fun _ => false := List.ext_getElem? fun o => by
 unfold rep
 rw [List.map_replicate, List.getElem?_replicate]
 by_cases ho : o < 256
 ·rw [if_pos ho, setI_at ho]
 ·rw [if_neg ho, List.getElem?_eq_none (by rw [setI_len]; omega)]
theorem setI_put {f : Nat → Bool} {p : Nat} {b : Bool} (hp : p < 256) : (setI f).set p (.val (.bool b)) = setI fun o => if o = p then b else f o := List.ext_getElem? fun o => by
 rw [List.getElem?_set]
 by_cases e : p = o
 ·subst e; rw [if_pos rfl, setI_len, if_pos hp, setI_at hp, if_pos rfl]
 ·rw [if_neg e]
  by_cases ho : o < 256
  ·rw [setI_at ho, setI_at ho, if_neg fun h => e h.symm]
  ·rw [List.getElem?_eq_none (by rw [setI_len]; omega), List.getElem?_eq_none (by rw [setI_len]; omega)]
theorem zoneIx_any (l : List Zone) (o : Int) : decide (0 ≤ zoneIx l o) = l.any fun x => x.has o := by
 unfold zoneIx
 rw [Bool.eq_iff_iff, decide_eq_true_eq, List.any_eq_true, ← List.findIdx_lt_length]
 by_cases h : l.findIdx (fun x => x.has o) < l.length
 ·rw [if_pos h]; simp [h]
 ·rw [if_neg h]; simp [h]
set_option maxRecDepth 100000 in
theorem zblur_call (z : List Zone) : ACalls Tryz.prog TzTab 108 [.iv (znI z)] (.iv (spI (blurredS z))) [] := by
 refine ACalls.ofS (n := 24) (rs := [.tmp 2]) Tryz.func108 rfl (by kernel_rfl) Tryz.ntmps108 (by kernel_rfl) (by simp) (fun _ _ => TzTab.later) ?_
 intro hok V w0
 have hlen : z.length ≤ 1073741824 := by simpa [znI] using hok.1.1
 refine g ?_
 repeat' (first | refine st_ rfl (g ?_) | refine cond_ (fun h => g ?_) (fun h => g ?_) | refine call_ (zformed_call _) rfl (g ?_))
 ·rw [blurredS, if_neg (by simpa using h)]
  exact nil_sub 2
 rw [blurredS, if_pos (by simpa using h)]
 refine AW.adopt 3 9900 78 2 rfl rfl ?_
 refine AW.loop (fun m : {m : Nat // m ≤ z.length} => ⟨[(3, .own 9900), (9, .iv (znI z)), (10, .val (.int .i64 (z.length : Nat))), (11, .val (.int .i64 (m.1 : Nat)))], [.row 9900 78 2 (((z.take m.1).map (·.span)).map enSp)]⟩) (fun m => z.length - m.1) ⟨0, Nat.zero_le _⟩ id ⟨⟨rfl, rfl, rfl, rfl, trivial⟩, ⟨rfl, trivial⟩, by simp [idsOf, BA.id]⟩ fun ⟨m, hm⟩ => ?_
 repeat (refine AW.seq ?_)
 refine AW.reg rfl fun KK hKK => ?_
 refine g ?_
 repeat' (refine hKK _ (g ?_); clear hKK KK)
 repeat (refine AW.seq ?_)
 refine st_ rfl ?_
 refine g ?_
 refine cond_d (fun h => ?_) (fun h => ?_)
 ·refine g ?_
  repeat' (first | refine st_ rfl (g ?_) | refine ix_ (by omega) (g ?_))
  have hlt : m < z.length := by omega
  obtain ⟨-, o1, o2, -⟩ := okR_mem (by simpa [znI] using hok.1.2) (enZ z[m]) (List.mem_map_of_mem (List.getElem_mem hlt))
  refine bs1 (by omega) rfl rfl rfl ⟨o1, o2, trivial⟩ ?_
  refine g ?_
  refine append_own rfl (by kernel_rfl) (by omega) (by kernel_rfl) rfl (by simp; omega) ?_
  refine g ?_
  repeat' refine st_ rfl (g ?_)
  refine ⟨⟨m + 1, hlt⟩, fun b => if b = 9900 then 2000 else b, ⟨⟨rfl, rfl, rfl, rfl, trivial⟩, ⟨?_, trivial⟩, by simp [idsOf]⟩, by show z.length - (m + 1) < z.length - m; omega⟩
  rw [List.take_succ_eq_append_getElem hlt, List.map_append, List.map_append]
  rfl
 ·obtain rfl : m = z.length := by omega
  rw [List.take_length]
  refine AW.freeze 9900 _ rfl trivial ?_
  simp only [go_sem, reduceIte, Nat.reduceEqDiff]
  refine g ?_
  repeat' refine st_ rfl (g ?_)
  refine bs1 (by omega) rfl rfl rfl ⟨trivial, trivial⟩ ?_
  refine g ?_
  refine call_l (sjoin_call [z.map (·.span)] (by simp [sumSpan]; omega)) (by simp [okBk, okAs, okA, okV]) rfl (flat_row (flat_sp _)) (by exact Sbs.rfl_ _) rfl ?_
  refine g ?_
  refine AW.freeze 2400 _ rfl trivial ?_
  simp only [go_sem, reduceIte, Nat.reduceEqDiff]
  refine g ?_
  repeat' refine st_ rfl (g ?_)
  simp only [List.flatten_cons, List.flatten_nil, List.append_nil]
  exact Sub1.rfl_ _
set_option maxRecDepth 100000 in
theorem rzblur_call (z : List Zone) : ACalls Tryz.prog TzTab 120 [.iv (znI z)] (.iv (spI (blurredS z))) [] := by
 refine ACalls.ofS (n := 20) (rs := [.tmp 2]) Tryz.func120 rfl (by kernel_rfl) Tryz.ntmps120 (by kernel_rfl) (by simp) (fun _ _ => TzTab.later) ?_
 intro hok V w0
 have hlen : z.length ≤ 1073741824 := by simpa [znI] using hok.1.1
 refine g ?_
 repeat' (first | refine st_ rfl (g ?_) | refine cond_ (fun h => g ?_) (fun h => g ?_) | refine call_ (rzformed_call _) rfl (g ?_))
 ·rw [blurredS, if_neg (by simpa using h)]
  exact nil_sub 2
 rw [blurredS, if_pos (by simpa using h)]
 refine AW.loop (fun m : {m : Nat // m ≤ 256} => ⟨[(0, .iv (znI z)), (3, .bp 400 0), (4, .val (.int .i64 (m.1 : Nat)))], [.arr 400 (setI fun o => decide (o < m.1) && (z.any fun x => x.has o))]⟩) (fun m => 256 - m.1) ⟨0, Nat.zero_le _⟩ id ⟨⟨rfl, rfl, rfl, trivial⟩, ⟨?_, trivial⟩, by simp [idsOf, BA.id]⟩ fun ⟨m, hm⟩ => ?_
 ·exact congrArg (fun C => some (BA.arr 400 C)) (rep_set.trans (setI_congr fun o ho => by simp))
 refine g ?_
 repeat' (first | refine st_ rfl (g ?_) | refine cond_d (fun h => g ?_) (fun h => g ?_) | refine call_ (rzat_call _ _) rfl (g ?_))
 ·refine ⟨by omega, h, ?_⟩
  rw [Nat.mul_one, Nat.zero_add]
  refine g ?_
  repeat' refine hold_ (g ?_)
  refine ⟨_, rfl, ⟨trivial, trivial⟩, by rw [setI_len]; omega, ?_⟩
  refine g ?_
  repeat' (first | refine st_ rfl (g ?_) | refine hold_ (g ?_))
  refine ⟨⟨m + 1, by omega⟩, id, ⟨⟨rfl, rfl, rfl, trivial⟩, ⟨congrArg (fun C => some (BA.arr 400 C)) ?_, trivial⟩, by simp [idsOf, BA.id]⟩, by show 256 - (m + 1) < 256 - m; omega⟩
  rw [setI_put (by omega)]
  refine setI_congr fun o ho => ?_
  by_cases e : o = m
  ·subst e
   rw [if_pos rfl, zoneIx_any]
   simp
  ·rw [if_neg e]
   congr 1
   rw [decide_eq_decide]
   show o < m ↔ o < m + 1
   omega
 ·obtain rfl : m = 256 := by omega
  refine ⟨(setI_len _).symm, ?_⟩
  refine g ?_
  repeat' (first | refine st_ rfl (g ?_) | refine call_ (rsofD _) rfl (g ?_))
  rw [show ofSet (fun o => decide (o < 256) && z.any fun x => x.has o) = tidyS (z.map (·.span)) from ofSet_congr fun o ho => by
   rw [decide_eq_true ho, Bool.true_and, memB, List.any_map]
   rfl]
  exact Sub1.rfl_ _
end Go.Proofs.YtkphfdmelfhnoaaGreatDoor
namespace Go.Proofs.YtkphfdmelfhnoaaGreatDoor
open Go.ChangeShapes Go.WideShapes Go.ChangeAt Go.RowKit
attribute [local irreducible] AW AWY vops vopsY vop vopL vdraw callW qop binQ lenQ storeQ appendQ callQ ACalls AIter setI
attribute [local go_sem] enB_eq boI_eq boA_eq byI_eq storeQ_bp storeQ_rp
theorem bright_call (x : Body) : ACalls Tryz.prog TzTab 172 [boA x] (.val (.bool (rightBody x))) [] := by
 refine ACalls.of (n := 22) (rs := [.tmp 2]) Tryz.func172 rfl (by kernel_rfl) Tryz.ntmps172 (by kernel_rfl) (by simp) (fun _ _ => TzTab.later) ?_
 intro hok V w0
 obtain ⟨B, hB⟩ : ∃ B, rightBody x = B := ⟨_, rfl⟩
 rw [hB]
 unfold rightBody rightO at hB
 refine g ?_
 repeat' (first | refine st_ rfl (g ?_) | (refine vops_ifd rfl rfl (fun h e => ?_) (fun h e => ?_) <;> simp only [e] <;> clear e <;> refine g ?_) | (refine vops_if rfl rfl (fun h => ?_) (fun h => ?_) <;> simp only [h] <;> refine g ?_) | refine call_ (right_call _ _) rfl (g ?_))
 all_goals (rw [← hB, Bool.eq_iff_iff]; simp [*]; try omega)
theorem rbright_call (x : Body) : ACalls Tryz.prog TzTab 139 [boA x] (.val (.bool (rightBody x))) [] := by
 refine ACalls.of (n := 22) (rs := [.tmp 2]) Tryz.func139 rfl (by kernel_rfl) Tryz.ntmps139 (by kernel_rfl) (by simp) (fun _ _ => TzTab.later) ?_
 intro hok V w0
 obtain ⟨B, hB⟩ : ∃ B, rightBody x = B := ⟨_, rfl⟩
 rw [hB]
 unfold rightBody rightO at hB
 refine g ?_
 repeat' (first | refine st_ rfl (g ?_) | (refine vops_ifd rfl rfl (fun h e => ?_) (fun h e => ?_) <;> simp only [e] <;> clear e <;> refine g ?_) | (refine vops_if rfl rfl (fun h => ?_) (fun h => ?_) <;> simp only [h] <;> refine g ?_) | refine call_ (rright_call _ _) rfl (g ?_))
 all_goals (rw [← hB, Bool.eq_iff_iff]; simp [*]; try omega)
theorem used_call (l : List Body) (hl : l.length ≤ 1000) (hb : ∀ x ∈ l, x.value.length ≤ 256) : ACalls Tryz.prog TzTab 173 [.iv (boI l)] (.val (.int .i64 (usedS l : Nat))) [] := by
 refine ACalls.of (n := 19) (rs := [.tmp 2]) Tryz.func173 rfl (by kernel_rfl) Tryz.ntmps173 (by kernel_rfl) (by simp) (fun _ _ => TzTab.later) ?_
 intro hok V w0
 refine g ?_
 repeat' refine st_ rfl (g ?_)
 refine AW.loop (fun m : {m : Nat // m ≤ l.length} => ⟨[(3, .val (.int .i64 (usedS (l.take m.1) : Nat))), (6, .iv (boI l)), (7, .val (.int .i64 (l.length : Nat))), (8, .val (.int .i64 (m.1 : Nat)))], []⟩) (fun m => l.length - m.1) ⟨0, Nat.zero_le _⟩ id ⟨⟨rfl, rfl, rfl, rfl, trivial⟩, trivial, List.nodup_nil⟩ fun ⟨m, hm⟩ => ?_
 have hu := used_le (l.take m) fun x hx => hb x (List.mem_of_mem_take hx)
 rw [List.length_take] at hu
 by_cases hlt : m < l.length
 ·have hv := hb l[m] (List.getElem_mem hlt)
  have hs := used_step hlt
  refine g ?_
  repeat' (first | refine st_ rfl (g ?_) | refine cond_d (fun h => g ?_) (fun h => g ?_) | refine ix_ (by omega) (g ?_))
  ·refine ⟨⟨m + 1, hlt⟩, id, ⟨⟨by rw [hs]; rfl, rfl, rfl, rfl, trivial⟩, trivial, List.nodup_nil⟩, by show l.length - (m + 1) < l.length - m; omega⟩
  ·omega
 ·obtain rfl : m = l.length := by omega
  refine g ?_
  repeat' (first | refine st_ rfl (g ?_) | refine cond_d (fun h => g ?_) (fun h => g ?_) | refine ix_ (by omega) (g ?_))
  ·omega
  ·rw [List.take_length]
theorem rused_call (l : List Body) (hl : l.length ≤ 1000) (hb : ∀ x ∈ l, x.value.length ≤ 256) : ACalls Tryz.prog TzTab 193 [.iv (boI l)] (.val (.int .i64 (usedS l : Nat))) [] := by
 refine ACalls.of (n := 20) (rs := [.tmp 2]) Tryz.func193 rfl (by kernel_rfl) Tryz.ntmps193 (by kernel_rfl) (by simp) (fun _ _ => TzTab.later) ?_
 intro hok V w0
 refine g ?_
 repeat' refine st_ rfl (g ?_)
 refine AW.loop (fun m : {m : Nat // m ≤ l.length} => ⟨[(0, .iv (boI l)), (3, .val (.int .i64 (usedS (l.take m.1) : Nat))), (4, .val (.int .i64 (m.1 : Nat)))], []⟩) (fun m => l.length - m.1) ⟨0, Nat.zero_le _⟩ id ⟨⟨rfl, rfl, rfl, trivial⟩, trivial, List.nodup_nil⟩ fun ⟨m, hm⟩ => ?_
 have hu := used_le (l.take m) fun x hx => hb x (List.mem_of_mem_take hx)
 rw [List.length_take] at hu
 by_cases hlt : m < l.length
 ·have hv := hb l[m] (List.getElem_mem hlt)
  have hs := used_step hlt
  refine g ?_
  repeat' (first | refine st_ rfl (g ?_) | refine cond_d (fun h => g ?_) (fun h => g ?_) | refine ix_ (by omega) (g ?_))
  ·refine ⟨⟨m + 1, hlt⟩, id, ⟨⟨rfl, by rw [hs]; rfl, rfl, trivial⟩, trivial, List.nodup_nil⟩, by show l.length - (m + 1) < l.length - m; omega⟩
  ·omega
 ·obtain rfl : m = l.length := by omega
  refine g ?_
  repeat' (first | refine st_ rfl (g ?_) | refine cond_d (fun h => g ?_) (fun h => g ?_) | refine ix_ (by omega) (g ?_))
  ·omega
  ·rw [List.take_length]
set_option maxRecDepth 100000 in
theorem rcformed_call (l : List Body) (room : Int) (iR : I64 room) : ACalls Tryz.prog TzTab 127 [.iv (boI l), .val (.int .i64 room)] (.val (.bool (cacheFormed l room))) [] := by
 refine ACalls.of (n := 49) (rs := [.tmp 4]) Tryz.func127 rfl (by kernel_rfl) Tryz.ntmps127 (by kernel_rfl) (by simp) (fun _ _ => TzTab.later) ?_
 intro hok V w0
 have hlen : l.length ≤ 1073741824 := by simpa [boI] using hok.1.1
 obtain ⟨B, hB⟩ : ∃ B, cacheFormed l room = B := ⟨_, rfl⟩
 rw [hB]
 unfold cacheFormed roomB at hB
 refine g ?_
 repeat' (first | refine st_ rfl (g ?_) | refine cond_d (fun h => g ?_) (fun h => g ?_) | (refine vops_ifd rfl rfl (fun h e => ?_) (fun h e => ?_) <;> simp only [e] <;> clear e <;> refine g ?_))
 ·rw [← hB, decide_eq_false (p := 0 ≤ room) (by omega)]; rfl
 ·rw [← hB, decide_eq_false (p := room ≤ 16777216) (by omega)]; simp
 ·rw [← hB, decide_eq_false (p := l.length ≤ 256) (by omega)]; simp
 rw [decide_eq_true (p := 0 ≤ room) (by omega), decide_eq_true (p := room ≤ 16777216) (by omega), decide_eq_true (p := l.length ≤ 256) (by omega), Bool.true_and, Bool.true_and, Bool.true_and] at hB
 refine AW.loop (fun m : {m : Nat // m ≤ l.length ∧ onceB (l.take m) = true} => ⟨[(0, .iv (boI l)), (1, .val (.int .i64 room)), (5, .bp 600 0), (6, .val (.int .i64 (m.1 : Nat)))], [.arr 600 (setI fun o => hasB (l.take m.1) o)]⟩) (fun m => l.length - m.1) ⟨0, Nat.zero_le _, rfl⟩ id ⟨⟨rfl, rfl, rfl, rfl, trivial⟩, ⟨?_, trivial⟩, by simp [idsOf, BA.id]⟩ fun ⟨m, hm, ht⟩ => ?_
 ·exact congrArg (fun C => some (BA.arr 600 C)) (rep_set.trans (setI_congr fun o ho => rfl))
 refine g ?_
 repeat' (first | refine st_ rfl (g ?_) | refine cond_d (fun h => g ?_) (fun h => g ?_) | (refine vops_if rfl rfl (fun h => ?_) (fun h => ?_) <;> simp only [h] <;> refine g ?_) | refine ix_ (by omega) (g ?_) | refine call_ (rbright_call _) rfl (g ?_))
 ·rw [← hB, once_no (by omega) ht (.inl (by simpa using h))]; rfl
 ·have hlt : m < l.length := by omega
  have hr : rightBody l[m] = true := by simpa using h
  obtain ⟨r1, r2, r3⟩ := rightBody_in hr
  have hto : ((l[m].object.toNat : Nat) : Int) = l[m].object := by omega
  refine ⟨r1, r2, ?_⟩
  rw [Nat.mul_one, Nat.zero_add]
  refine g ?_
  repeat' refine hold_ (g ?_)
  refine ⟨_, setI_at (by omega), ?_⟩
  rw [hto]
  refine g ?_
  repeat' (first | refine st_ rfl (g ?_) | refine hold_ (g ?_) | refine cond_ (fun h => g ?_) (fun h => g ?_) | refine ix_ (by omega) (g ?_))
  ·rw [← hB, once_no hlt ht (.inr h)]; rfl
  ·refine ⟨r1, r2, ?_⟩
   rw [Nat.mul_one, Nat.zero_add]
   refine g ?_
   repeat' refine hold_ (g ?_)
   refine ⟨_, rfl, ⟨trivial, trivial⟩, by rw [setI_len]; omega, ?_⟩
   refine g ?_
   repeat' (first | refine st_ rfl (g ?_) | refine hold_ (g ?_))
   refine ⟨⟨m + 1, hlt, by rw [once_step hlt ht, hr, h]; rfl⟩, id, ⟨⟨rfl, rfl, rfl, rfl, trivial⟩, ⟨congrArg (fun C => some (BA.arr 600 C)) ?_, trivial⟩, by simp [idsOf, BA.id]⟩, by show l.length - (m + 1) < l.length - m; omega⟩
   rw [setI_put (by omega)]
   refine setI_congr fun o ho => ?_
   rw [hasB_snoc hlt]
   by_cases e : o = l[m].object.toNat
   ·rw [if_pos e, e, hto]; simp
   ·rw [if_neg e, decide_eq_false (by omega), Bool.or_false]
 ·obtain rfl : m = l.length := by omega
  rw [List.take_length] at ht
  refine call_ (rused_call l (by omega) fun x hx => (rightBody_in (once_right ht x hx)).2.2) rfl ?_
  refine g ?_
  repeat' refine st_ rfl (g ?_)
  rw [← hB, ht]; rfl
end Go.Proofs.YtkphfdmelfhnoaaGreatDoor
