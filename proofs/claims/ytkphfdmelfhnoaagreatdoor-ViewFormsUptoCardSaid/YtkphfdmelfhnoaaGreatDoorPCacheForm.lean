/- Whether bodies are as they must be (the program's): a set that is kept in a map. -/
import Derived.Test.YtkphfdmelfhnoaaGreatDoorPShelfAll
import Derived.Test.YtkphfdmelfhnoaaGreatDoorPRefView
set_option linter.all false
set_option linter.unnecessarySimpa false
set_option linter.unusedSimpArgs false
set_option linter.unusedVariables false
namespace Go.Proofs.YtkphfdmelfhnoaaGreatDoor
open Go.ChangeShapes Go.WideShapes Go.ChangeAt Go.RowKit
attribute [local irreducible] AW AWY vops vopsY vop vopL vdraw callW qop binQ lenQ storeQ appendQ callQ ACalls AIter setI
attribute [local go_sem] enB_eq boI_eq boA_eq byI_eq enW_eq wrI_eq wA_eq enZ_eq znI_eq vwA_eq storeQ_bp storeQ_rp
set_option maxRecDepth 100000 in
set_option maxHeartbeats 1600000 in
theorem view_of (hc : ∀ (l : List Body) (room : Int), I64 room → ACalls Tryz.prog TzTab 92 [.iv (boI l), .val (.int .i64 room)] (.val (.bool (cacheFormed l room))) []) (v : View) (iR : I64 v.room) : ACalls Tryz.prog TzTab 22 [vwA v] (.val (.bool (viewFormed v))) [] := by
 refine ACalls.of (n := 62) (rs := [.cell 2 4]) Tryz.func22 rfl (by kernel_rfl) Tryz.ntmps22 (by kernel_rfl) (by simp) (fun _ _ => TzTab.later) ?_
 intro hok V w0
 have hz : v.zones.length ≤ 1073741824 := by simpa [znI] using hok.1.2.1.1
 obtain ⟨B, hB⟩ : ∃ B, viewFormed v = B := ⟨_, rfl⟩
 rw [hB]
 refine g ?_
 refine AW.seq ?_
 refine AW.reg rfl fun KK hKK => ?_
 refine g ?_
 repeat' (first | refine hold_ (g ?_) | (refine hKK _ (g ?_); clear hKK KK) | exact trivial)
 refine AW.freeze 200 _ rfl ⟨trivial, trivial, trivial, trivial, iR, trivial⟩ ?_
 simp only [go_sem, reduceIte, Nat.reduceEqDiff]
 refine g ?_
 repeat' (first | refine st_ rfl (g ?_) | refine hold_ (g ?_) | exact trivial | refine cond_d (fun h => g ?_) (fun h => g ?_) | refine cond_ (fun h => g ?_) (fun h => g ?_) | (refine vops_ifd rfl rfl (fun h e => ?_) (fun h e => ?_) <;> simp only [e] <;> clear e <;> refine g ?_) | (refine vops_if rfl rfl (fun h => ?_) (fun h => ?_) <;> simp only [h] <;> refine g ?_) | refine ix_ (by omega) (g ?_) | refine call_ (vformed_call _) rfl (g ?_) | refine call_ (zformed_call _) rfl (g ?_) | refine call_ (shformed_call _) rfl (g ?_) | refine call_ (hc _ _ iR) rfl (g ?_))
 ·rw [← hB]; simp at h; simp [viewFormed, partsB, h]
 ·rw [← hB]; simp at h; simp [viewFormed, partsB, h]
 ·rw [← hB]; simp at h; simp [viewFormed, partsB, h]
 ·rw [← hB]; simp at h; simp [viewFormed, partsB, h]
 have hP : partsB v = true := by simp at *; simp [partsB, *]
 have hH : shelfFormed v.held = true := by simp only [partsB, Bool.and_eq_true] at hP; exact hP.1.2
 refine AW.loop (fun m : {m : Nat // m ≤ v.zones.length ∧ ∀ x ∈ v.zones.take m, decide (cmpV x.vec v.known = 1) = true} => ⟨[(1, .ip [stI v.known, znI v.zones, wrI v.held, boI v.bodies, .val (.int .i64 v.room)]), (2, .bp 300 0), (32, .iv (znI v.zones)), (33, .val (.int .i64 (v.zones.length : Nat))), (34, .val (.int .i64 (m.1 : Nat)))], [.box 300 [.val (.bool false)]]⟩) (fun m => v.zones.length - m.1) ⟨0, Nat.zero_le _, fun x hx => by simp at hx⟩ id ⟨⟨rfl, rfl, rfl, rfl, rfl, trivial⟩, ⟨rfl, trivial⟩, by simp [idsOf, BA.id]⟩ fun ⟨m, hm, ht⟩ => ?_
 refine g ?_
 repeat' (first | refine st_ rfl (g ?_) | refine hold_ (g ?_) | exact trivial | refine cond_d (fun h => g ?_) (fun h => g ?_) | refine cond_ (fun h => g ?_) (fun h => g ?_) | (refine vops_ifd rfl rfl (fun h e => ?_) (fun h e => ?_) <;> simp only [e] <;> clear e <;> refine g ?_) | (refine vops_if rfl rfl (fun h => ?_) (fun h => ?_) <;> simp only [h] <;> refine g ?_) | refine ix_ (by omega) (g ?_) | refine call_ (vcompare_call _ _) rfl (g ?_) | refine call_ (shall_call _) rfl (g ?_))
 ·have hlt : m < v.zones.length := by omega
  rw [← hB]; simp only [viewFormed]; rw [all_no (l := v.zones) (p := fun (x : Zone) => decide (cmpV x.vec v.known = 1)) hlt (by simpa using h)]; simp
 ·exact ⟨⟨m + 1, by omega, all_step (by omega) ht (by simpa using h)⟩, id, ⟨⟨rfl, rfl, rfl, rfl, rfl, trivial⟩, ⟨rfl, trivial⟩, by simp [idsOf, BA.id]⟩, by show v.zones.length - (m + 1) < v.zones.length - m; omega⟩
 obtain rfl : m = v.zones.length := by omega
 rw [List.take_length] at ht
 have h1 : (v.zones.all fun x => decide (cmpV x.vec v.known = 1)) = true := List.all_eq_true.2 ht
 refine AW.le (S := ⟨[(2, .bp 300 0), (1, .ip [stI v.known, znI v.zones, wrI v.held, boI v.bodies, .val (.int .i64 v.room)]), (47, .fn 174 [.ip [wrI v.held]])], [.box 300 [.val (.bool false)]]⟩) (ρ := id) ⟨⟨rfl, rfl, rfl, trivial⟩, ⟨rfl, trivial⟩, by simp [idsOf, BA.id]⟩ ?_
 refine AW.range (shall_iter v.held hH) [(2, .bp 300 0)] [(1, .ip [stI v.known, znI v.zones, wrI v.held, boI v.bodies, .val (.int .i64 v.room)]), (47, .fn 174 [.ip [wrI v.held]])] (fun _ => [.box 300 [.val (.bool false)]]) (fun pre => ∀ w ∈ pre, reachedB v.zones v.known w = true) rfl (fun w hw => by cases hw) rfl rfl rfl rfl (fun x => ⟨rfl, rfl⟩) (fun k pre x hsp hI => ?_) (fun xs hS hI => ?_)
 ·simp only [parF, enWo, List.cons_append, List.nil_append]
  refine g ?_
  refine g ?_
  repeat' (first | refine st_ rfl (g ?_) | refine hold_ (g ?_) | exact trivial | refine cond_d (fun h => g ?_) (fun h => g ?_) | refine cond_ (fun h => g ?_) (fun h => g ?_) | (refine vops_ifd rfl rfl (fun h e => ?_) (fun h e => ?_) <;> simp only [e] <;> clear e <;> refine g ?_) | (refine vops_if rfl rfl (fun h => ?_) (fun h => ?_) <;> simp only [h] <;> refine g ?_) | refine ix_ (by omega) (g ?_) | refine call_ (reached_call _ _ x) rfl (g ?_))
  ·refine ⟨id, [.box 300 [.val (.bool false)]], ⟨⟨rfl, trivial⟩, ⟨rfl, trivial⟩, by simp [idsOf, BA.id]⟩, ?_⟩
   refine g ?_
   repeat' (first | refine st_ rfl (g ?_) | refine hold_ (g ?_) | exact trivial | refine cond_d (fun h => g ?_) (fun h => g ?_) | refine cond_ (fun h => g ?_) (fun h => g ?_) | (refine vops_ifd rfl rfl (fun h e => ?_) (fun h e => ?_) <;> simp only [e] <;> clear e <;> refine g ?_) | (refine vops_if rfl rfl (fun h => ?_) (fun h => ?_) <;> simp only [h] <;> refine g ?_) | refine ix_ (by omega) (g ?_))
   have hx : x ∈ v.held := hsp.subset (by simp)
   rw [← hB]
   simp only [viewFormed]
   rw [show (v.held.all fun w => reachedB v.zones v.known w) = false from List.all_eq_false.2 ⟨x, hx, by simpa using h⟩]
   simp
  ·refine ⟨fun w hw => ?_, id, ⟨rfl, trivial⟩, ⟨rfl, trivial⟩, by simp [idsOf, BA.id]⟩
   rcases List.mem_append.1 hw with h3 | h3
   ·exact hI w h3
   ·rw [List.mem_singleton.1 h3]; simpa using h
 ·obtain rfl : xs = v.held := hS
  have h2 : (v.held.all fun x => reachedB v.zones v.known x) = true := List.all_eq_true.2 hI
  refine g ?_
  repeat' (first | refine st_ rfl (g ?_) | refine hold_ (g ?_) | exact trivial | refine cond_d (fun h => g ?_) (fun h => g ?_) | refine cond_ (fun h => g ?_) (fun h => g ?_) | (refine vops_ifd rfl rfl (fun h e => ?_) (fun h e => ?_) <;> simp only [e] <;> clear e <;> refine g ?_) | (refine vops_if rfl rfl (fun h => ?_) (fun h => ?_) <;> simp only [h] <;> refine g ?_) | refine ix_ (by omega) (g ?_) | refine call_ (hasfb_call _ _ _ _ (fun x => formed1_call v x hH)) rfl (g ?_))
  rw [← hB]
  simp only [viewFormed]
  rw [hP, h1, h2, List.not_any_eq_all_not]
  simp
end Go.Proofs.YtkphfdmelfhnoaaGreatDoor
namespace Go.Proofs.YtkphfdmelfhnoaaGreatDoor
open Go.ChangeShapes Go.WideShapes Go.ChangeAt Go.RowKit
attribute [local irreducible] AW AWY vops vopsY vop vopL vdraw callW qop binQ lenQ storeQ appendQ callQ ACalls AIter setI
attribute [local go_sem] enB_eq boI_eq boA_eq byI_eq storeQ_bp storeQ_rp
set_option maxRecDepth 100000 in
theorem cformed_call (l : List Body) (room : Int) (iR : I64 room) : ACalls Tryz.prog TzTab 92 [.iv (boI l), .val (.int .i64 room)] (.val (.bool (cacheFormed l room))) [] := by
 refine ACalls.of (n := 43) (rs := [.tmp 4]) Tryz.func92 rfl (by kernel_rfl) Tryz.ntmps92 (by kernel_rfl) (by simp) (fun _ _ => TzTab.later) ?_
 intro hok V w0
 have hlen : l.length ≤ 1073741824 := by simpa [boI] using hok.1.1
 obtain ⟨B, hB⟩ : ∃ B, cacheFormed l room = B := ⟨_, rfl⟩
 rw [hB]
 unfold cacheFormed roomB at hB
 refine g ?_
 repeat' (first | refine st_ rfl (g ?_) | refine hold_ (g ?_) | exact trivial | refine cond_d (fun h => g ?_) (fun h => g ?_) | refine cond_ (fun h => g ?_) (fun h => g ?_) | (refine vops_ifd rfl rfl (fun h e => ?_) (fun h e => ?_) <;> simp only [e] <;> clear e <;> refine g ?_) | (refine vops_if rfl rfl (fun h => ?_) (fun h => ?_) <;> simp only [h] <;> refine g ?_) | refine ix_ (by omega) (g ?_))
 ·rw [← hB, decide_eq_false (p := 0 ≤ room) (by omega)]; rfl
 ·rw [← hB, decide_eq_false (p := room ≤ 16777216) (by omega)]; simp
 ·rw [← hB, decide_eq_false (p := l.length ≤ 256) (by omega)]; simp
 rw [decide_eq_true (p := 0 ≤ room) (by omega), decide_eq_true (p := room ≤ 16777216) (by omega), decide_eq_true (p := l.length ≤ 256) (by omega), Bool.true_and, Bool.true_and, Bool.true_and] at hB
 refine AW.loop (fun x : {x : Nat × List (Int × Value) // x.1 ≤ l.length ∧ onceB (l.take x.1) = true ∧ ∀ o, (kvGet x.2 o).getD (.bool false) = .bool (hasB (l.take x.1) o)} => ⟨[(0, .iv (boI l)), (1, .val (.int .i64 room)), (5, .mv 2000), (20, .iv (boI l)), (21, .val (.int .i64 (l.length : Nat))), (22, .val (.int .i64 (x.1.1 : Nat)))], [.mp 2000 .i64 x.1.2]⟩) (fun x => l.length - x.1.1) ⟨(0, []), Nat.zero_le _, rfl, fun o => rfl⟩ id ⟨⟨rfl, rfl, rfl, rfl, rfl, rfl, trivial⟩, ⟨rfl, trivial⟩, by simp [idsOf, BA.id]⟩ fun ⟨⟨m, kv⟩, hm, ht, hk⟩ => ?_
 simp only at hm ht hk
 refine g ?_
 repeat' (first | refine st_ rfl (g ?_) | refine hold_ (g ?_) | exact trivial | refine cond_d (fun h => g ?_) (fun h => g ?_) | refine cond_ (fun h => g ?_) (fun h => g ?_) | (refine vops_ifd rfl rfl (fun h e => ?_) (fun h e => ?_) <;> simp only [e] <;> clear e <;> refine g ?_) | (refine vops_if rfl rfl (fun h => ?_) (fun h => ?_) <;> simp only [h] <;> refine g ?_) | refine ix_ (by omega) (g ?_) | refine call_ (bright_call _) rfl (g ?_))
 ·have hlt : m < l.length := by omega
  refine ⟨.bool (hasB (l.take m) l[m].object), hk _, ?_⟩
  cases hh : hasB (l.take m) l[m].object
  ·refine g ?_
   repeat' (first | refine st_ rfl (g ?_) | refine hold_ (g ?_) | exact trivial | refine cond_d (fun h => g ?_) (fun h => g ?_) | refine cond_ (fun h => g ?_) (fun h => g ?_) | (refine vops_ifd rfl rfl (fun h e => ?_) (fun h e => ?_) <;> simp only [e] <;> clear e <;> refine g ?_) | (refine vops_if rfl rfl (fun h => ?_) (fun h => ?_) <;> simp only [h] <;> refine g ?_) | refine ix_ (by omega) (g ?_) | refine call_ (bright_call _) rfl (g ?_))
   ·rw [← hB, once_no hlt ht (.inl (by simpa using h))]; rfl
   ·have hr : rightBody l[m] = true := by simpa using h
    refine ⟨⟨(m + 1, _), hlt, by rw [once_step hlt ht, hr, hh]; rfl, fun o => ?_⟩, id, ⟨⟨rfl, rfl, rfl, rfl, rfl, rfl, trivial⟩, ⟨rfl, trivial⟩, by simp [idsOf, BA.id]⟩, by show l.length - (m + 1) < l.length - m; omega⟩
    rw [kvGet_put, hasB_snoc hlt]
    by_cases e : o = l[m].object
    ·rw [if_pos e, e]; simp
    ·rw [if_neg e, hk o, decide_eq_false (fun e' => e e'.symm), Bool.or_false]
  ·refine g ?_
   repeat' (first | refine st_ rfl (g ?_) | refine hold_ (g ?_) | exact trivial | refine cond_d (fun h => g ?_) (fun h => g ?_) | refine cond_ (fun h => g ?_) (fun h => g ?_) | (refine vops_ifd rfl rfl (fun h e => ?_) (fun h e => ?_) <;> simp only [e] <;> clear e <;> refine g ?_) | (refine vops_if rfl rfl (fun h => ?_) (fun h => ?_) <;> simp only [h] <;> refine g ?_) | refine ix_ (by omega) (g ?_))
   rw [← hB, once_no hlt ht (.inr hh)]; rfl
 ·obtain rfl : m = l.length := by omega
  rw [List.take_length] at ht
  refine call_ (used_call l (by omega) fun x hx => (rightBody_in (once_right ht x hx)).2.2) rfl ?_
  refine g ?_
  repeat' (first | refine st_ rfl (g ?_) | refine hold_ (g ?_) | exact trivial | refine cond_d (fun h => g ?_) (fun h => g ?_) | refine cond_ (fun h => g ?_) (fun h => g ?_) | (refine vops_ifd rfl rfl (fun h e => ?_) (fun h e => ?_) <;> simp only [e] <;> clear e <;> refine g ?_) | (refine vops_if rfl rfl (fun h => ?_) (fun h => ?_) <;> simp only [h] <;> refine g ?_) | refine ix_ (by omega) (g ?_))
  rw [← hB, ht]; rfl
end Go.Proofs.YtkphfdmelfhnoaaGreatDoor
