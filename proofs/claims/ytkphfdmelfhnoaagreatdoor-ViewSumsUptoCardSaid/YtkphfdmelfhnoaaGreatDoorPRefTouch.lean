/- Whether two rows of spans share an object; up to where a view knows an interest sharply (the reference's). -/
import Derived.Test.YtkphfdmelfhnoaaGreatDoorPRefThr
import Derived.Test.YtkphfdmelfhnoaaGreatDoorPNoteMerge
import Derived.Test.YtkphfdmelfhnoaaGreatDoorPZones
import Derived.Test.YtkphfdmelfhnoaaGreatDoorPReached
set_option linter.all false
set_option linter.unnecessarySimpa false
set_option linter.unusedSimpArgs false
set_option linter.unusedVariables false
namespace Go.Proofs.YtkphfdmelfhnoaaGreatDoor
open Go.ChangeShapes Go.WideShapes Go.ChangeAt Go.RowKit
attribute [local irreducible] setI c64I
attribute [local irreducible] AW AWY vops vopsY vop vopL vdraw callW qop binQ lenQ storeQ appendQ callQ ACalls AIter
attribute [local go_sem] noteA_eq storeQ_agg storeQ_val storeQ_iv storeQ_own wrI_eq List.map_nil nilW_eq List.length_nil
theorem countOf_i64 : ∀ {l : List Stamp} (_ : ∀ s ∈ l, I64 s.count) (n : Int), I64 (countOf l n)
 | [], _, _ => rfl
 | s :: l, h, n => by
  unfold countOf
  split
  ·exact h s (by simp)
  ·exact countOf_i64 (fun t ht => h t (List.mem_cons_of_mem _ ht)) n
end Go.Proofs.YtkphfdmelfhnoaaGreatDoor
namespace Go.Proofs.YtkphfdmelfhnoaaGreatDoor
open Go.ChangeShapes Go.WideShapes Go.ChangeAt Go.RowKit
attribute [local irreducible] AW AWY vops vopsY vop vopL vdraw callW qop binQ lenQ storeQ appendQ callQ ACalls AIter setI c64I
attribute [local go_sem] storeQ_val storeQ_iv storeQ_own
end Go.Proofs.YtkphfdmelfhnoaaGreatDoor
namespace Go.Proofs.YtkphfdmelfhnoaaGreatDoor
open Go.ChangeShapes Go.WideShapes Go.ChangeAt Go.RowKit
attribute [local irreducible] AW AWY vops vopsY vop vopL vdraw callW qop binQ lenQ storeQ appendQ callQ ACalls AIter setI c64I
attribute [local go_sem] storeQ_val storeQ_iv storeQ_own
def sinceRows (z : List Zone) (known : List Stamp) (it : List Span) : Nat → List (List Stamp)
 | 0 => []
 | m + 1 => sinceRows z known it m ++ if memB it m = true then [reachS z known m] else []
def sinceS (z : List Zone) (known : List Stamp) (it : List Span) : List Stamp := if zonesFormed z = true ∧ vecFormed known = true then (if (sinceRows z known it 256).length = 0 then known else meetS (sinceRows z known it 256)) else []
end Go.Proofs.YtkphfdmelfhnoaaGreatDoor
namespace Go.Proofs.YtkphfdmelfhnoaaGreatDoor
open Go.ChangeShapes Go.WideShapes Go.ChangeAt Go.RowKit
attribute [local irreducible] AW AWY vops vopsY vop vopL vdraw callW qop binQ lenQ storeQ appendQ callQ ACalls AIter setI
attribute [local go_sem] enB_eq boI_eq boA_eq byI_eq enW_eq wrI_eq wA_eq enZ_eq znI_eq vwA_eq storeQ_bp storeQ_rp
theorem all_no {α : Type} {l : List α} {p : α → Bool} {m : Nat} (h : m < l.length) (hp : p l[m] = false) : l.all p = false := by
 rw [List.all_eq_false]
 exact ⟨l[m], List.getElem_mem h, by rw [hp]; simp⟩
theorem all_step {α : Type} {l : List α} {p : α → Bool} {m : Nat} (h : m < l.length) (ht : ∀ x ∈ l.take m, p x = true) (hp : p l[m] = true) : ∀ x ∈ l.take (m + 1), p x = true := fun x hx => by
 rw [List.take_succ_eq_append_getElem h] at hx
 rcases List.mem_append.1 hx with h1 | h1
 ·exact ht x h1
 ·rw [List.mem_singleton.1 h1]; exact hp
set_option maxRecDepth 100000 in
set_option maxHeartbeats 1600000 in
theorem rview_call (v : View) (iR : I64 v.room) : ACalls Tryz.prog TzTab 42 [vwA v] (.val (.bool (viewFormed v))) [] := by
 refine ACalls.of (n := 77) (rs := [.tmp 2]) Tryz.func42 rfl (by kernel_rfl) Tryz.ntmps42 (by kernel_rfl) (by simp) (fun _ _ => TzTab.later) ?_
 intro hok V w0
 have hz : v.zones.length ≤ 1073741824 := by simpa [znI] using hok.1.2.1.1
 have hh : v.held.length ≤ 1073741824 := by simpa [wrI] using hok.1.2.2.1.1
 have hb : v.bodies.length ≤ 1073741824 := by simpa [boI] using hok.1.2.2.2.1.1
 obtain ⟨B, hB⟩ : ∃ B, viewFormed v = B := ⟨_, rfl⟩
 rw [hB]
 refine g ?_
 refine AW.seq ?_
 refine AW.reg rfl fun KK hKK => ?_
 refine g ?_
 repeat' (refine hKK _ (g ?_); clear hKK KK)
 refine AW.freeze 200 _ rfl ⟨trivial, trivial, trivial, trivial, iR, trivial⟩ ?_
 simp only [go_sem, reduceIte, Nat.reduceEqDiff]
 refine g ?_
 repeat' (first | refine st_ rfl (g ?_) | refine cond_ (fun h => g ?_) (fun h => g ?_) | (refine vops_if rfl rfl (fun h => ?_) (fun h => ?_) <;> simp only [h] <;> refine g ?_) | refine call_ (rvformed_call _) rfl (g ?_) | refine call_ (rzformed_call _) rfl (g ?_) | refine call_ (rshformed_call _) rfl (g ?_) | refine call_ (rcformed_call _ _ iR) rfl (g ?_))
 ·rw [← hB]; simp at h; simp [viewFormed, partsB, h]
 ·rw [← hB]; simp at h; simp [viewFormed, partsB, h]
 ·rw [← hB]; simp at h; simp [viewFormed, partsB, h]
 ·rw [← hB]; simp at h; simp [viewFormed, partsB, h]
 have hP : partsB v = true := by simp at *; simp [partsB, *]
 refine AW.loop (fun m : {m : Nat // m ≤ v.zones.length ∧ ∀ x ∈ v.zones.take m, decide (cmpV x.vec v.known = 1) = true} => ⟨[(1, .ip [stI v.known, znI v.zones, wrI v.held, boI v.bodies, .val (.int .i64 v.room)]), (3, .val (.int .i64 (m.1 : Nat)))], []⟩) (fun m => v.zones.length - m.1) ⟨0, Nat.zero_le _, fun x hx => by simp at hx⟩ id ⟨⟨rfl, rfl, trivial⟩, trivial, List.nodup_nil⟩ fun ⟨m, hm, ht⟩ => ?_
 refine g ?_
 repeat' (first | refine st_ rfl (g ?_) | refine cond_d (fun h => g ?_) (fun h => g ?_))
 ·have hlt : m < v.zones.length := by omega
  refine AW.drawn (ds := [37, 38, 39, 40, 41, 42, 43, 44, 45, 46]) (fin := []) (bs := [0, 0, 0, 0, 0, 0, 0, 0, 0, 0]) [⟨[], [], [], [], 0⟩, ⟨[(37, 0)], [], [], [], 0⟩, ⟨[], [], [], [], 0⟩, ⟨[(38, 1), (39, 2)], [], [], [], 0⟩, ⟨[(40, 3)], [], [], [], 0⟩, ⟨[(41, 4)], [], [], [], 0⟩, ⟨[], [], [], [], 0⟩, ⟨[(43, 6)], [], [], [], 0⟩, ⟨[(42, 5), (44, 7)], [], [], [], 0⟩, ⟨[(45, 8)], [], [], [], 0⟩] (by kernel_rfl) rfl (by kernel_rfl) rfl rfl rfl fun KD hKD => ?_
  refine g ?_
  repeat' (first | refine st_ rfl (g ?_) | refine cond_d (fun h => g ?_) (fun h => g ?_) | (refine hKD _ _ ⟨rfl, g ?_⟩; clear hKD KD) | refine ix_ (by omega) (g ?_) | refine call_ (rvcompare_call _ _) rfl (g ?_))
  ·rw [← hB]; simp only [viewFormed]; rw [all_no (p := fun x => decide (cmpV x.vec v.known = 1)) hlt (by simpa using h)]; simp
  ·exact ⟨⟨m + 1, hlt, all_step hlt ht (by simpa using h)⟩, id, ⟨⟨rfl, rfl, trivial⟩, trivial, List.nodup_nil⟩, by show v.zones.length - (m + 1) < v.zones.length - m; omega⟩
 obtain rfl : m = v.zones.length := by omega
 rw [List.take_length] at ht
 have h1 : (v.zones.all fun x => decide (cmpV x.vec v.known = 1)) = true := List.all_eq_true.2 ht
 refine AW.loop (fun m : {m : Nat // m ≤ v.held.length ∧ ∀ x ∈ v.held.take m, reachedB v.zones v.known x = true} => ⟨[(1, .ip [stI v.known, znI v.zones, wrI v.held, boI v.bodies, .val (.int .i64 v.room)]), (4, .val (.int .i64 (m.1 : Nat)))], []⟩) (fun m => v.held.length - m.1) ⟨0, Nat.zero_le _, fun x hx => by simp at hx⟩ id ⟨⟨rfl, rfl, trivial⟩, trivial, List.nodup_nil⟩ fun ⟨m, hm, ht⟩ => ?_
 refine g ?_
 repeat' (first | refine st_ rfl (g ?_) | refine cond_d (fun h => g ?_) (fun h => g ?_))
 ·have hlt : m < v.held.length := by omega
  refine AW.drawn (ds := [54, 55, 56, 57, 58, 59, 60, 61]) (fin := []) (bs := [0, 0, 0, 0, 0, 0, 0, 0]) [⟨[], [], [], [], 0⟩, ⟨[], [], [], [], 0⟩, ⟨[(55, 1)], [], [], [], 0⟩, ⟨[], [], [], [], 0⟩, ⟨[(56, 2), (57, 3)], [], [], [], 0⟩, ⟨[(58, 4)], [], [], [], 0⟩, ⟨[(54, 0), (59, 5)], [], [], [], 0⟩, ⟨[(60, 6)], [], [], [], 0⟩] (by kernel_rfl) rfl (by kernel_rfl) rfl rfl rfl fun KD hKD => ?_
  refine g ?_
  repeat' (first | refine st_ rfl (g ?_) | refine cond_ (fun h => g ?_) (fun h => g ?_) | (refine hKD _ _ ⟨rfl, g ?_⟩; clear hKD KD) | refine ix_ (by omega) (g ?_) | refine call_ (rreached_call v _) rfl (g ?_))
  ·rw [← hB]; simp only [viewFormed]; rw [all_no (p := fun x => reachedB v.zones v.known x) hlt (by simpa using h)]; simp
  ·exact ⟨⟨m + 1, hlt, all_step hlt ht (by simpa using h)⟩, id, ⟨⟨rfl, rfl, trivial⟩, trivial, List.nodup_nil⟩, by show v.held.length - (m + 1) < v.held.length - m; omega⟩
 obtain rfl : m = v.held.length := by omega
 rw [List.take_length] at ht
 have h2 : (v.held.all fun x => reachedB v.zones v.known x) = true := List.all_eq_true.2 ht
 refine AW.loop (fun m : {m : Nat // m ≤ v.bodies.length ∧ ∀ x ∈ v.bodies.take m, wantedB v.held x = true} => ⟨[(1, .ip [stI v.known, znI v.zones, wrI v.held, boI v.bodies, .val (.int .i64 v.room)]), (5, .val (.int .i64 (m.1 : Nat)))], []⟩) (fun m => v.bodies.length - m.1) ⟨0, Nat.zero_le _, fun x hx => by simp at hx⟩ id ⟨⟨rfl, rfl, trivial⟩, trivial, List.nodup_nil⟩ fun ⟨m, hm, ht⟩ => ?_
 refine g ?_
 repeat' (first | refine st_ rfl (g ?_) | refine cond_d (fun h => g ?_) (fun h => g ?_))
 ·have hlt : m < v.bodies.length := by omega
  refine AW.drawn (ds := [69, 70, 71, 72, 73, 74, 75, 76]) (fin := []) (bs := [0, 0, 0, 0, 0, 0, 0, 0]) [⟨[], [], [], [], 0⟩, ⟨[], [], [], [], 0⟩, ⟨[(70, 1)], [], [], [], 0⟩, ⟨[], [], [], [], 0⟩, ⟨[(71, 2), (72, 3)], [], [], [], 0⟩, ⟨[(73, 4)], [], [], [], 0⟩, ⟨[(69, 0), (74, 5)], [], [], [], 0⟩, ⟨[(75, 6)], [], [], [], 0⟩] (by kernel_rfl) rfl (by kernel_rfl) rfl rfl rfl fun KD hKD => ?_
  refine g ?_
  repeat' (first | refine st_ rfl (g ?_) | refine cond_ (fun h => g ?_) (fun h => g ?_) | (refine hKD _ _ ⟨rfl, g ?_⟩; clear hKD KD) | refine ix_ (by omega) (g ?_) | refine call_ (rwanted_call v _) rfl (g ?_))
  ·rw [← hB]; simp only [viewFormed]; rw [all_no (p := fun x => wantedB v.held x) hlt (by simpa using h)]; simp
  ·exact ⟨⟨m + 1, hlt, all_step hlt ht (by simpa using h)⟩, id, ⟨⟨rfl, rfl, trivial⟩, trivial, List.nodup_nil⟩, by show v.bodies.length - (m + 1) < v.bodies.length - m; omega⟩
 obtain rfl : m = v.bodies.length := by omega
 rw [List.take_length] at ht
 have h3 : (v.bodies.all fun x => wantedB v.held x) = true := List.all_eq_true.2 ht
 rw [← hB]
 simp only [viewFormed]
 rw [hP, h1, h2, h3]
 rfl
end Go.Proofs.YtkphfdmelfhnoaaGreatDoor
namespace Go.Proofs.YtkphfdmelfhnoaaGreatDoor
open Go.ChangeShapes Go.WideShapes Go.ChangeAt Go.RowKit
attribute [local irreducible] AW AWY vops vopsY vop vopL vdraw callW qop binQ lenQ storeQ appendQ callQ ACalls AIter setI c64I
attribute [local go_sem] vwA_eq storeQ_bp storeQ_rp
def touchS (a b : List Span) : Bool := decide (0 < (meetS2 a b).length)
def sinceV (v : View) (it : List Span) : List Stamp := if viewFormed v = true then sinceS v.zones v.known it else []
end Go.Proofs.YtkphfdmelfhnoaaGreatDoor
