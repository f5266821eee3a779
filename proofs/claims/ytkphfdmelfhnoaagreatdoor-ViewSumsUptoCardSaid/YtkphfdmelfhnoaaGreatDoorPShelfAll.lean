/- Shelves: told one by one (the program's). -/
import Derived.Test.YtkphfdmelfhnoaaGreatDoorPPlace
import Derived.Test.YtkphfdmelfhnoaaGreatDoorPReached
import Derived.Test.YtkphfdmelfhnoaaGreatDoorPStreamSpec
import Derived.Test.YtkphfdmelfhnoaaGreatDoorPNoteMerge
set_option linter.all false
set_option linter.unnecessarySimpa false
set_option linter.unusedSimpArgs false
set_option linter.unusedVariables false
namespace Go.Proofs.YtkphfdmelfhnoaaGreatDoor
open Go.ChangeShapes Go.WideShapes Go.ChangeAt Go.RowKit
attribute [local irreducible] AW AWY vops vopsY vop vopL vdraw callW qop binQ lenQ storeQ appendQ callQ ACalls AIter setI
attribute [local go_sem] enB_eq boI_eq boA_eq byI_eq enW_eq wrI_eq wA_eq enZ_eq znI_eq vwA_eq storeQ_bp storeQ_rp
set_option maxRecDepth 100000 in
theorem wanted_call (l : List Write) (x : Body) (hf : shelfFormed l = true) : ACalls Tryz.prog TzTab 78 [.iv (wrI l), boA x] (.val (.bool (wantedB l x))) [] := by
 refine ACalls.of (n := 28) (rs := [.tmp 4]) Tryz.func78 rfl (by kernel_rfl) Tryz.ntmps78 (by kernel_rfl) (by simp) (fun _ _ => TzTab.later) ?_
 intro hok V w0
 obtain ⟨B, hB⟩ : ∃ B, wantedB l x = B := ⟨_, rfl⟩
 rw [hB]
 unfold wantedB wantedW at hB
 have hat := shget_call l x.object
 unfold getS at hat
 rw [if_pos hf] at hat
 cases hg : getW l x.object with
 | none =>
  rw [hg] at hB hat
  refine g ?_
  repeat' (first | refine st_ rfl (g ?_) | refine call_ (hat) rfl (g ?_))
  exact hB
 | some w =>
  rw [hg] at hB hat
  simp only at hat hB
  rw [stamp_dec] at hB
  refine g ?_
  repeat' (first | refine st_ rfl (g ?_) | refine call_ (hat) rfl (g ?_))
  refine ⟨_, fun u => stamp_eq _ _ _ _ _ _ u, ?_⟩
  refine g ?_
  repeat' (first | refine st_ rfl (g ?_) | refine hold_ (g ?_) | (refine vops_if rfl rfl (fun h => ?_) (fun h => ?_) <;> simp only [h] <;> refine g ?_))
  ·rw [← hB, h]; simp
  ·rw [← hB, h]; simp
set_option maxRecDepth 100000 in
theorem idxb_call (l : List Body) (f : FuncId) (C : List IV) (p : Body → Bool) (hp : ∀ x, ACalls Tryz.prog TzTab f [boA x, .ip C] (.val (.bool (p x))) []) : ACalls Tryz.prog TzTab 76 [.iv (boI l), .fn f [.ip C]] (.val (.int .i64 (if l.any p = true then ((l.findIdx p : Nat) : Int) else -1))) [] := by
 refine ACalls.of (n := 19) (rs := [.tmp 4]) Tryz.func76 rfl (by kernel_rfl) Tryz.ntmps76 (by kernel_rfl) (by simp) (fun _ _ => TzTab.later) ?_
 intro hok V w0
 have hlen : l.length ≤ 1073741824 := by simpa [boI] using hok.1.1
 refine g ?_
 repeat' refine st_ rfl (g ?_)
 refine AW.loop (fun m : {m : Nat // m ≤ l.length ∧ ∀ x ∈ l.take m, p x = false} => ⟨[(0, .iv (boI l)), (1, .fn f [.ip C]), (7, .val (.int .i64 (l.length : Nat))), (8, .val (.int .i64 (m.1 : Nat)))], []⟩) (fun m => l.length - m.1) ⟨0, Nat.zero_le _, fun x hx => by simp at hx⟩ id ⟨⟨rfl, rfl, rfl, rfl, trivial⟩, trivial, List.nodup_nil⟩ fun ⟨m, hm, ht⟩ => ?_
 refine g ?_
 repeat' (first | refine st_ rfl (g ?_) | refine cond_d (fun h => g ?_) (fun h => g ?_) | refine cond_ (fun h => g ?_) (fun h => g ?_) | refine ix_ (by omega) (g ?_) | refine call_ (hp _) rfl (g ?_))
 ·have hlt : m < l.length := by omega
  rw [if_pos (List.any_eq_true.2 ⟨_, List.getElem_mem hlt, h⟩), (List.findIdx_eq hlt).2 ⟨h, fun j hj => ht _ (List.mem_take_iff_getElem.2 ⟨j, by omega, rfl⟩)⟩]
 ·refine ⟨⟨m + 1, by omega, fun x hx => ?_⟩, id, ⟨⟨rfl, rfl, rfl, rfl, trivial⟩, trivial, List.nodup_nil⟩, by show l.length - (m + 1) < l.length - m; omega⟩
  rw [List.take_succ_eq_append_getElem (by omega)] at hx
  rcases List.mem_append.1 hx with h1 | h1
  ·exact ht x h1
  ·rw [List.mem_singleton.1 h1]; exact h
 ·obtain rfl : m = l.length := by omega
  rw [List.take_length] at ht
  rw [if_neg]
  rw [List.any_eq_true]
  rintro ⟨x, hx, hp⟩
  rw [ht x hx] at hp
  cases hp
theorem hasfb_call (l : List Body) (f : FuncId) (C : List IV) (p : Body → Bool) (hp : ∀ x, ACalls Tryz.prog TzTab f [boA x, .ip C] (.val (.bool (p x))) []) : ACalls Tryz.prog TzTab 95 [.iv (boI l), .fn f [.ip C]] (.val (.bool (l.any p))) [] := by
 refine ACalls.of (n := 9) (rs := [.tmp 4]) Tryz.func95 rfl (by kernel_rfl) Tryz.ntmps95 (by kernel_rfl) (by simp) (fun _ _ => TzTab.later) ?_
 intro hok V w0
 have h1 := idxb_call l f C p hp
 cases ha : l.any p with
 | true =>
  rw [if_pos ha] at h1
  refine g ?_
  repeat' (first | refine st_ rfl (g ?_) | refine call_ (h1) rfl (g ?_))
  exact decide_eq_true (by omega)
 | false =>
  rw [if_neg (by rw [ha]; decide)] at h1
  refine g ?_
  repeat' (first | refine st_ rfl (g ?_) | refine call_ (h1) rfl (g ?_))
  rfl
theorem formed1_call (v : View) (x : Body) (hf : shelfFormed v.held = true) : ACalls Tryz.prog TzTab 96 [boA x, .ip [stI v.known, znI v.zones, wrI v.held, boI v.bodies, .val (.int .i64 v.room)]] (.val (.bool (!wantedB v.held x))) [] := by
 refine ACalls.of (n := 9) (rs := [.tmp 3]) Tryz.func96 rfl (by kernel_rfl) Tryz.ntmps96 (by kernel_rfl) (by simp) (fun _ _ => TzTab.later) ?_
 intro hok V w0
 refine g ?_
 repeat' (first | refine st_ rfl (g ?_) | exact trivial | refine call_ (wanted_call _ x hf) rfl (g ?_))
end Go.Proofs.YtkphfdmelfhnoaaGreatDoor
namespace Go.Proofs.YtkphfdmelfhnoaaGreatDoor
variable {α : Type}
def preL (l : List α) (a i : Nat) : List (α × Nat) := ((l.take i).drop a).zipIdx a
def allL (l : List α) (a : Nat) : List (α × Nat) := (l.drop a).zipIdx a
end Go.Proofs.YtkphfdmelfhnoaaGreatDoor
namespace Go.Proofs.YtkphfdmelfhnoaaGreatDoor
open Go.ChangeShapes Go.WideShapes Go.ChangeAt Go.RowKit
attribute [local irreducible] AW AWY vops vopsY vop vopL vdraw callW qop binQ lenQ storeQ appendQ callQ ACalls AIter
attribute [local go_sem] noI_eq enN_eq logA_eq noteA_eq storeQ_bp storeQ_rp
end Go.Proofs.YtkphfdmelfhnoaaGreatDoor
namespace Go.Proofs.YtkphfdmelfhnoaaGreatDoor
open Go.ChangeShapes Go.WideShapes Go.ChangeAt Go.RowKit
attribute [local irreducible] AW AWY vops vopsY vop vopL vdraw callW qop binQ lenQ storeQ appendQ callQ ACalls AIter
attribute [local go_sem] noI_eq enN_eq logA_eq noteA_eq storeQ_bp storeQ_rp
def logP (l : Log) : AV := .ip [stI l.base, noI l.notes, .val (.int .i64 l.sure)]
theorem logP_eq (l : Log) : logP l = .ip [stI l.base, noI l.notes, .val (.int .i64 l.sure)] := rfl
attribute [local go_sem] logP_eq
def enL (p : Note × Nat) : List AV := [.val (.int .i64 (p.2 : Nat)), noteA p.1]
def ents (l : Log) (a : Nat) : List (Note × Nat) := if logFormed l = true then allL l.notes a else []
end Go.Proofs.YtkphfdmelfhnoaaGreatDoor
namespace Go.Proofs.YtkphfdmelfhnoaaGreatDoor
open Go.ChangeShapes Go.WideShapes Go.ChangeAt Go.RowKit
attribute [local irreducible] AW AWY vops vopsY vop vopL vdraw callW qop binQ lenQ storeQ appendQ callQ ACalls AIter setI
attribute [local go_sem] enW_eq wrI_eq wA_eq storeQ_bp storeQ_rp
theorem shall_call (l : List Write) : ACalls Tryz.prog TzTab 94 [.iv (wrI l)] (.fn 174 [.ip [wrI l]]) [] := by
 have h : ACalls Tryz.prog TzTab 94 [.iv (wrI l)] (.fn 174 [.bp 0 0]) [.box 0 [.iv (wrI l)]] := by
  refine ACalls.of (n := 4) (rs := [.tmp 2]) Tryz.func94 rfl (by kernel_rfl) Tryz.ntmps94 (by kernel_rfl) (by simp) (fun _ _ => TzTab.later) ?_
  intro hok V w0
  refine g ?_
  repeat' refine st_ rfl (g ?_)
  exact ⟨fun b => 200 + 100 * b, rfl, rfl, by simp⟩
 exact h.frz ⟨trivial, trivial⟩
def enWo (w : Write) : List AV := [.val (.int .i64 w.object), wA w]
theorem shall_iter (l : List Write) (hf : shelfFormed l = true) : AIter Tryz.prog TzTab 174 [.ip [wrI l]] enWo (fun ys => ys = l) (fun pre => pre <+: l) := by
 refine AIter.of (n := 21) Tryz.func174 rfl (by kernel_rfl) Tryz.ntmps174 (by kernel_rfl) (by simp) (fun _ _ => TzTab.later) ?_
 intro hok Y
 have hlen : l.length ≤ 1073741824 := by simpa [wrI] using hok.1.1.1
 have h1 := shformed_call l
 rw [hf] at h1
 refine g ?_
 refine g ?_
 repeat' refine stY_ rfl (g ?_)
 refine call_ h1 rfl ?_
 refine g ?_
 repeat' refine stY_ rfl (g ?_)
 refine AWY.loop (fun i : {i : Nat // i ≤ l.length} => (.going (l.take i.1), ⟨[(0, .val (.func (.yield Y.l) #[] #[])), (8, .iv (wrI l)), (9, .val (.int .i64 (l.length : Nat))), (10, .val (.int .i64 (i.1 : Nat)))], []⟩)) (fun i => l.length - i.1) ⟨0, Nat.zero_le _⟩ id ⟨rfl, ⟨rfl, rfl, rfl, rfl, trivial⟩, trivial, List.nodup_nil⟩ fun ⟨i, hi⟩ => ?_
 refine g ?_
 repeat' (first | refine stY_ rfl (g ?_) | refine cond_ (fun h => g ?_) (fun h => g ?_))
 ·have hlt : i < l.length := by simpa using h
  obtain ⟨-, o1, o2, o3, o4, -⟩ := okR_mem (by simpa [wrI] using hok.1.1.2) (enW l[i]) (List.mem_map_of_mem (List.getElem_mem hlt))
  have hs : l.take i ++ [l[i]] = l.take (i + 1) := (List.take_succ_eq_append_getElem hlt).symm
  refine ⟨by omega, _, get_map (List.getElem?_eq_getElem hlt), ?_⟩
  refine g ?_
  repeat' (first | refine stY_ rfl (g ?_) | refine hold_ (g ?_))
  refine vopsY_y (x := l[i]) ?_ ?_ ?_ ?_
  ·rfl
  ·exact Sbs.rfl_ _
  ·rw [hs]; exact List.take_prefix _ _
  simp only [go_sem]
  rw [hs]
  refine ⟨⟨o1, o2, o3, o4, trivial⟩, ?_, ?_⟩
  ·refine g ?_
   repeat' refine stY_ rfl (g ?_)
   exact ⟨⟨i + 1, hlt⟩, id, rfl, ⟨⟨rfl, rfl, rfl, rfl, trivial⟩, trivial, List.nodup_nil⟩, by show l.length - (i + 1) < l.length - i; omega⟩
  ·refine g ?_
   repeat' (first | refine stY_ rfl (g ?_) | exact trivial)
 ·have hle : l.length ≤ i := by simpa using h
  exact ⟨.inr trivial, List.take_of_length_le hle⟩
end Go.Proofs.YtkphfdmelfhnoaaGreatDoor
