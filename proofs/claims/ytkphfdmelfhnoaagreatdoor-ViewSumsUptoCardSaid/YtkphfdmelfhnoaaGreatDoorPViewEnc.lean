/- Zones, bodies, views as trees. -/
import Derived.Test.YtkphfdmelfhnoaaGreatDoorPStreamSpec
import Derived.Test.YtkphfdmelfhnoaaGreatDoorPMsg
import Derived.Test.YtkphfdmelfhnoaaGreatDoorPRefThr
import Derived.Test.YtkphfdmelfhnoaaGreatDoorPBridge2
set_option linter.all false
set_option linter.unnecessarySimpa false
set_option linter.unusedSimpArgs false
set_option linter.unusedVariables false
namespace Go.Proofs.YtkphfdmelfhnoaaGreatDoor
-- zones
structure Zone where
 span : Span
 vec : List Stamp
 deriving DecidableEq
def Zone.has (x : Zone) (o : Int) : Bool := decide (x.span.lo ≤ o) && decide (o ≤ x.span.hi)
def zoneEnd (p : Option Zone) : Int := match p with
 | none => -1
 | some q => q.span.hi
def zoneTouch (p : Option Zone) (x : Zone) : Bool := match p with
 | none => false
 | some q => decide (q.span.hi + 1 = x.span.lo) && decide (q.vec = x.vec)
def zoneNext (p : Option Zone) (x : Zone) : Bool := decide (zoneEnd p < x.span.lo) && !zoneTouch p x
def zoneOk (x : Zone) : Bool := decide (x.span.lo ≤ x.span.hi) && decide (x.span.hi ≤ 255) && vecFormed x.vec
def zonesFrom : Option Zone → List Zone → Bool
 | _, [] => true
 | p, x :: l => (zoneNext p x && zoneOk x) && zonesFrom (some x) l
def zonesFormed (l : List Zone) : Bool := zonesFrom none l
theorem last_or {α : Type} (x : α) (l : List α) (p : Option α) : (x :: l).getLast?.or p = l.getLast?.or (some x) := by
 cases l with
 | nil => rfl
 | cons y l =>
  rw [List.getLast?_cons_cons]
  cases h : (y :: l).getLast? with
  | none => simp at h
  | some z => rfl
theorem zonesFrom_append : ∀ (l m : List Zone) (p : Option Zone), zonesFrom p (l ++ m) = (zonesFrom p l && zonesFrom (l.getLast?.or p) m)
 | [], m, p => by simp [zonesFrom]
 | x :: l, m, p => by rw [List.cons_append, zonesFrom, zonesFrom, zonesFrom_append l m, last_or]; simp only [Bool.and_assoc]
theorem zones_at {l : List Zone} {m : Nat} (h : m < l.length) (ht : zonesFrom none (l.take m) = true) : zonesFormed l = ((zoneNext (l.take m).getLast? l[m] && zoneOk l[m]) && zonesFrom (some l[m]) (l.drop (m + 1))) := by
 unfold zonesFormed
 conv => lhs; rw [← List.take_append_drop m l, List.drop_eq_getElem_cons h]
 rw [zonesFrom_append, ht, Bool.true_and, zonesFrom]
 simp
theorem zones_step {l : List Zone} {m : Nat} (h : m < l.length) (ht : zonesFrom none (l.take m) = true) (h1 : zoneNext (l.take m).getLast? l[m] = true) (h2 : zoneOk l[m] = true) : zonesFrom none (l.take (m + 1)) = true := by
 rw [List.take_succ_eq_append_getElem h, zonesFrom_append, ht, Bool.true_and, zonesFrom, zonesFrom]
 simp [h1, h2]
theorem take_last {α : Type} {l : List α} {m : Nat} (h : m < l.length) : (l.take (m + 1)).getLast? = some l[m] := by
 rw [List.take_succ_eq_append_getElem h, List.getLast?_concat]
theorem zoneEnd_in : ∀ {l : List Zone} {p : Option Zone}, zonesFrom p l = true → -1 ≤ zoneEnd p ∧ zoneEnd p ≤ 255 → -1 ≤ zoneEnd (l.getLast?.or p) ∧ zoneEnd (l.getLast?.or p) ≤ 255
 | [], p, _, h => h
 | x :: l, p, h, hp => by
  rw [last_or]
  simp only [zonesFrom, zoneNext, zoneOk, Bool.and_eq_true, decide_eq_true_eq] at h
  obtain ⟨⟨⟨h1, _⟩, ⟨h2, h3⟩, _⟩, h4⟩ := h
  exact zoneEnd_in h4 ⟨show -1 ≤ x.span.hi by omega, show x.span.hi ≤ 255 by omega⟩
theorem zoneEnd_at {l : List Zone} {m : Nat} (h : zonesFrom none (l.take m) = true) : -1 ≤ zoneEnd (l.take m).getLast? ∧ zoneEnd (l.take m).getLast? ≤ 255 := by
 have := zoneEnd_in h ⟨Int.le_refl _, by decide⟩
 rwa [Option.or_none] at this
def blurredS (l : List Zone) : List Span := if zonesFormed l = true then tidyS (l.map (·.span)) else []
def zoneAt (l : List Zone) (o : Int) : Option Zone := l.find? fun x => x.has o
def reachOf (l : List Zone) (known : List Stamp) (o : Int) : List Stamp := match zoneAt l o with
 | some x => x.vec
 | none => known
def reachS (l : List Zone) (known : List Stamp) (o : Int) : List Stamp := if zonesFormed l = true ∧ vecFormed known = true ∧ 0 ≤ o ∧ o ≤ 255 then reachOf l known o else []
theorem zoneAt_take {l : List Zone} {m : Nat} {o : Int} (ht : ∀ x ∈ l.take m, x.has o = false) (h : m < l.length) (hx : l[m].has o = true) : zoneAt l o = some l[m] := by
 unfold zoneAt
 conv => lhs; rw [← List.take_append_drop m l, List.drop_eq_getElem_cons h]
 rw [List.find?_append, List.find?_eq_none.2 fun x hx => by rw [ht x hx]; simp, Option.none_or]
 simp only [List.find?_cons, hx]
theorem zoneAt_none {l : List Zone} {o : Int} (ht : ∀ x ∈ l, x.has o = false) : zoneAt l o = none := List.find?_eq_none.2 fun x hx => by rw [ht x hx]; simp
def zoneIx (l : List Zone) (o : Int) : Int := if l.findIdx (fun x => x.has o) < l.length then ((l.findIdx fun x => x.has o : Nat) : Int) else -1
theorem zoneIx_at {l : List Zone} {m : Nat} {o : Int} (h : m < l.length) (ht : ∀ x ∈ l.take m, x.has o = false) (hx : l[m].has o = true) : zoneIx l o = (m : Nat) := by
 have e : l.findIdx (fun x => x.has o) = m := (List.findIdx_eq h).2 ⟨hx, fun j hj => by
  have := ht l[j] (List.mem_take_iff_getElem.2 ⟨j, by omega, rfl⟩)
  simp [this]⟩
 unfold zoneIx
 rw [e, if_pos h]
theorem zoneIx_none {l : List Zone} {o : Int} (ht : ∀ x ∈ l, x.has o = false) : zoneIx l o = -1 := by
 unfold zoneIx
 rw [if_neg]
 rw [List.findIdx_lt_length]
 rintro ⟨x, hx, h⟩
 rw [ht x hx] at h
 cases h
theorem zoneAt_ix {l : List Zone} {o : Int} (h : 0 ≤ zoneIx l o) : ∃ hl : (zoneIx l o).toNat < l.length, zoneAt l o = some l[(zoneIx l o).toNat] := by
 unfold zoneIx at h ⊢
 by_cases hl : l.findIdx (fun x => x.has o) < l.length
 ·simp only [if_pos hl, Int.toNat_natCast]
  exact ⟨hl, zoneAt_take (fun x hx => by
   obtain ⟨j, hj, rfl⟩ := List.mem_take_iff_getElem.1 hx
   have := List.not_of_lt_findIdx (p := fun x : Zone => x.has o) (xs := l) (i := j) (by omega)
   simpa using this) hl (List.findIdx_getElem (w := hl))⟩
 ·rw [if_neg hl] at h; omega
theorem zoneAt_no {l : List Zone} {o : Int} (h : ¬ 0 ≤ zoneIx l o) : zoneAt l o = none := by
 unfold zoneIx at h
 by_cases hl : l.findIdx (fun x => x.has o) < l.length
 ·rw [if_pos hl] at h; omega
 ·rw [List.findIdx_lt_length] at hl
  exact List.find?_eq_none.2 fun x hx hh => hl ⟨x, hx, hh⟩
theorem zonesFrom_mem : ∀ {l : List Zone} {p : Option Zone}, zonesFrom p l = true → ∀ x ∈ l, zoneOk x = true
 | [], _, _, x, hx => by cases hx
 | y :: l, p, h, x, hx => by
  simp only [zonesFrom, Bool.and_eq_true] at h
  rcases List.mem_cons.1 hx with rfl | hx
  ·exact h.1.2
  ·exact zonesFrom_mem h.2 x hx
-- shelves
def rightO (o : Int) : Bool := decide (0 ≤ o) && decide (o ≤ 255)
def rightW (w : Write) : Bool := rightO w.object && rightB w.stamp.count w.stamp.node
def shelfFrom : Int → List Write → Bool
 | _, [] => true
 | e, w :: l => (rightW w && decide (e < w.object)) && shelfFrom w.object l
def shelfFormed (l : List Write) : Bool := shelfFrom (-1) l
def shelfEnd (e : Int) (l : List Write) : Int := (l.getLast?.map (·.object)).getD e
theorem shelfEnd_cons (x : Write) (l : List Write) (e : Int) : shelfEnd e (x :: l) = shelfEnd x.object l := by
 unfold shelfEnd
 cases l with
 | nil => rfl
 | cons y l =>
  rw [List.getLast?_cons_cons]
  cases h : (y :: l).getLast? with
  | none => simp at h
  | some z => rfl
theorem shelfFrom_append : ∀ (l m : List Write) (e : Int), shelfFrom e (l ++ m) = (shelfFrom e l && shelfFrom (shelfEnd e l) m)
 | [], m, p => by simp [shelfFrom, shelfEnd]
 | x :: l, m, p => by rw [List.cons_append, shelfFrom, shelfFrom, shelfFrom_append l m, shelfEnd_cons]; simp only [Bool.and_assoc]
theorem shelf_at {l : List Write} {m : Nat} (h : m < l.length) (ht : shelfFrom (-1) (l.take m) = true) : shelfFormed l = ((rightW l[m] && decide (shelfEnd (-1) (l.take m) < l[m].object)) && shelfFrom l[m].object (l.drop (m + 1))) := by
 unfold shelfFormed
 conv => lhs; rw [← List.take_append_drop m l, List.drop_eq_getElem_cons h]
 rw [shelfFrom_append, ht, Bool.true_and, shelfFrom]
theorem shelf_step {l : List Write} {m : Nat} (h : m < l.length) (ht : shelfFrom (-1) (l.take m) = true) (h1 : rightW l[m] = true) (h2 : shelfEnd (-1) (l.take m) < l[m].object) : shelfFrom (-1) (l.take (m + 1)) = true ∧ shelfEnd (-1) (l.take (m + 1)) = l[m].object := by
 constructor
 ·rw [List.take_succ_eq_append_getElem h, shelfFrom_append, ht, Bool.true_and, shelfFrom, shelfFrom]
  simp [h1, h2]
 ·unfold shelfEnd; rw [take_last h]; rfl
theorem shelfEnd_at {l : List Write} {m : Nat} (h0 : 0 < m) (h : m < l.length) : shelfEnd (-1) (l.take m) = l[m - 1].object := by
 obtain ⟨k, rfl⟩ : ∃ k, m = k + 1 := ⟨m - 1, by omega⟩
 unfold shelfEnd
 rw [take_last (show k < l.length by omega)]
 rfl
def getW (l : List Write) (o : Int) : Option Write := l.find? fun w => decide (w.object = o)
theorem getW_some {l : List Write} {m : Nat} {o : Int} (ht : ∀ w ∈ l.take m, ¬ w.object = o) (h : m < l.length) (hx : l[m].object = o) : getW l o = some l[m] := by
 unfold getW
 conv => lhs; rw [← List.take_append_drop m l, List.drop_eq_getElem_cons h]
 rw [List.find?_append, List.find?_eq_none.2 fun x hx => by simpa using ht x hx, Option.none_or]
 simp only [List.find?_cons, hx, decide_true]
theorem getW_none {l : List Write} {o : Int} (ht : ∀ w ∈ l, ¬ w.object = o) : getW l o = none := List.find?_eq_none.2 fun x hx => by simpa using ht x hx
theorem getW_step {l : List Write} {m : Nat} {o : Int} (h : m < l.length) (ht : ∀ w ∈ l.take m, ¬ w.object = o) (hx : ¬ l[m].object = o) : ∀ w ∈ l.take (m + 1), ¬ w.object = o := fun w hw => by
 rw [List.take_succ_eq_append_getElem h] at hw
 rcases List.mem_append.1 hw with h1 | h1
 ·exact ht w h1
 ·rw [List.mem_singleton.1 h1]; exact hx
def noW : Write := ⟨⟨0, 0⟩, 0, false⟩
def getS (l : List Write) (o : Int) : Write × Int := if shelfFormed l = true then (match getW l o with | some w => (w, 0) | none => (noW, 8)) else (noW, 1)
-- caches
def rightBody (x : Body) : Bool := rightO x.object && rightB x.stamp.count x.stamp.node && decide (x.value.length ≤ 256)
def usedS (l : List Body) : Nat := (l.map (·.value.length)).sum
theorem used_le : ∀ (l : List Body), (∀ x ∈ l, x.value.length ≤ 256) → usedS l ≤ 256 * l.length
 | [], _ => Nat.le_refl _
 | x :: l, h => by
  have h1 := h x (by simp)
  have h2 := used_le l fun y hy => h y (List.mem_cons_of_mem _ hy)
  simp only [usedS, List.map_cons, List.sum_cons, List.length_cons] at *
  omega
theorem used_step {l : List Body} {m : Nat} (h : m < l.length) : usedS (l.take (m + 1)) = usedS (l.take m) + l[m].value.length := by
 unfold usedS
 rw [List.take_succ_eq_append_getElem h, List.map_append, List.sum_append]
 simp
def roomB (room : Int) : Bool := decide (0 ≤ room) && decide (room ≤ 16777216)
def onceB (l : List Body) : Bool := l.all rightBody && decide ((l.map (·.object)).Nodup)
theorem once_take {l : List Body} (k : Nat) (h : onceB l = true) : onceB (l.take k) = true := by
 simp only [onceB, Bool.and_eq_true, decide_eq_true_eq, List.all_eq_true] at h ⊢
 exact ⟨fun x hx => h.1 x (List.mem_of_mem_take hx), h.2.sublist ((List.take_sublist k l).map _)⟩
def hasB (l : List Body) (o : Int) : Bool := l.any fun x => decide (x.object = o)
theorem once_step {l : List Body} {m : Nat} (h : m < l.length) (ht : onceB (l.take m) = true) : onceB (l.take (m + 1)) = (rightBody l[m] && !hasB (l.take m) l[m].object) := by
 simp only [onceB, Bool.and_eq_true, decide_eq_true_eq, List.all_eq_true] at ht
 rw [Bool.eq_iff_iff]
 simp only [onceB, Bool.and_eq_true, decide_eq_true_eq, List.all_eq_true, List.take_succ_eq_append_getElem h, List.map_append, List.map_cons, List.map_nil, List.nodup_append, Bool.not_eq_true', hasB, List.any_eq_false, List.mem_append, List.mem_singleton]
 constructor
 ·rintro ⟨h1, h2, _, h3⟩
  refine ⟨h1 _ (.inr rfl), fun x hx e => h3 x.object (List.mem_map_of_mem hx) _ rfl (by simpa using e)⟩
 ·rintro ⟨h1, h2⟩
  refine ⟨fun x hx => hx.elim (ht.1 x) fun e => e ▸ h1, ht.2, by simp, fun a ha b hb e => ?_⟩
  obtain ⟨x, hx, rfl⟩ := List.mem_map.1 ha
  exact h2 x hx (by simp [e, hb])
theorem once_no {l : List Body} {m : Nat} (h : m < l.length) (ht : onceB (l.take m) = true) (hx : rightBody l[m] = false ∨ hasB (l.take m) l[m].object = true) : onceB l = false := by
 cases hl : onceB l with
 | false => rfl
 | true =>
  have := once_take (m + 1) hl
  rw [once_step h ht] at this
  rcases hx with hx | hx <;> rw [hx] at this <;> simp at this
theorem rightBody_in {x : Body} (h : rightBody x = true) : 0 ≤ x.object ∧ x.object < 256 ∧ x.value.length ≤ 256 := by
 simp only [rightBody, rightO, Bool.and_eq_true, decide_eq_true_eq] at h
 omega
theorem once_right {l : List Body} (h : onceB l = true) : ∀ x ∈ l, rightBody x = true := by
 simp only [onceB, Bool.and_eq_true, List.all_eq_true] at h
 exact h.1
theorem hasB_snoc {l : List Body} {m : Nat} (h : m < l.length) (o : Int) : hasB (l.take (m + 1)) o = (hasB (l.take m) o || decide (l[m].object = o)) := by
 unfold hasB
 rw [List.take_succ_eq_append_getElem h, List.any_append]
 simp
def cacheFormed (l : List Body) (room : Int) : Bool := roomB room && decide (l.length ≤ 256) && onceB l && decide ((usedS l : Int) ≤ room)
-- views
structure View where
 known : List Stamp
 zones : List Zone
 held : List Write
 bodies : List Body
 room : Int
def cmpV (a b : List Stamp) : Int := if coversB a b = true then (if coversB b a = true then 0 else 2) else (if coversB b a = true then 1 else 3)
def reachedB (l : List Zone) (known : List Stamp) (w : Write) : Bool := vecHas (reachS l known w.object) w.stamp
def wantedW (w : Option Write) (x : Body) : Bool := match w with
 | some w => decide (w.stamp = x.stamp) && !w.gone
 | none => false
def wantedB (held : List Write) (x : Body) : Bool := wantedW (getW held x.object) x
def partsB (v : View) : Bool := vecFormed v.known && zonesFormed v.zones && shelfFormed v.held && cacheFormed v.bodies v.room
def viewFormed (v : View) : Bool := partsB v && v.zones.all (fun x => decide (cmpV x.vec v.known = 1)) && v.held.all (fun w => reachedB v.zones v.known w) && v.bodies.all (fun x => wantedB v.held x)
end Go.Proofs.YtkphfdmelfhnoaaGreatDoor
namespace Go.Proofs.YtkphfdmelfhnoaaGreatDoor
open Go.ChangeShapes Go.WideShapes Go.ChangeAt Go.RowKit
section
variable {P : Program} {G : World → Prop} {ops rest : List Oper} {KK : AState → Prop} {σ : AState} {d : Option Tmp} {op : Op} {ty : TypeId} {pos : String} {after : Array Edge} {j : Nat} {g : Bool} {A B X p : Prop} [Decidable p]
variable {ds : List Nat} {fr0 : List (Nat × AV)} {toks : List BA} {rs : List AV} {KD : List BA → List AV → Prop} {hs : List Hint}
theorem cond_d (h1 : p → A) (h2 : ¬ p → B) : condQ (.val (.bool (decide p))) A B := cond_ (fun h => h1 (of_decide_eq_true h)) (fun h => h2 (of_decide_eq_false h))
theorem vops_ifd (_ : X = vops P G ops (⟨d, op, ty, pos, after, some (j, g)⟩ :: rest) σ KK) (_ : yieldA ops σ.fr j = .val (.bool (decide p))) (h1 : p → decide p = true → X) (h2 : ¬ p → decide p = false → X) : X := by
 by_cases h : p
 ·exact h1 h (decide_eq_true h)
 ·exact h2 h (decide_eq_false h)
theorem vdraw_ifd (_ : X = vdraw P G ds fr0 (⟨d, op, ty, pos, after, some (j, g)⟩ :: rest) hs toks rs KD) (_ : nrm (rs.getD j .any) = .val (.bool (decide p))) (h1 : p → decide p = true → X) (h2 : ¬ p → decide p = false → X) : X := by
 by_cases h : p
 ·exact h1 h (decide_eq_true h)
 ·exact h2 h (decide_eq_false h)
theorem ix_ {α : Type} {l : List α} {f : α → List IV} {i : Nat} {K : List IV → Prop} (h : i < l.length) (hk : K (f l[i])) : 0 ≤ (i : Int) ∧ ∃ cs, (l.map f)[i]? = some cs ∧ Hold (K cs) := ⟨by omega, _, get_map (List.getElem?_eq_getElem h), hold_ hk⟩
end
attribute [go_sem] true_or exists_const List.nodup_nil AV.val.injEq Value.bool.injEq Value.int.injEq and_self
def enZ (x : Zone) : List IV := [.val (.int .i64 x.span.lo), .val (.int .i64 x.span.hi), stI x.vec]
def byI (l : List Nat) : IV := .sl 1 (l.map fun (b : Nat) => [.val (.int .u8 b)])
def enB (x : Body) : List IV := [.val (.int .i64 x.object), .val (.int .i64 x.stamp.count), .val (.int .i64 x.stamp.node), byI x.value]
def znI (l : List Zone) : IV := .sl 3 (l.map enZ)
def boI (l : List Body) : IV := .sl 4 (l.map enB)
def wA (w : Write) : AV := .agg [.val (.int .i64 w.stamp.count), .val (.int .i64 w.stamp.node), .val (.int .i64 w.object), .val (.bool w.gone)]
def boA (x : Body) : AV := .agg [.val (.int .i64 x.object), .val (.int .i64 x.stamp.count), .val (.int .i64 x.stamp.node), .iv (byI x.value)]
def vwA (v : View) : AV := .agg [.iv (stI v.known), .iv (znI v.zones), .iv (wrI v.held), .iv (boI v.bodies), .val (.int .i64 v.room)]
theorem enZ_eq (x : Zone) : enZ x = [.val (.int .i64 x.span.lo), .val (.int .i64 x.span.hi), stI x.vec] := rfl
theorem enB_eq (x : Body) : enB x = [.val (.int .i64 x.object), .val (.int .i64 x.stamp.count), .val (.int .i64 x.stamp.node), byI x.value] := rfl
theorem byI_eq (l : List Nat) : byI l = .sl 1 (l.map fun (b : Nat) => [.val (.int .u8 b)]) := rfl
theorem znI_eq (l : List Zone) : znI l = .sl 3 (l.map enZ) := rfl
theorem boI_eq (l : List Body) : boI l = .sl 4 (l.map enB) := rfl
theorem wA_eq (w : Write) : wA w = .agg [.val (.int .i64 w.stamp.count), .val (.int .i64 w.stamp.node), .val (.int .i64 w.object), .val (.bool w.gone)] := rfl
theorem boA_eq (x : Body) : boA x = .agg [.val (.int .i64 x.object), .val (.int .i64 x.stamp.count), .val (.int .i64 x.stamp.node), .iv (byI x.value)] := rfl
theorem vwA_eq (v : View) : vwA v = .agg [.iv (stI v.known), .iv (znI v.zones), .iv (wrI v.held), .iv (boI v.bodies), .val (.int .i64 v.room)] := rfl
end Go.Proofs.YtkphfdmelfhnoaaGreatDoor
