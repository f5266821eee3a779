/- A view that takes: which bodies stay, one told write at a time. Plain. -/
import Derived.Test.YtkphfdmelfhnoaaGreatDoorPPutLaw
import Derived.Test.YtkphfdmelfhnoaaGreatDoorPTakeLaw
set_option linter.all false
set_option linter.unnecessarySimpa false
set_option linter.unusedSimpArgs false
set_option linter.unusedVariables false
namespace Go.Proofs.YtkphfdmelfhnoaaGreatDoor
-- shelves
def withinL (l : List Write) (set : List Span) : List Write := l.filter fun w => spanHas set w.object
def withinS (l : List Write) (set : List Span) : List Write × Int := if shelfFormed l = true then (withinL l set, 0) else ([], 1)
-- caches
def isB (o : Int) (s : Stamp) (x : Body) : Bool := decide (x.object = o) && decide (x.stamp = s)
def getB (l : List Body) (o : Int) (s : Stamp) : List Nat × Int := match l.find? (isB o s) with
 | some x => (x.value, 0)
 | none => ([], 10)
def forgetB (l : List Body) (o : Int) : List Body := l.filter fun x => !decide (x.object = o)
def fitB (room : Int) : List Body → List Body
 | [] => []
 | x :: l => if (usedS (x :: l) : Int) ≤ room then x :: l else fitB room l
def putB (l : List Body) (room : Int) (x : Body) : List Body × Int := if cacheFormed l room = true ∧ rightBody x = true then (fitB room (forgetB l x.object ++ [x]), 0) else ([], 1)
-- views
def newS (room : Int) : View × Int := if roomB room = true then (⟨[], [], [], [], room⟩, 0) else (noView, 1)
def bodyV (v : View) (x : Body) : View × Int :=
 if viewFormed v = true ∧ rightBody x = true then
  (if wantedB v.held x = true then (⟨v.known, v.zones, v.held, fitB v.room (forgetB v.bodies x.object ++ [x]), v.room⟩, 0) else (noView, 13))
 else (noView, 1)
def readV (v : View) (o : Int) : List Nat × Write × Int :=
 if viewFormed v = true ∧ rightO o = true then
  (if spanHas (blurredS v.zones) o = true then ([], noW, 9) else
   match getW v.held o with
   | none => ([], noW, 8)
   | some w => if w.gone = true then ([], w, 0) else ((getB v.bodies o w.stamp).1, w, (getB v.bodies o w.stamp).2))
 else ([], noW, 1)
def noBody : Body := ⟨0, ⟨0, 0⟩, []⟩
def serveV (v : View) (o : Int) : Body × Int :=
 if viewFormed v = true ∧ rightO o = true then
  (match getW v.held o with
   | none => (noBody, 8)
   | some w => if w.gone = true then (noBody, 13) else (if (getB v.bodies o w.stamp).2 = 0 then (⟨o, w.stamp, (getB v.bodies o w.stamp).1⟩, 0) else (noBody, (getB v.bodies o w.stamp).2)))
 else (noBody, 1)
theorem told_right {z : List Zone} {k : List Stamp} {n : Note} : ∀ w ∈ toldW z k n, rightW w = true := fun w hw => by
 have h := (List.mem_filter.1 hw).2
 simp only [reachedB, vecHas, Bool.and_eq_true, decide_eq_true_eq] at h
 have ho : 0 ≤ w.object ∧ w.object ≤ 255 := by
  have h2 := h.2
  have h1 := h.1
  unfold reachS at h2
  by_cases hc : zonesFormed z = true ∧ vecFormed k = true ∧ 0 ≤ w.object ∧ w.object ≤ 255
  ·exact hc.2.2
  ·rw [if_neg hc] at h2
   simp only [countOf, rightB, decide_eq_true_eq] at h1 h2
   omega
 simp only [rightW, rightO, Bool.and_eq_true, decide_eq_true_eq]
 exact ⟨ho, h.1⟩
theorem putL_get_other : ∀ {list l : List Write} {o : Int}, Shelf l → (∀ w ∈ list, rightW w = true) → (∀ w ∈ list, ¬ w.object = o) → getW (putL l list) o = getW l o
 | [], _, _, _, _, _ => rfl
 | w :: list, l, o, h, hr, hn => by
  have h1 := put_get h (hr w (by simp)) o
  rw [if_neg fun e => hn w (by simp) e.symm] at h1
  rw [← h1]
  exact putL_get_other (l := putStep l w) (put_shelf h (hr w (by simp))).1 (fun x hx => hr x (by simp [hx])) fun x hx => hn x (by simp [hx])
def stayB (H : List Write) (t : List Write) (l : List Body) : List Body := l.filter fun x => wantedB H x || !t.any fun w => decide (x.object = w.object)
theorem stayB_nil (H : List Write) (l : List Body) : stayB H [] l = l := List.filter_eq_self.2 fun x _ => by simp
theorem stayB_snoc (H t : List Write) (w : Write) (l : List Body) : stayB H (t ++ [w]) l = (stayB H t l).filter fun x => wantedB H x || !decide (x.object = w.object) := by
 unfold stayB
 rw [List.filter_filter]
 congr 1
 funext x
 simp only [List.any_append, List.any_cons, List.any_nil, Bool.or_false, Bool.not_or]
 cases wantedB H x <;> simp [Bool.and_comm]
theorem stayB_once {H t : List Write} {l : List Body} (h : (l.map (·.object)).Nodup) : ((stayB H t l).map (·.object)).Nodup := h.sublist (List.filter_sublist.map _)
theorem keep_none {q : Body → Bool} {o : Int} {l : List Body} (h : l.any (fun x => decide (x.object = o)) = false) : (l.filter fun x => q x || !decide (x.object = o)) = l :=
 List.filter_eq_self.2 fun x hx => by
  have := List.any_eq_false.1 h x hx
  simp only [decide_eq_true_eq] at this
  simp [this]
theorem keep_one {q : Body → Bool} {o : Int} {l : List Body} {i : Nat} (hn : (l.map (·.object)).Nodup) (hi : i < l.length) (ho : l[i].object = o) : (l.filter fun x => q x || !decide (x.object = o)) = if q l[i] = true then l else l.take i ++ l.drop (i + 1) := by
 have hne : ∀ (j : Nat) (hj : j < l.length), j ≠ i → ¬ l[j].object = o := fun j hj hji e => by
  have := (List.getElem_inj (xs := l.map (·.object)) (i := j) (j := i) (h₀ := by simpa using hj) (h₁ := by simpa using hi) hn).1 (by simp [e, ho])
  exact hji this
 by_cases hq : q l[i] = true
 ·rw [if_pos hq, List.filter_eq_self]
  intro x hx
  obtain ⟨j, hj, rfl⟩ := List.mem_iff_getElem.1 hx
  by_cases e : j = i
  ·subst e
   rw [hq, Bool.true_or]
  ·simp [hne j hj e]
 ·rw [if_neg hq]
  conv => lhs; rw [← List.take_append_drop i l, List.drop_eq_getElem_cons hi]
  rw [List.filter_append, List.filter_cons, if_neg (by simp [ho, hq]), List.filter_eq_self.2, List.filter_eq_self.2]
  ·intro x hx
   obtain ⟨j, hj, rfl⟩ := List.mem_drop_iff_getElem.1 hx
   simp [hne _ _ (by omega : i + 1 + j ≠ i)]
  ·intro x hx
   obtain ⟨j, hj, rfl⟩ := List.mem_take_iff_getElem.1 hx
   simp [hne j (by omega) (by omega)]
theorem stayB_end {v : View} {z : List Zone} {k : List Stamp} {n : Note} (h : viewFormed v = true) : stayB (putL v.held (toldW z k n)) (toldW z k n) v.bodies = v.bodies.filter fun x => wantedB (putL v.held (toldW z k n)) x := by
 simp only [viewFormed, partsB, Bool.and_eq_true, List.all_eq_true] at h
 refine List.filter_congr fun x hx => ?_
 cases ht : (toldW z k n).any fun w => decide (x.object = w.object) with
 | true => simp
 | false =>
  have hw : wantedB (putL v.held (toldW z k n)) x = true := by
   unfold wantedB
   rw [putL_get_other (shelf_iff.1 h.1.1.1.1.2) told_right fun w hw e => by
    have := List.any_eq_false.1 ht w hw
    simp [e] at this]
   exact h.2 x hx
  rw [hw]
  rfl
theorem view_forget {v : View} (h : viewFormed v = true) : forgetB v.bodies (-1) = v.bodies := by
 simp only [viewFormed, partsB, cacheFormed, Bool.and_eq_true] at h
 refine List.filter_eq_self.2 fun x hx => ?_
 have := rightBody_in (once_right h.1.1.1.2.1.2 x hx)
 simp
 omega
theorem view_len {v : View} (h : viewFormed v = true) : v.bodies.length ≤ 256 := by
 simp only [viewFormed, partsB, cacheFormed, Bool.and_eq_true, decide_eq_true_eq] at h
 exact h.1.1.1.2.1.1.2
theorem view_zones {v : View} (h : viewFormed v = true) : v.zones.length ≤ 256 := by
 simp only [viewFormed, partsB, Bool.and_eq_true] at h
 have : (v.zones.length : Int) ≤ 255 - -1 := zones_len h.1.1.1.1.1.2 (by decide)
 omega
theorem view_once {v : View} (h : viewFormed v = true) : (v.bodies.map (·.object)).Nodup := by
 simp only [viewFormed, partsB, cacheFormed, onceB, Bool.and_eq_true, decide_eq_true_eq] at h
 exact h.1.1.1.2.1.2.2
end Go.Proofs.YtkphfdmelfhnoaaGreatDoor
