/- The law ViewSums: the sum of any view for any interest is what the reference says, and formed. The card (second form: of bulk at most 1048576). -/
import Derived.Test.YtkphfdmelfhnoaaGreatDoorPNoteMerge
import Derived.Test.YtkphfdmelfhnoaaGreatDoorPViewEnc
import Derived.OpenShut
import Derived.Test.YtkphfdmelfhnoaaGreatDoorPViewRead
import Derived.Test.YtkphfdmelfhnoaaGreatDoorPViewLaw
import Derived.Test.YtkphfdmelfhnoaaGreatDoorPSpanLess
import Derived.Test.YtkphfdmelfhnoaaGreatDoorPCache
import Derived.Test.YtkphfdmelfhnoaaGreatDoorPPlace
import Derived.Test.YtkphfdmelfhnoaaGreatDoorPReached
import Derived.Test.YtkphfdmelfhnoaaGreatDoorPRefThr
import Derived.Test.YtkphfdmelfhnoaaGreatDoorPAbsFrz
import Derived.Test.YtkphfdmelfhnoaaGreatDoorPRow
import Derived.Test.YtkphfdmelfhnoaaGreatDoorPRead
import Derived.Test.YtkphfdmelfhnoaaGreatDoorCards
import Derived.Test.YtkphfdmelfhnoaaGreatDoorTie
import Derived.Lib.LaidTab
import Derived.Deep.DeepWitnessRowRef
import Derived.Lib.SmallJoins
set_option linter.all false
set_option linter.unnecessarySimpa false
set_option linter.unusedSimpArgs false
set_option linter.unusedVariables false
namespace Go.Proofs.YtkphfdmelfhnoaaGreatDoor
open Go.ChangeShapes Go.WideShapes Go.ChangeAt Go.RowKit
def ZoneR (w : World) (B : Nat) (cs : List Value) (z : Zone) : Prop := ∃ v, cs = [.int .i64 z.span.lo, .int .i64 z.span.hi, v] ∧ I64 z.span.lo ∧ I64 z.span.hi ∧ Stamps w B v z.vec
theorem opens_zone {w : World} : Opens Tryz.prog w 147 3 (ZoneR w w.heap.size) := by
 intro H enc fuel cs x h
 obtain ⟨hl, n, hf⟩ := struct_pieces Tryz.underlying147 h
 have hk : Tryz.prog.cellsOf 147 = 3 := by kernel_rfl
 have hs : Tryz.prog.cellsOf 78 = 2 := by kernel_rfl
 have hv : Tryz.prog.cellsOf 22 = 1 := by kernel_rfl
 rw [hk] at hl
 refine ⟨hl, ?_⟩
 match cs, hl with
 | [v0, v1, v2], _ =>
  obtain ⟨y0, h0⟩ := hf 0 78 0 2 rfl hs
  obtain ⟨y1, h1⟩ := hf 1 22 2 1 rfl hv
  obtain ⟨_, a, e0, i0, i1⟩ := opens_span (w := w) H enc n _ _ h0
  obtain ⟨_, b, _, e1, s1⟩ := opens_stamps (w := w) H enc n _ _ h1
  simp at e0 e1
  obtain ⟨rfl, rfl⟩ := e0
  subst e1
  exact ⟨⟨a, b⟩, _, rfl, i0, i1, s1⟩
abbrev Zones (w : World) (B : Nat) (v : Value) (l : List Zone) : Prop := Sl (ZoneR w B) 3 w B v l
theorem opens_zones {w : World} : Opens Tryz.prog w 23 1 (fun cs l => ∃ v, cs = [v] ∧ Zones w w.heap.size v l) :=
 opens_slice Tryz.underlying23 (by kernel_rfl) (by omega) opens_zone
abbrev Bodies (w : World) (B : Nat) (v : Value) (l : List Body) : Prop := Sl (BodyR w B) 4 w B v l
theorem opens_bodies {w : World} : Opens Tryz.prog w 25 1 (fun cs l => ∃ v, cs = [v] ∧ Bodies w w.heap.size v l) :=
 opens_slice Tryz.underlying25 (by kernel_rfl) (by omega) opens_body
def ViewR (w : World) (B : Nat) (cs : List Value) (x : View) : Prop := ∃ v0 v1 v2 v3, cs = [v0, v1, v2, v3, .int .i64 x.room] ∧ Stamps w B v0 x.known ∧ Zones w B v1 x.zones ∧ Writes w B v2 x.held ∧ Bodies w B v3 x.bodies ∧ I64 x.room
theorem opens_view {w : World} : Opens Tryz.prog w 27 5 (ViewR w w.heap.size) := by
 intro H enc fuel cs x h
 obtain ⟨hl, n, hf⟩ := struct_pieces Tryz.underlying27 h
 have hk : Tryz.prog.cellsOf 27 = 5 := by kernel_rfl
 have q0 : Tryz.prog.cellsOf 22 = 1 := by kernel_rfl
 have q1 : Tryz.prog.cellsOf 23 = 1 := by kernel_rfl
 have q2 : Tryz.prog.cellsOf 24 = 1 := by kernel_rfl
 have q3 : Tryz.prog.cellsOf 25 = 1 := by kernel_rfl
 have q4 : Tryz.prog.cellsOf 3 = 1 := by kernel_rfl
 rw [hk] at hl
 refine ⟨hl, ?_⟩
 match cs, hl with
 | [v0, v1, v2, v3, v4], _ =>
  obtain ⟨y0, h0⟩ := hf 0 22 0 1 rfl q0
  obtain ⟨y1, h1⟩ := hf 1 23 1 1 rfl q1
  obtain ⟨y2, h2⟩ := hf 2 24 2 1 rfl q2
  obtain ⟨y3, h3⟩ := hf 3 25 3 1 rfl q3
  obtain ⟨y4, h4⟩ := hf 4 3 4 1 rfl q4
  obtain ⟨_, a, _, e0, s0⟩ := opens_stamps (w := w) H enc n _ _ h0
  obtain ⟨_, b, _, e1, s1⟩ := opens_zones (w := w) H enc n _ _ h1
  obtain ⟨_, c, _, e2, s2⟩ := opens_writes (w := w) H enc n _ _ h2
  obtain ⟨_, d, _, e3, s3⟩ := opens_bodies (w := w) H enc n _ _ h3
  obtain ⟨_, r, e4, i4⟩ := opens_int (w := w) Tryz.underlying3 H enc n _ _ h4
  simp at e0 e1 e2 e3 e4
  subst e0 e1 e2 e3 e4
  exact ⟨⟨a, b, c, d, r⟩, _, _, _, _, rfl, s0, s1, s2, s3, i4⟩
theorem z_rep {X : World} {cs : List Value} {x : Zone} (h : ZoneR X X.heap.size cs x) : RepVs X cs (enZ x) := by
 obtain ⟨v0, rfl, h1, h2, h⟩ := h
 exact ⟨.val h1, .val h2, stamps_rep h (Nat.le_refl _), trivial⟩
theorem zones_rep {X : World} {v : Value} {l : List Zone} (h : Zones X X.heap.size v l) : RepV X v (znI l) := RepV.of_typed (fun _ _ h => z_rep h) h (Nat.le_refl _)
theorem bytes_rep {X : World} {v : Value} {l : List Nat} (h : Bytes X X.heap.size v l) : RepV X v (byI l) := RepV.of_typed (enc := fun (b : Nat) => [.val (.int .u8 b)]) (fun cs x h => by
 obtain ⟨rfl, h1⟩ := h
 refine ⟨.val ?_, trivial⟩
 simp [okV, Lit.wf, IntKind.max, IntKind.min, IntKind.signed, IntKind.bits]
 omega) h (Nat.le_refl _)
theorem b_rep {X : World} {cs : List Value} {x : Body} (h : BodyR X X.heap.size cs x) : RepVs X cs (enB x) := by
 obtain ⟨v0, rfl, h1, h2, h3, h⟩ := h
 exact ⟨.val h1, .val h2, .val h3, bytes_rep h, trivial⟩
theorem bodies_rep {X : World} {v : Value} {l : List Body} (h : Bodies X X.heap.size v l) : RepV X v (boI l) := RepV.of_typed (fun _ _ h => b_rep h) h (Nat.le_refl _)
theorem view_rep {E : Env} {X : World} {v0 v1 v2 v3 : Value} {x : View} (h0 : Stamps X X.heap.size v0 x.known) (h1 : Zones X X.heap.size v1 x.zones) (h2 : Writes X X.heap.size v2 x.held) (h3 : Bodies X X.heap.size v3 x.bodies) : RepA E X (.agg #[v0, v1, v2, v3, .int .i64 x.room]) (vwA x) :=
 .agg rfl fun j v c a b => by
  match j, a, b with
  | 0, a, b => simp at a b; subst a b; exact .iv (stamps_rep h0 (Nat.le_refl _))
  | 1, a, b => simp at a b; subst a b; exact .iv (zones_rep h1)
  | 2, a, b => simp at a b; subst a b; exact .iv (writes_rep h2 (Nat.le_refl _))
  | 3, a, b => simp at a b; subst a b; exact .iv (bodies_rep h3)
  | 4, a, b => simp at a b; subst a b; exact .val
  | j + 5, a, b => simp at a
attribute [local irreducible] AW AWY vops vopsY vop vopL vdraw callW qop binQ lenQ storeQ appendQ callQ ACalls AIter
attribute [local go_sem] enB_eq boI_eq boA_eq enW_eq wrI_eq wA_eq enZ_eq znI_eq vwA_eq noteA_eq storeQ_bp storeQ_rp
def lackB (v : View) (it : List Span) (w : Write) : Bool := !w.gone && spanHas it w.object && !decide ((getB v.bodies w.object w.stamp).2 = 0)
def lackL (v : View) (it : List Span) (l : List Write) : List Int := (l.filter (lackB v it)).map (·.object)
def lacksV (v : View) (it : List Span) : List Int × Int := if viewFormed v = true then (lackL v it v.held, 0) else ([], 1)
def enO (o : Int) : List IV := [.val (.int .i64 o)]
end Go.Proofs.YtkphfdmelfhnoaaGreatDoor
namespace Go.Proofs.YtkphfdmelfhnoaaGreatDoor
theorem reachOf_formed {z : List Zone} {known : List Stamp} (hz : zonesFormed z = true) (hk : vecFormed known = true) (o : Int) : vecFormed (reachOf z known o) = true := by
 unfold reachOf
 split
 ·rename_i x hx
  have := zonesFrom_mem hz x (List.mem_of_find?_eq_some hx)
  simp only [zoneOk, Bool.and_eq_true] at this
  exact this.2
 ·exact hk
theorem cmp_before {a b : List Stamp} : cmpV a b = 1 ↔ coversB a b = false ∧ coversB b a = true := by
 unfold cmpV
 cases coversB a b <;> cases coversB b a <;> simp
theorem covers_refl (a : List Stamp) : coversB a a = true := coversB_iff.2 fun _ _ => Int.le_refl _
structure VF (v : View) : Prop where
 known : vecFormed v.known = true
 zones : zonesFormed v.zones = true
 held : Shelf v.held
 cache : cacheFormed v.bodies v.room = true
 below : ∀ x ∈ v.zones, coversB x.vec v.known = false ∧ coversB v.known x.vec = true
 reached : ∀ w ∈ v.held, vecHas (reachOf v.zones v.known w.object) w.stamp = true
 wanted : ∀ x ∈ v.bodies, wantedB v.held x = true
theorem reached_iff {z : List Zone} {k : List Stamp} (hz : zonesFormed z = true) (hk : vecFormed k = true) {w : Write} : reachedB z k w = true ↔ (0 ≤ w.object ∧ w.object ≤ 255) ∧ vecHas (reachOf z k w.object) w.stamp = true := by
 unfold reachedB reachS
 by_cases h : 0 ≤ w.object ∧ w.object ≤ 255
 ·rw [if_pos ⟨hz, hk, h⟩]
  exact ⟨fun hh => ⟨h, hh⟩, fun hh => hh.2⟩
 ·rw [if_neg fun hh => h hh.2.2]
  refine ⟨fun hh => ?_, fun hh => absurd hh.1 h⟩
  exfalso
  simp only [vecHas, Bool.and_eq_true, decide_eq_true_eq] at hh
  have h1 := hh.1
  have h2 := hh.2
  simp only [countOf, rightB, decide_eq_true_eq] at h1 h2
  omega
theorem view_iff {v : View} : viewFormed v = true ↔ VF v := by
 simp only [viewFormed, partsB, Bool.and_eq_true, List.all_eq_true, decide_eq_true_eq]
 constructor
 ·rintro ⟨⟨⟨⟨⟨⟨h1, h2⟩, h3⟩, h4⟩, h5⟩, h6⟩, h7⟩
  exact ⟨h1, h2, shelf_iff.1 h3, h4, fun x hx => cmp_before.1 (h5 x hx), fun w hw => ((reached_iff h2 h1).1 (h6 w hw)).2, h7⟩
 ·rintro ⟨h1, h2, h3, h4, h5, h6, h7⟩
  exact ⟨⟨⟨⟨⟨⟨h1, h2⟩, shelf_iff.2 h3⟩, h4⟩, fun x hx => cmp_before.2 (h5 x hx)⟩, fun w hw => (reached_iff h2 h1).2 ⟨rightW_in (h3.2 w hw), h6 w hw⟩⟩, h7⟩
theorem VF.reach_le {v : View} (h : VF v) (o : Int) : coversB v.known (reachOf v.zones v.known o) = true := by
 unfold reachOf
 split
 ·rename_i x hx
  exact (h.below x (List.mem_of_find?_eq_some hx)).2
 ·exact covers_refl _
def tookZ (v : View) (n : Note) : List Zone := zonesOf (zonesThen v.zones v.known n)
theorem covers_anti {a b : List Stamp} (ha : vecFormed a = true) (hb : vecFormed b = true) (h1 : coversB a b = true) (h2 : coversB b a = true) : a = b :=
 vec_unique (e := -1) (by omega) ha hb fun n hn => by
  have := coversB_iff.1 h1 n hn
  have := coversB_iff.1 h2 n hn
  omega
attribute [local irreducible] zonesOf tookZ in
theorem zone_in {v : View} (h : VF v) {o : Int} {u : List Stamp} : InZ v.zones o u ↔ ∃ k : Nat, k < 256 ∧ o = k ∧ reachOf v.zones v.known k = u ∧ coversB u v.known = false := by
 constructor
 ·rintro ⟨x, hx, h1, h2, rfl⟩
  have hp := (zones_pair h.zones).2 x hx
  have hok := zonesFrom_mem h.zones x hx
  simp only [zoneOk, Bool.and_eq_true, decide_eq_true_eq] at hok
  simp only [zoneEnd] at hp
  obtain ⟨i, hi, rfl⟩ := List.mem_iff_getElem.1 hx
  refine ⟨o.toNat, by omega, by omega, ?_, (h.below _ hx).1⟩
  exact reach_at h.zones v.known hi (by omega)
 ·rintro ⟨k, hk, rfl, e, hc⟩
  unfold reachOf at e
  split at e
  ·rename_i x hx
   have hh := List.find?_some hx
   simp only [Zone.has, Bool.and_eq_true, decide_eq_true_eq] at hh
   exact ⟨x, List.mem_of_find?_eq_some hx, hh.1, hh.2, e⟩
  ·rw [← e, covers_refl] at hc
   cases hc
theorem blur_iff {v : View} (h : VF v) {o : Nat} (ho : o < 256) : memB (blurredS v.zones) o = !coversB (reachOf v.zones v.known o) v.known := by
 unfold blurredS
 rw [if_pos h.zones, show tidyS (v.zones.map (·.span)) = ofSet fun o => memB (v.zones.map (·.span)) o from rfl, memB_ofSet _ ho, Bool.eq_iff_iff, memB_iff]
 constructor
 ·rintro ⟨s, hs, h1, h2⟩
  obtain ⟨x, hx, rfl⟩ := List.mem_map.1 hs
  obtain ⟨k, hk, e, h3, h4⟩ := (zone_in h).1 ⟨x, hx, h1, h2, rfl⟩
  obtain rfl : o = k := by omega
  rw [h3, h4]
  rfl
 ·intro hc
  obtain ⟨x, hx, h1, h2, _⟩ := (zone_in h).2 ⟨o, ho, rfl, rfl, by simpa using hc⟩
  exact ⟨x.span, List.mem_map_of_mem hx, h1, h2⟩
end Go.Proofs.YtkphfdmelfhnoaaGreatDoor
namespace Go.Proofs.YtkphfdmelfhnoaaGreatDoor
def partN (v : View) (r : List Stamp) (f : Nat → Bool) : Note := ⟨[], r, ofSet fun o => !f o, withinL v.held (ofSet f)⟩
theorem part_blur (v : View) (r : List Stamp) (f : Nat → Bool) : (partN v r f).blur = ofSet fun o => !f o := rfl
theorem part_at (v : View) (r : List Stamp) {f : Nat → Bool} {o : Nat} (ho : o < 256) : memB (partN v r f).blur o = !f o := by rw [part_blur, memB_ofSet _ ho]
def blurB (v : View) (it : List Span) (o : Nat) : Bool := memB it o && memB (blurredS v.zones) o
def sharpB (v : View) (it : List Span) (o : Nat) : Bool := memB it o && !memB (blurredS v.zones) o
def sumRows (v : View) (it : List Span) : Nat → List (List Stamp)
 | 0 => []
 | m + 1 => sumRows v it m ++ if blurB v it m = true ∧ reachOf v.zones v.known m ∉ sumRows v it m then [reachOf v.zones v.known m] else []
def sumSet (v : View) (it : List Span) (r : List Stamp) (o : Nat) : Bool := blurB v it o && decide (reachOf v.zones v.known o = r)
def sumL (v : View) (it : List Span) : List Note := partN v v.known (sharpB v it) :: (sumRows v it 256).map fun r => partN v r (sumSet v it r)
def sumV (v : View) (it : List Span) : List Note × Int := if viewFormed v = true then (sumL v it, 0) else ([], 1)
theorem sumRows_mem {v : View} {it : List Span} {r : List Stamp} : ∀ {m : Nat}, r ∈ sumRows v it m ↔ ∃ o, o < m ∧ blurB v it o = true ∧ reachOf v.zones v.known o = r
 | 0 => by simp [sumRows]
 | m + 1 => by
  rw [sumRows, List.mem_append, sumRows_mem]
  constructor
  ·rintro (⟨o, h1, h2⟩ | h)
   ·exact ⟨o, by omega, h2⟩
   ·split at h
    ·rename_i hb
     exact ⟨m, by omega, hb.1, (List.mem_singleton.1 h).symm⟩
    ·cases h
  ·rintro ⟨o, h1, h2, h3⟩
   rcases Nat.lt_or_ge o m with h | h
   ·exact .inl ⟨o, h, h2, h3⟩
   ·obtain rfl : o = m := by omega
    by_cases hi : reachOf v.zones v.known o ∈ sumRows v it o
    ·exact .inl (h3 ▸ sumRows_mem.1 hi)
    ·right
     rw [if_pos ⟨h2, hi⟩, h3]
     simp
theorem sumRows_len (v : View) (it : List Span) : ∀ m, (sumRows v it m).length ≤ m
 | 0 => Nat.le_refl _
 | m + 1 => by
  have := sumRows_len v it m
  rw [sumRows, List.length_append]
  split <;> simp <;> omega
theorem within_mem {l : List Write} {f : Nat → Bool} {w : Write} (h : Shelf l) : w ∈ withinL l (ofSet f) ↔ w ∈ l ∧ ∃ k : Nat, k < 256 ∧ w.object = k ∧ f k = true := by
 unfold withinL
 rw [List.mem_filter]
 constructor
 ·rintro ⟨h1, h2⟩
  unfold spanHas at h2
  rw [Bool.and_eq_true] at h2
  exact ⟨h1, mem_ofSet_in h2.2⟩
 ·rintro ⟨h1, k, h2, h3, h4⟩
  refine ⟨h1, ?_⟩
  unfold spanHas
  rw [h3, Bool.and_eq_true, decide_eq_true_eq, memB_ofSet _ h2]
  exact ⟨by omega, h4⟩
structure PartOk (v : View) (r : List Stamp) (f : Nat → Bool) : Prop where
 formed : vecFormed r = true
 below : coversB v.known r = true
 told : ∀ o : Nat, o < 256 → f o = true → reachOf v.zones v.known o = r
theorem covers_nil (r : List Stamp) : coversB r [] = true := coversB_iff.2 fun n _ => countOf_nonneg r n
theorem PartOk.has {v : View} (hv : VF v) {r : List Stamp} {f : Nat → Bool} (h : PartOk v r f) {w : Write} (hw : w ∈ (partN v r f).writes) : w ∈ v.held ∧ (∃ k : Nat, k < 256 ∧ w.object = k ∧ f k = true) ∧ vecHas r w.stamp = true := by
 obtain ⟨h1, k, h2, h3, h4⟩ := (within_mem hv.held).1 hw
 refine ⟨h1, ⟨k, h2, h3, h4⟩, ?_⟩
 have := hv.reached w h1
 rwa [h3, h.told k h2 h4] at this
theorem part_formed {v : View} (hv : VF v) {r : List Stamp} {f : Nat → Bool} (h : PartOk v r f) : noteFormed (partN v r f) = true := by
 refine noteFormed_iff.2 ⟨rfl, h.formed, covers_nil r, by rw [part_blur]; exact ofSet_formed _, writesFrom_iff.2 ⟨fun w hw => ?_, hv.held.1.sublist List.filter_sublist⟩⟩
 obtain ⟨h1, ⟨k, h2, h3, h4⟩, h5⟩ := h.has hv hw
 refine ⟨by omega, by omega, by omega, ?_, h5⟩
 rw [h3]
 unfold spanHas
 rw [part_at v r h2, h4]
 simp
theorem part_ok {v : View} (hv : VF v) (it : List Span) : PartOk v v.known (sharpB v it) := ⟨hv.known, covers_refl _, fun o ho h => by
 unfold sharpB at h
 rw [Bool.and_eq_true, blur_iff hv ho, Bool.not_not] at h
 exact covers_anti (reachOf_formed hv.zones hv.known _) hv.known h.2 (hv.reach_le o)⟩
theorem rest_ok {v : View} (hv : VF v) (it : List Span) {r : List Stamp} (hr : r ∈ sumRows v it 256) : PartOk v r (sumSet v it r) := by
 obtain ⟨o, ho, _, rfl⟩ := sumRows_mem.1 hr
 exact ⟨reachOf_formed hv.zones hv.known _, hv.reach_le _, fun p hp h => by
  unfold sumSet at h
  rw [Bool.and_eq_true, decide_eq_true_eq] at h
  exact h.2⟩
theorem sumL_formed {v : View} (hv : VF v) (it : List Span) : ∀ n ∈ sumL v it, noteFormed n = true := fun n hn => by
 rcases List.mem_cons.1 hn with rfl | hn
 ·exact part_formed hv (part_ok hv it)
 ·obtain ⟨r, hr, rfl⟩ := List.mem_map.1 hn
  exact part_formed hv (rest_ok hv it hr)
def takesV : View → List Note → View × Bool
 | v, [] => (v, true)
 | v, n :: l => if (takeV v n).2 = 0 then takesV (takeV v n).1 l else (v, false)
def summedV (x v : View) (it : List Span) : View × Bool := if viewFormed v = true then takesV x (sumL v it) else (x, false)
end Go.Proofs.YtkphfdmelfhnoaaGreatDoor
namespace Go.Proofs.YtkphfdmelfhnoaaGreatDoor
open Go.ChangeShapes Go.WideShapes Go.ChangeAt Go.RowKit
attribute [local irreducible] AW AWY vops vopsY vop vopL vdraw callW qop binQ lenQ storeQ appendQ callQ ACalls AIter
attribute [local go_sem] enW_eq wrI_eq wA_eq vwA_eq noteA_eq storeQ_bp storeQ_rp
theorem withinL_snoc (set : List Span) (l : List Write) (w : Write) : withinL (l ++ [w]) set = withinL l set ++ if spanHas set w.object = true then [w] else [] := by
 unfold withinL
 rw [List.filter_append, List.filter_cons, List.filter_nil]
theorem within_no {q : List Write × Int} {e : Int} (h : q = ([], e)) : Sub1 (.tup [.val (.slice none 0 0), .val (.int .i64 e)]) (.tup [.iv (wrI q.1), .val (.int .i64 q.2)]) := by
 subst h
 refine tup_sub rfl fun p hp => ?_
 simp only [List.zip_cons_cons, List.zip_nil_right, List.mem_cons, List.not_mem_nil, or_false] at hp
 rcases hp with rfl | rfl
 ·exact nil_sub 4
 ·exact Sub1.rfl_ _
set_option maxRecDepth 100000 in
set_option maxHeartbeats 1600000 in
theorem swithin_call (l : List Write) (set : List Span) : ACalls Tryz.prog TzTab 184 [.iv (wrI l), .iv (spI set)] (.tup [.iv (wrI (withinS l set).1), .val (.int .i64 (withinS l set).2)]) [] := by
 refine ACalls.ofS (n := 24) (rs := [.tmp 4, .tmp 5]) Tryz.func184 rfl (by kernel_rfl) Tryz.ntmps184 (by kernel_rfl) (by simp) (fun _ _ => TzTab.later) ?_
 intro hok V w0
 obtain ⟨R, hR⟩ : ∃ R, withinS l set = R := ⟨_, rfl⟩
 rw [hR]
 unfold withinS at hR
 have hI : ∀ x ∈ l, I64 x.stamp.count ∧ I64 x.stamp.node ∧ I64 x.object := fun x hx => by
  obtain ⟨-, o1, o2, o3, -⟩ := okR_mem (by simpa [wrI] using hok.1.2) (enW x) (List.mem_map_of_mem hx)
  exact ⟨o1, o2, o3⟩
 refine g ?_
 refine AW.seq ?_
 refine AW.reg rfl fun KK hKK => ?_
 refine g ?_
 repeat' (refine hKK _ (g ?_); clear hKK KK)
 refine AW.freeze 400 _ rfl ⟨trivial, trivial⟩ ?_
 simp only [go_sem, reduceIte, Nat.reduceEqDiff]
 refine g ?_
 repeat' (first | refine st_ rfl (g ?_) | refine cond_ (fun h => g ?_) (fun h => g ?_) | refine call_ (shformed_call _) rfl (g ?_) | refine call_ (shall_call _) rfl (g ?_))
 ·rw [if_neg (by simpa using h)] at hR
  exact within_no hR.symm
 have hF : shelfFormed l = true := by simpa using h
 rw [if_pos hF] at hR
 have hhl := shelf_len (shelf_iff.1 hF)
 refine AW.adoptB 700 9900 55 4 rfl rfl ?_
 refine AW.le (S := ⟨[(6, .bp 700 0), (3, .ip [spI set]), (13, .fn 174 [.ip [wrI l]])], [.row 9900 55 4 ((withinL [] set).map enW), .box 700 [.own 9900]]⟩) (ρ := id) ⟨⟨rfl, rfl, rfl, trivial⟩, ⟨rfl, rfl, trivial⟩, by simp [idsOf, BA.id]⟩ ?_
 refine AW.range (shall_iter l hF) [(6, .bp 700 0)] [(3, .ip [spI set]), (13, .fn 174 [.ip [wrI l]])] (fun pre => [.row 9900 55 4 ((withinL pre set).map enW), .box 700 [.own 9900]]) (fun _ => True) rfl trivial rfl rfl rfl rfl (fun x => ⟨rfl, rfl⟩) (fun c pre x hsp _ => ?_) (fun xs hS _ => ?_)
 ·have hx : x ∈ l := hsp.subset (by simp)
  obtain ⟨w1, w2, w3⟩ := hI x hx
  have hs := withinL_snoc set pre x
  have hll : (withinL pre set).length ≤ 256 := by
   unfold withinL
   have h1 := List.length_filter_le (fun w => spanHas set w.object) pre
   have h2 := hsp.length_le
   rw [List.length_append, List.length_singleton] at h2
   omega
  simp only [parF, enWo, List.cons_append, List.nil_append]
  refine g ?_
  refine AW.seq ?_
  refine AW.reg rfl fun KK hKK => ?_
  refine g ?_
  repeat' (refine hKK _ (g ?_); clear hKK KK)
  refine AW.reg rfl fun KK hKK => ?_
  refine g ?_
  repeat' (refine hKK _ (g ?_); clear hKK KK)
  refine AW.freeze 900 _ rfl ⟨w1, w2, w3, trivial, trivial⟩ ?_
  simp only [go_sem, reduceIte, Nat.reduceEqDiff]
  refine g ?_
  repeat' (first | refine st_ rfl (g ?_) | refine cond_ (fun h => g ?_) (fun h => g ?_) | refine call_ (shas_call _ _) rfl (g ?_))
  ·rw [if_pos (by simpa using h)] at hs
   refine bs1 (by omega) rfl rfl rfl ⟨w1, w2, w3, trivial, trivial⟩ ?_
   refine g ?_
   refine append_own rfl (by kernel_rfl) (by omega) (by kernel_rfl) rfl (by simp; omega) ?_
   refine g ?_
   refine ⟨trivial, fun b => if b = 9900 then 2300 else b, ⟨rfl, trivial⟩, ⟨?_, rfl, trivial⟩, by simp [idsOf, BA.id]⟩
   rw [hs, List.map_append]
   rfl
  ·rw [if_neg (by simpa using h), List.append_nil] at hs
   refine ⟨trivial, id, ⟨rfl, trivial⟩, ⟨?_, rfl, trivial⟩, by simp [idsOf, BA.id]⟩
   rw [hs]
   rfl
 ·obtain rfl : xs = l := hS
  refine AW.freeze 9900 _ rfl trivial ?_
  simp only [go_sem, reduceIte, Nat.reduceEqDiff]
  refine g ?_
  repeat' refine st_ rfl (g ?_)
  subst hR
  exact Sub1.rfl_ _
theorem note_nil (a b c : IV) : Sub1 (.agg [.val (.slice none 0 0), .iv a, .iv b, .iv c]) (.agg [.iv (stI []), .iv a, .iv b, .iv c]) := by
 refine agg_sub rfl fun p hp => ?_
 simp only [List.zip_cons_cons, List.zip_nil_right, List.mem_cons, List.not_mem_nil, or_false] at hp
 rcases hp with rfl | rfl | rfl | rfl
 ·exact nil_sub 2
 all_goals exact Sub1.rfl_ _
set_option maxRecDepth 100000 in
set_option maxHeartbeats 1600000 in
theorem vpart_call (v : View) (r : List Stamp) (set : List Span) (iR : I64 v.room) (hF : shelfFormed v.held = true) : ACalls Tryz.prog TzTab 114 [vwA v, .iv (stI r), .iv (spI set)] (noteA ⟨[], r, lessS2 [⟨0, 255⟩] set, withinL v.held set⟩) [] := by
 refine ACalls.ofS (n := 24) (rs := [.cell 6 30]) Tryz.func114 rfl (by kernel_rfl) Tryz.ntmps114 (by kernel_rfl) (by simp) (fun _ _ => TzTab.later) ?_
 intro hok V w0
 have hw := swithin_call v.held set
 unfold withinS at hw
 rw [if_pos hF] at hw
 obtain ⟨W, hW⟩ : ∃ W, withinL v.held set = W := ⟨_, rfl⟩
 have hl := sless_D [⟨0, 255⟩] set
 obtain ⟨B, hB⟩ : ∃ B, lessS2 [⟨0, 255⟩] set = B := ⟨_, rfl⟩
 rw [hW] at hw ⊢
 rw [hB] at hl ⊢
 simp only at hw
 refine g ?_
 refine AW.seq ?_
 refine AW.reg rfl fun KK hKK => ?_
 refine g ?_
 repeat' (refine hKK _ (g ?_); clear hKK KK)
 refine AW.freeze 400 _ rfl ⟨trivial, trivial, trivial, trivial, iR, trivial⟩ ?_
 simp only [go_sem, reduceIte, Nat.reduceEqDiff]
 refine g ?_
 repeat' (first | refine st_ rfl (g ?_) | refine call_ (hw) rfl (g ?_) | refine call_ (clonestD _) rfl (g ?_))
 refine bd1 (by omega) rfl rfl rfl ⟨rfl, rfl, trivial⟩ ?_
 refine g ?_
 repeat' (first | refine st_ rfl (g ?_) | refine call_ (hl) rfl (g ?_))
 exact note_nil _ _ _
end Go.Proofs.YtkphfdmelfhnoaaGreatDoor
namespace Go.Proofs.YtkphfdmelfhnoaaGreatDoor
open Go.ChangeShapes Go.WideShapes Go.ChangeAt Go.RowKit
theorem str_eq {t : TypeId} {x y : Operand} {a b : ByteArray} {K : AV → Prop} (h : K (.val (.bool (decide (a = b))))) : binQ Tryz.prog .eql t x y (.val (.string a)) (.val (.string b)) K := ⟨_, fun w => by
 go_simp
 rw [ByteArray.toList_eq, ByteArray.toList_eq]
 by_cases e : a = b
 ·simp [e]
 ·rw [decide_eq_false e, beq_eq_false_iff_ne]
  exact fun h => e (bytes_inj h), h⟩
attribute [local irreducible] AW AWY vops vopsY vop vopL vdraw callW qop binQ lenQ storeQ appendQ callQ ACalls AIter setI
attribute [local go_sem] boA_eq byI_eq storeQ_bp storeQ_rp
end Go.Proofs.YtkphfdmelfhnoaaGreatDoor
namespace Go.Proofs.YtkphfdmelfhnoaaGreatDoor
open Go.ChangeShapes Go.WideShapes Go.ChangeAt Go.RowKit
attribute [local irreducible] AW AWY vops vopsY vop vopL vdraw callW qop binQ lenQ storeQ appendQ callQ ACalls AIter
attribute [local go_sem] byI_eq enB_eq boI_eq boA_eq enW_eq wrI_eq wA_eq enZ_eq znI_eq vwA_eq noteA_eq storeQ_bp storeQ_rp
def toldA (q : Told) : AV := .tup [vwA q.view, noteA q.note, .val (.int .i64 q.err)]
theorem write_no {q : Told} {e : Int} (h : q = noTold e) : Sub1 (.tup [.agg [.val (.slice none 0 0), .val (.slice none 0 0), .val (.slice none 0 0), .val (.slice none 0 0), .val (.int .i64 0)], .agg [.val (.slice none 0 0), .val (.slice none 0 0), .val (.slice none 0 0), .val (.slice none 0 0)], .val (.int .i64 e)]) (.tup [vwA q.view, noteA q.note, .val (.int .i64 q.err)]) := by
 subst h
 refine tup_sub rfl fun p hp => ?_
 simp only [List.zip_cons_cons, List.zip_nil_right, List.mem_cons, List.not_mem_nil, or_false] at hp
 rcases hp with rfl | rfl | rfl
 ·refine agg_sub rfl fun p hp => ?_
  simp only [List.zip_cons_cons, List.zip_nil_right, List.mem_cons, List.not_mem_nil, or_false] at hp
  rcases hp with rfl | rfl | rfl | rfl | rfl
  ·exact nil_sub 2
  ·exact nil_sub 3
  ·exact nil_sub 4
  ·exact nil_sub 4
  ·exact Sub1.rfl_ _
 ·refine agg_sub rfl fun p hp => ?_
  simp only [List.zip_cons_cons, List.zip_nil_right, List.mem_cons, List.not_mem_nil, or_false] at hp
  rcases hp with rfl | rfl | rfl | rfl
  ·exact nil_sub 2
  ·exact nil_sub 2
  ·exact nil_sub 2
  ·exact nil_sub 4
 ·exact Sub1.rfl_ _
theorem nextS_in {c n s : Int} (hc : c ≤ 9223372036854775807) (hn : I64 n) : I64 (nextS c n s).1.count ∧ I64 (nextS c n s).1.node := by
 unfold nextS
 split
 ·exact ⟨rfl, rfl⟩
 ·split
  ·exact ⟨rfl, rfl⟩
  ·exact ⟨I64.of (by simp only; omega) (by simp only; omega), hn⟩
theorem body_room (v : View) (x : Body) (h : I64 v.room) : I64 (bodyV v x).1.room := by
 unfold bodyV
 split
 ·split
  ·exact h
  ·exact rfl
 ·exact rfl
theorem take_room (v : View) (n : Note) (h : I64 v.room) : I64 (takeV v n).1.room := by
 unfold takeV
 split
 ·split
  ·exact h
  ·exact rfl
 ·exact rfl
set_option maxRecDepth 100000 in
set_option maxHeartbeats 6400000 in
theorem vwrite_call (v : View) (me o skip : Int) (l : List Nat) (gone : Bool) (iR : I64 v.room) (iM : I64 me) (iO : I64 o) (iS : I64 skip) : ACalls Tryz.prog TzTab 26 [vwA v, .val (.int .i64 me), .val (.int .i64 o), .val (.int .i64 skip), .iv (byI l), .val (.bool gone)] (.tup [vwA (writeV v me o skip l gone).view, noteA (writeV v me o skip l gone).note, .val (.int .i64 (writeV v me o skip l gone).err)]) [] := by
 refine ACalls.ofS (n := 102) (rs := [.cell 12 27, .cell 13 30, .tmp 14]) Tryz.func26 rfl (by kernel_rfl) Tryz.ntmps26 (by kernel_rfl) (by simp) (fun _ _ => TzTab.later) ?_
 intro hok V w0
 obtain ⟨R, hR⟩ : ∃ R, writeV v me o skip l gone = R := ⟨_, rfl⟩
 rw [hR]
 unfold writeV at hR
 have hI : ∀ k : Int, I64 (countOf v.known k) := fun k => by
  refine countOf_i64 (fun s hs => ?_) k
  obtain ⟨-, h2, -⟩ := okR_mem (by simpa [stI] using hok.1.1.2) (enSt s) (List.mem_map_of_mem hs)
  exact h2
 have hG := greatS_in v.known hI
 have hnx := next_call (greatS v.known) me skip (I64.hi hG) (I64.hi iS)
 obtain ⟨x1, x2⟩ := nextS_in (s := skip) (I64.hi hG) iM
 obtain ⟨N, hN⟩ : ∃ N, nextS (greatS v.known) me skip = N := ⟨_, rfl⟩
 rw [hN] at hnx x1 x2 hR
 obtain ⟨s, e1⟩ := N
 simp only at hnx x1 x2 hR
 refine g ?_
 refine AW.seq ?_
 refine AW.reg rfl fun KK hKK => ?_
 refine g ?_
 repeat' (refine hKK _ (g ?_); clear hKK KK)
 refine AW.freeze 700 _ rfl ⟨trivial, trivial, trivial, trivial, iR, trivial⟩ ?_
 simp only [go_sem, reduceIte, Nat.reduceEqDiff]
 have hT := vtake_call v
 cases gone with
 | true =>
  have hof := nof_call v.known ⟨s, o, true⟩ x1 x2 iO
  obtain ⟨N, hN⟩ : ∃ N, ofN v.known ⟨s, o, true⟩ = N := ⟨_, rfl⟩
  rw [hN] at hof hR
  obtain ⟨n, e2⟩ := N
  simp only at hof hR
  have htk := vtake_call v n iR
  have hroom := take_room v n iR
  obtain ⟨X, hX⟩ : ∃ X, takeV v n = X := ⟨_, rfl⟩
  rw [hX] at htk hR hroom
  obtain ⟨x, e3⟩ := X
  simp only at htk hR hroom
  have hbo := vbody_call x ⟨o, s, l⟩ hroom iO x1 x2
  obtain ⟨Y, hY⟩ : ∃ Y, bodyV x ⟨o, s, l⟩ = Y := ⟨_, rfl⟩
  have hyr := body_room x ⟨o, s, l⟩ hroom
  rw [hY] at hbo hR hyr
  obtain ⟨y, e4⟩ := Y
  simp only at hbo hR hyr
  refine g ?_
  repeat' (first | refine st_ rfl (g ?_) | refine cond_d (fun h => g ?_) (fun h => g ?_) | (refine vops_ifd rfl rfl (fun h e => ?_) (fun h e => ?_) <;> simp only [e] <;> clear e <;> refine g ?_) | (refine vops_if rfl rfl (fun h => ?_) (fun h => ?_) <;> simp only [h] <;> refine g ?_) | refine call_ (vform_call v iR) rfl (g ?_) | refine call_ (great_call _) rfl (g ?_))
  ·rw [if_neg (by rintro ⟨a, _⟩; simp [a] at h)] at hR
   exact write_no hR.symm
  ·rw [if_neg (by rintro ⟨_, a, _⟩; simp [rightO] at a; omega)] at hR
   exact write_no hR.symm
  ·rw [if_neg (by rintro ⟨_, a, _⟩; simp [rightO] at a; omega)] at hR
   exact write_no hR.symm
  ·rw [if_neg (by rintro ⟨_, _, a, _⟩; omega)] at hR
   exact write_no hR.symm
  ·rw [if_neg (by rintro ⟨_, _, _, a⟩; simp at a; simp [a] at h)] at hR
   exact write_no hR.symm
  rw [if_pos (by simp at *; simp [rightO, *]; try omega)] at hR
  refine call_ hnx rfl (g ?_)
  refine g ?_
  refine AW.freeze 1600 _ rfl ⟨x1, x2, trivial⟩ ?_
  simp only [go_sem, reduceIte, Nat.reduceEqDiff]
  refine g ?_
  repeat' (first | refine st_ rfl (g ?_) | refine cond_d (fun h => g ?_) (fun h => g ?_))
  ·rw [if_neg h] at hR
   exact write_no hR.symm
  rw [if_pos (by simpa using h)] at hR
  refine call_ hof rfl (g ?_)
  refine g ?_
  refine AW.freeze 1800 _ rfl ⟨trivial, trivial, trivial, trivial, trivial⟩ ?_
  simp only [go_sem, reduceIte, Nat.reduceEqDiff]
  refine g ?_
  repeat' (first | refine st_ rfl (g ?_) | refine cond_d (fun h => g ?_) (fun h => g ?_))
  ·rw [if_neg h] at hR
   exact write_no hR.symm
  rw [if_pos (by simpa using h)] at hR
  refine g ?_
  repeat' (first | refine st_ rfl (g ?_) | refine cond_d (fun h => g ?_) (fun h => g ?_) | (refine vops_ifd rfl rfl (fun h e => ?_) (fun h e => ?_) <;> simp only [e] <;> clear e <;> refine g ?_) | refine call_ (htk) rfl (g ?_))
  ·omega
  ·rw [if_pos (by assumption), if_pos trivial] at hR
   subst hR
   refine AW.freeze 1900 _ rfl ⟨trivial, trivial, trivial, trivial, hroom, trivial⟩ ?_
   simp only [go_sem, reduceIte, Nat.reduceEqDiff]
   refine AW.drawn (ds := [100, 101, 14]) (fin := [2, 3]) (bs := [2, 2, 2, 3, 4]) [⟨[], [], [0, 1], [], 0⟩, ⟨[], [], [0], [], 0⟩, ⟨[(100, 0)], [], [], [1], 1⟩, ⟨[(101, 1)], [], [], [0], 1⟩, ⟨[], [], [], [], 0⟩] (by kernel_rfl) rfl (by kernel_rfl) rfl rfl rfl fun KD hKD => ?_
   refine g ?_
   repeat' (first | refine st_ rfl (g ?_) | (refine hKD _ _ ⟨rfl, g ?_⟩; clear hKD KD))
   exact Sub1.rfl_ _
  ·rw [if_neg h] at hR
   exact write_no hR.symm
  ·omega
 | false =>
  have hof := nof_call v.known ⟨s, o, false⟩ x1 x2 iO
  obtain ⟨N, hN⟩ : ∃ N, ofN v.known ⟨s, o, false⟩ = N := ⟨_, rfl⟩
  rw [hN] at hof hR
  obtain ⟨n, e2⟩ := N
  simp only at hof hR
  have htk := vtake_call v n iR
  have hroom := take_room v n iR
  obtain ⟨X, hX⟩ : ∃ X, takeV v n = X := ⟨_, rfl⟩
  rw [hX] at htk hR hroom
  obtain ⟨x, e3⟩ := X
  simp only at htk hR hroom
  have hbo := vbody_call x ⟨o, s, l⟩ hroom iO x1 x2
  obtain ⟨Y, hY⟩ : ∃ Y, bodyV x ⟨o, s, l⟩ = Y := ⟨_, rfl⟩
  have hyr := body_room x ⟨o, s, l⟩ hroom
  rw [hY] at hbo hR hyr
  obtain ⟨y, e4⟩ := Y
  simp only at hbo hR hyr
  refine g ?_
  repeat' (first | refine st_ rfl (g ?_) | (refine vops_ifd rfl rfl (fun h e => ?_) (fun h e => ?_) <;> simp only [e] <;> clear e <;> refine g ?_) | (refine vops_if rfl rfl (fun h => ?_) (fun h => ?_) <;> simp only [h] <;> refine g ?_) | refine call_ (vform_call v iR) rfl (g ?_) | refine call_ (great_call _) rfl (g ?_))
  ·rw [if_neg (by rintro ⟨a, _⟩; simp [a] at h)] at hR
   exact write_no hR.symm
  ·rw [if_neg (by rintro ⟨_, a, _⟩; simp [rightO] at a; omega)] at hR
   exact write_no hR.symm
  ·rw [if_neg (by rintro ⟨_, a, _⟩; simp [rightO] at a; omega)] at hR
   exact write_no hR.symm
  ·rw [if_neg (by rintro ⟨_, _, a, _⟩; omega)] at hR
   exact write_no hR.symm
  rw [if_pos (by simp at *; simp [rightO, *]; try omega)] at hR
  refine call_ hnx rfl (g ?_)
  refine g ?_
  refine AW.freeze 1600 _ rfl ⟨x1, x2, trivial⟩ ?_
  simp only [go_sem, reduceIte, Nat.reduceEqDiff]
  refine g ?_
  repeat' (first | refine st_ rfl (g ?_) | refine cond_d (fun h => g ?_) (fun h => g ?_))
  ·rw [if_neg h] at hR
   exact write_no hR.symm
  rw [if_pos (by simpa using h)] at hR
  refine call_ hof rfl (g ?_)
  refine g ?_
  refine AW.freeze 1800 _ rfl ⟨trivial, trivial, trivial, trivial, trivial⟩ ?_
  simp only [go_sem, reduceIte, Nat.reduceEqDiff]
  refine g ?_
  repeat' (first | refine st_ rfl (g ?_) | refine cond_d (fun h => g ?_) (fun h => g ?_))
  ·rw [if_neg h] at hR
   exact write_no hR.symm
  rw [if_pos (by simpa using h)] at hR
  refine g ?_
  repeat' (first | refine st_ rfl (g ?_) | refine cond_d (fun h => g ?_) (fun h => g ?_) | (refine vops_ifd rfl rfl (fun h e => ?_) (fun h e => ?_) <;> simp only [e] <;> clear e <;> refine g ?_) | refine call_ (htk) rfl (g ?_) | refine call_ (hbo) rfl (g ?_))
  ·rename_i hb
   rw [if_pos hb, if_neg (by decide), if_neg h] at hR
   exact write_no hR.symm
  ·rename_i hb
   rw [if_pos hb, if_neg (by decide), if_pos (by simpa using h)] at hR
   subst hR
   refine AW.freeze 1900 _ rfl ⟨trivial, trivial, trivial, trivial, hyr, trivial⟩ ?_
   simp only [go_sem, reduceIte, Nat.reduceEqDiff]
   refine AW.drawn (ds := [100, 101, 14]) (fin := [2, 3]) (bs := [2, 2, 2, 3, 4]) [⟨[], [], [0, 1], [], 0⟩, ⟨[], [], [0], [], 0⟩, ⟨[(100, 0)], [], [], [1], 1⟩, ⟨[(101, 1)], [], [], [0], 1⟩, ⟨[], [], [], [], 0⟩] (by kernel_rfl) rfl (by kernel_rfl) rfl rfl rfl fun KD hKD => ?_
   refine g ?_
   repeat' (first | refine st_ rfl (g ?_) | (refine hKD _ _ ⟨rfl, g ?_⟩; clear hKD KD))
   exact Sub1.rfl_ _
  ·rw [if_neg h] at hR
   exact write_no hR.symm
  ·omega
end Go.Proofs.YtkphfdmelfhnoaaGreatDoor
namespace Go.Proofs.YtkphfdmelfhnoaaGreatDoor
open Go.ChangeShapes Go.WideShapes Go.ChangeAt Go.RowKit
attribute [local irreducible] AW AWY vops vopsY vop vopL vdraw callW qop binQ lenQ storeQ appendQ callQ ACalls AIter
attribute [local go_sem] enB_eq boI_eq boA_eq enW_eq wrI_eq wA_eq enZ_eq znI_eq vwA_eq storeQ_bp storeQ_rp
end Go.Proofs.YtkphfdmelfhnoaaGreatDoor
namespace Go.Proofs.YtkphfdmelfhnoaaGreatDoor
open Go.ChangeShapes Go.WideShapes Go.ChangeAt Go.RowKit
attribute [local irreducible] AW AWY vops vopsY vop vopL vdraw callW qop binQ lenQ storeQ appendQ callQ ACalls AIter
attribute [local go_sem] enB_eq boI_eq boA_eq enW_eq wrI_eq wA_eq enZ_eq znI_eq vwA_eq storeQ_bp storeQ_rp
end Go.Proofs.YtkphfdmelfhnoaaGreatDoor
namespace Go.Proofs.YtkphfdmelfhnoaaGreatDoor
open Go.ChangeShapes Go.WideShapes Go.ChangeAt Go.RowKit
attribute [local irreducible] AW AWY vops vopsY vop vopL vdraw callW qop binQ lenQ storeQ appendQ callQ ACalls AIter setI
attribute [local go_sem] enW_eq wrI_eq wA_eq vwA_eq noteA_eq storeQ_val storeQ_iv storeQ_own storeQ_agg
set_option maxRecDepth 100000 in
set_option maxHeartbeats 1600000 in
theorem rsless_call (a b : List Span) : ACalls Tryz.prog TzTab 233 [.iv (spI a), .iv (spI b)] (.iv (spI (lessS2 a b))) [] := by
 refine ACalls.of (n := 29) (rs := [.tmp 4]) Tryz.func233 rfl (by kernel_rfl) Tryz.ntmps233 (by kernel_rfl) (by simp) (fun _ _ => TzTab.later) ?_
 intro hok V w0
 refine g ?_
 repeat' refine st_ rfl (g ?_)
 refine call_ (rset_call a) rfl (g ?_)
 refine g ?_
 refine call_ (rset_call b) rfl (g ?_)
 refine g ?_
 refine store_ar (q := 2) (s := 256) (by kernel_rfl) (setI_len _) rfl (by simp [rep]) ?_
 refine g ?_
 refine store_ar (q := 2) (s := 256) (by kernel_rfl) (setI_len _) rfl (by simp [rep]) ?_
 refine g ?_
 repeat' refine st_ rfl (g ?_)
 refine AW.freeze 700 _ rfl trivial ?_
 simp only [go_sem, reduceIte, Nat.reduceEqDiff]
 refine AW.loop (fun m : {m : Nat // m ≤ 256} => ⟨[(5, .bp 600 0), (6, .ip (setI fun o => memB b o)), (7, .val (.int .i64 (m.1 : Nat)))], [.arr 600 (setI fun o => memB a o && !(decide (o < m.1) && memB b o))]⟩) (fun m => 256 - m.1) ⟨0, Nat.zero_le _⟩ id ⟨⟨rfl, rfl, rfl, trivial⟩, ⟨congrArg (fun C => some (BA.arr 600 C)) (setI_congr fun o _ => by simp), trivial⟩, by simp [idsOf, BA.id]⟩ fun ⟨m, hm⟩ => ?_
 simp only
 repeat (refine AW.seq ?_)
 refine AW.reg rfl fun KK hKK => ?_
 refine g ?_
 repeat' (refine hKK _ (g ?_); clear hKK KK)
 repeat (refine AW.seq ?_)
 refine st_ rfl ?_
 refine g ?_
 refine cond_d (fun h => ?_) (fun h => ?_)
 ·have hm' : m < 256 := by omega
  obtain ⟨F, hF⟩ : ∃ F : Nat → Bool, (fun o : Nat => memB a o && !(decide (o < m) && memB b o)) = F := ⟨_, rfl⟩
  have hld : (setI F)[m]? = some (.val (.bool (memB a m))) := by rw [setI_at hm', ← hF]; simp
  have hnx : setI (fun o => if o = m then (memB a m && !memB b m) else F o) = setI fun o => memB a o && !(decide (o < m + 1) && memB b o) := setI_congr fun o _ => by
   rw [← hF]
   by_cases e : o = m
   ·subst e; simp
   ·rw [if_neg e, show decide (o < m + 1) = decide (o < m) from decide_eq_decide.2 (by omega)]
  rw [hF]
  refine g ?_
  repeat' refine st_ rfl (g ?_)
  refine ⟨by omega, by omega, ?_⟩
  rw [Nat.mul_one, Nat.zero_add]
  refine g ?_
  repeat' refine hold_ (g ?_)
  refine ⟨_, hld, ?_⟩
  cases ha : memB a m with
  | false =>
   rw [ha, Bool.false_and] at hnx
   refine g ?_
   repeat' refine hold_ (g ?_)
   refine ⟨by omega, by omega, ?_⟩
   rw [Nat.mul_one, Nat.zero_add]
   refine g ?_
   repeat' refine hold_ (g ?_)
   refine ⟨_, rfl, ⟨trivial, trivial⟩, by rw [setI_len]; omega, ?_⟩
   refine g ?_
   repeat' (first | refine st_ rfl (g ?_) | refine hold_ (g ?_))
   refine ⟨⟨m + 1, hm'⟩, id, ⟨⟨rfl, rfl, rfl, trivial⟩, ⟨congrArg (fun C => some (BA.arr 600 C)) ((setI_put hm').trans hnx), trivial⟩, by simp [idsOf, BA.id]⟩, by show 256 - (m + 1) < 256 - m; omega⟩
  | true =>
   rw [ha, Bool.true_and] at hnx
   refine g ?_
   repeat' refine hold_ (g ?_)
   refine ⟨by omega, by omega, ?_⟩
   rw [Nat.mul_one]
   refine g ?_
   repeat' refine hold_ (g ?_)
   refine rdI_drop (setI_at hm') ?_
   refine g ?_
   refine ⟨by omega, by omega, ?_⟩
   rw [Nat.mul_one, Nat.zero_add]
   refine g ?_
   repeat' refine hold_ (g ?_)
   refine ⟨_, rfl, ⟨trivial, trivial⟩, by rw [setI_len]; omega, ?_⟩
   refine g ?_
   repeat' (first | refine st_ rfl (g ?_) | refine hold_ (g ?_))
   refine ⟨⟨m + 1, hm'⟩, id, ⟨⟨rfl, rfl, rfl, trivial⟩, ⟨congrArg (fun C => some (BA.arr 600 C)) ((setI_put hm').trans hnx), trivial⟩, by simp [idsOf, BA.id]⟩, by show 256 - (m + 1) < 256 - m; omega⟩
 ·obtain rfl : m = 256 := by omega
  refine AW.exit ?_
  simp only [reduceIte]
  refine g ?_
  repeat' refine st_ rfl (g ?_)
  refine ⟨(setI_len _).symm, ?_⟩
  rw [show lessS2 a b = ofSet (fun o => memB a o && !(decide (o < 256) && memB b o)) from ofSet_congr fun o ho => by simp [ho]]
  refine g ?_
  repeat' (first | refine st_ rfl (g ?_) | exact trivial | refine call_ (rsofD _) rfl (g ?_))
theorem rsrest_call (l : List Span) : ACalls Tryz.prog TzTab 189 [.iv (spI l)] (.iv (spI (lessS2 [⟨0, 255⟩] l))) [] := by
 refine ACalls.of (n := 7) (rs := [.tmp 2]) Tryz.func189 rfl (by kernel_rfl) Tryz.ntmps189 (by kernel_rfl) (by simp) (fun _ _ => TzTab.later) ?_
 intro hok V w0
 refine g ?_
 repeat' refine st_ rfl (g ?_)
 refine bd1 (by omega) rfl rfl rfl ⟨rfl, rfl, trivial⟩ ?_
 refine g ?_
 repeat' (first | refine st_ rfl (g ?_) | exact trivial | refine call_ (rsless_call [⟨0, 255⟩] l) rfl (g ?_))
set_option maxRecDepth 100000 in
set_option maxHeartbeats 1600000 in
theorem rswithin_call (l : List Write) (set : List Span) : ACalls Tryz.prog TzTab 190 [.iv (wrI l), .iv (spI set)] (.tup [.iv (wrI (withinS l set).1), .val (.int .i64 (withinS l set).2)]) [] := by
 refine ACalls.ofS (n := 35) (rs := [.tmp 4, .tmp 5]) Tryz.func190 rfl (by kernel_rfl) Tryz.ntmps190 (by kernel_rfl) (by simp) (fun _ _ => TzTab.later) ?_
 intro hok V w0
 obtain ⟨R, hR⟩ : ∃ R, withinS l set = R := ⟨_, rfl⟩
 rw [hR]
 unfold withinS at hR
 have hI : ∀ x ∈ l, I64 x.stamp.count ∧ I64 x.stamp.node ∧ I64 x.object := fun x hx => by
  obtain ⟨-, o1, o2, o3, -⟩ := okR_mem (by simpa [wrI] using hok.1.2) (enW x) (List.mem_map_of_mem hx)
  exact ⟨o1, o2, o3⟩
 refine g ?_
 repeat' (first | refine st_ rfl (g ?_) | refine cond_ (fun h => g ?_) (fun h => g ?_) | refine call_ (rshformed_call _) rfl (g ?_))
 ·rw [if_neg (by simpa using h)] at hR
  exact within_no hR.symm
 have hF : shelfFormed l = true := by simpa using h
 rw [if_pos hF] at hR
 have hS := shelf_iff.1 hF
 have hhl := shelf_len hS
 refine call_ (rset_call set) rfl (g ?_)
 refine g ?_
 refine store_ar (q := 2) (s := 256) (by kernel_rfl) (setI_len _) rfl (by simp [rep]) ?_
 refine g ?_
 repeat' refine st_ rfl (g ?_)
 refine AW.freeze 700 _ rfl trivial ?_
 simp only [go_sem, reduceIte, Nat.reduceEqDiff]
 refine AW.adopt 7 9900 55 4 rfl rfl ?_
 refine AW.loop (fun m : {m : Nat // m ≤ l.length} => ⟨[(0, .iv (wrI l)), (6, .ip (setI fun o => memB set o)), (7, .own 9900), (8, .val (.int .i64 (m.1 : Nat)))], [.row 9900 55 4 ((withinL (l.take m.1) set).map enW)]⟩) (fun m => l.length - m.1) ⟨0, Nat.zero_le _⟩ id ⟨⟨rfl, rfl, rfl, rfl, trivial⟩, ⟨rfl, trivial⟩, by simp [idsOf, BA.id]⟩ fun ⟨m, hm⟩ => ?_
 simp only
 repeat (refine AW.seq ?_)
 refine AW.reg rfl fun KK hKK => ?_
 refine g ?_
 repeat' (refine hKK _ (g ?_); clear hKK KK)
 repeat (refine AW.seq ?_)
 refine st_ rfl ?_
 refine g ?_
 refine cond_d (fun h => ?_) (fun h => ?_)
 ·have hlt : m < l.length := by omega
  have hs := withinL_snoc set (l.take m) l[m]
  rw [← List.take_succ_eq_append_getElem hlt] at hs
  have hll : (withinL (l.take m) set).length ≤ 256 := by
   unfold withinL
   have h1 := List.length_filter_le (fun w => spanHas set w.object) (l.take m)
   have h2 := List.length_take_le m l
   omega
  have hr := rightW_in (hS.2 _ (List.getElem_mem hlt))
  obtain ⟨o1, o2, o3⟩ := hI _ (List.getElem_mem hlt)
  obtain ⟨J, hJ⟩ : ∃ J, withinL (l.take m) set = J := ⟨_, rfl⟩
  obtain ⟨x, hx⟩ : ∃ x, l[m] = x := ⟨_, rfl⟩
  rw [hJ] at hs hll ⊢
  rw [hx] at hs hr o1 o2 o3
  obtain ⟨k, hk⟩ : ∃ k : Nat, x.object = k := ⟨x.object.toNat, by omega⟩
  have hkt : x.object.toNat = k := by omega
  have hsp : spanHas set x.object = memB set k := by
   unfold spanHas
   rw [decide_eq_true hr, Bool.true_and, hk]
  rw [hsp] at hs
  refine g ?_
  repeat' (first | refine st_ rfl (g ?_) | refine ix_ (by omega) (g ?_))
  rw [hx]
  refine ⟨by omega, by omega, ?_⟩
  rw [hkt, Nat.mul_one]
  refine g ?_
  repeat' refine hold_ (g ?_)
  refine rdI_drop (setI_at (by omega)) ?_
  cases hb : memB set k with
  | false =>
   rw [hb, if_neg (by decide), List.append_nil] at hs
   refine g ?_
   repeat' refine st_ rfl (g ?_)
   refine ⟨⟨m + 1, hlt⟩, id, ⟨⟨rfl, rfl, rfl, rfl, trivial⟩, ⟨?_, trivial⟩, by simp [idsOf, BA.id]⟩, by show l.length - (m + 1) < l.length - m; omega⟩
   rw [hs]
   rfl
  | true =>
   rw [hb, if_pos rfl] at hs
   refine g ?_
   repeat' (first | refine st_ rfl (g ?_) | refine ix_ (by omega) (g ?_))
   rw [hx]
   refine bs1 (by omega) rfl rfl rfl ⟨o1, o2, o3, trivial, trivial⟩ ?_
   refine g ?_
   refine append_own rfl (by kernel_rfl) (by omega) (by kernel_rfl) rfl (by simp; omega) ?_
   refine g ?_
   repeat' refine st_ rfl (g ?_)
   refine ⟨⟨m + 1, hlt⟩, fun b => if b = 9900 then 3400 else b, ⟨⟨rfl, rfl, rfl, rfl, trivial⟩, ⟨?_, trivial⟩, by simp [idsOf, BA.id]⟩, by show l.length - (m + 1) < l.length - m; omega⟩
   rw [hs, List.map_append]
   rfl
 ·obtain rfl : m = l.length := by omega
  rw [List.take_length]
  refine AW.exit ?_
  simp only [reduceIte]
  refine AW.freeze 9900 _ rfl trivial ?_
  simp only [go_sem, reduceIte, Nat.reduceEqDiff]
  refine g ?_
  repeat' refine st_ rfl (g ?_)
  subst hR
  exact Sub1.rfl_ _
set_option maxRecDepth 100000 in
set_option maxHeartbeats 1600000 in
theorem rvpart_call (v : View) (r : List Stamp) (f : Nat → Bool) (iR : I64 v.room) (hF : shelfFormed v.held = true) : ACalls Tryz.prog TzTab 121 [vwA v, .iv (stI r), .aggI (setI f)] (noteA (partN v r f)) [] := by
 refine ACalls.ofS (n := 25) (rs := [.cell 6 30]) Tryz.func121 rfl (by kernel_rfl) Tryz.ntmps121 (by kernel_rfl) (by simp) (fun _ _ => TzTab.later) ?_
 intro hok V w0
 have hw := rswithin_call v.held (ofSet f)
 unfold withinS at hw
 rw [if_pos hF] at hw
 have hl := rsrest_call (ofSet f)
 have hb : lessS2 [⟨0, 255⟩] (ofSet f) = ofSet fun o => !f o := ofSet_congr fun o ho => by
  rw [memB_ofSet _ ho]
  have : memB [⟨0, 255⟩] (o : Int) = true := memB_one.2 ⟨by simp only; omega, by simp only; omega⟩
  rw [this, Bool.true_and]
 rw [hb] at hl
 unfold partN
 obtain ⟨W, hW⟩ : ∃ W, withinL v.held (ofSet f) = W := ⟨_, rfl⟩
 obtain ⟨B, hB⟩ : ∃ B, (ofSet fun o => !f o) = B := ⟨_, rfl⟩
 rw [hW] at hw ⊢
 rw [hB] at hl ⊢
 simp only at hw
 refine g ?_
 refine AW.seq ?_
 refine AW.reg rfl fun KK hKK => ?_
 refine g ?_
 repeat' (refine hKK _ (g ?_); clear hKK KK)
 refine AW.freeze 400 _ rfl ⟨trivial, trivial, trivial, trivial, iR, trivial⟩ ?_
 simp only [go_sem, reduceIte, Nat.reduceEqDiff]
 refine g ?_
 repeat' refine st_ rfl (g ?_)
 refine ⟨(setI_len _).symm, ?_⟩
 refine g ?_
 repeat' (first | refine st_ rfl (g ?_) | refine call_ (rsofD f) rfl (g ?_) | refine call_ (rvcopyD _) rfl (g ?_) | refine call_ (hl) rfl (g ?_) | refine call_ (hw) rfl (g ?_))
 exact note_nil _ _ _
end Go.Proofs.YtkphfdmelfhnoaaGreatDoor
namespace Go.Proofs.YtkphfdmelfhnoaaGreatDoor
def zoneRows (z : List Zone) (it : List Span) : Nat → List (List Stamp)
 | 0 => []
 | i + 1 => zoneRows z it i ++ match z[i]? with
  | some x => if touchS [x.span] it = true ∧ x.vec ∉ zoneRows z it i then [x.vec] else []
  | none => []
theorem zoneRows_at {z : List Zone} {it : List Span} {i : Nat} (h : i < z.length) : zoneRows z it (i + 1) = zoneRows z it i ++ if touchS [z[i].span] it = true ∧ z[i].vec ∉ zoneRows z it i then [z[i].vec] else [] := by
 rw [zoneRows, List.getElem?_eq_getElem h]
theorem zoneRows_mem {z : List Zone} {it : List Span} {r : List Stamp} : ∀ {i : Nat}, i ≤ z.length → (r ∈ zoneRows z it i ↔ ∃ j, ∃ h : j < z.length, j < i ∧ z[j].vec = r ∧ touchS [z[j].span] it = true)
 | 0, _ => by simp [zoneRows]
 | i + 1, hi => by
  rw [zoneRows_at (by omega), List.mem_append, zoneRows_mem (by omega)]
  constructor
  ·rintro (⟨j, h, h1, h2⟩ | h)
   ·exact ⟨j, h, by omega, h2⟩
   ·split at h
    ·rename_i hb
     exact ⟨i, by omega, by omega, (List.mem_singleton.1 h).symm, hb.1⟩
    ·cases h
  ·rintro ⟨j, h, h1, h2, h3⟩
   rcases Nat.lt_or_ge j i with h4 | h4
   ·exact .inl ⟨j, h, h4, h2, h3⟩
   ·obtain rfl : j = i := by omega
    by_cases hm : z[j].vec ∈ zoneRows z it j
    ·exact .inl (h2 ▸ (zoneRows_mem (by omega)).1 hm)
    ·right
     rw [if_pos ⟨h3, hm⟩, h2]
     simp
theorem touch_one {s : Span} {it : List Span} : touchS [s] it = true ↔ ∃ o : Nat, o < 256 ∧ (s.lo ≤ o ∧ (o : Int) ≤ s.hi) ∧ memB it o = true := by
 rw [touch_iff]
 constructor
 ·rintro ⟨o, h1, h2, h3⟩; exact ⟨o, h1, memB_one.1 h2, h3⟩
 ·rintro ⟨o, h1, h2, h3⟩; exact ⟨o, h1, memB_one.2 h2, h3⟩
theorem rows_gap {v : View} {it : List Span} {a : Nat} : ∀ {b : Nat}, a ≤ b → (∀ o, a ≤ o → o < b → blurB v it o = false) → sumRows v it b = sumRows v it a
 | 0, h, _ => by
  obtain rfl : a = 0 := by omega
  rfl
 | b + 1, h, hb => by
  rcases Nat.eq_or_lt_of_le h with rfl | h1
  ·rfl
  ·rw [sumRows, if_neg (by rw [hb b (by omega) (by omega)]; simp), List.append_nil]
   exact rows_gap (by omega) fun o h2 h3 => hb o h2 (by omega)
open Classical in
theorem rows_run {v : View} {it : List Span} {r : List Stamp} {a : Nat} : ∀ {b : Nat}, a ≤ b → (∀ o, a ≤ o → o < b → blurB v it o = memB it o ∧ reachOf v.zones v.known o = r) → sumRows v it b = sumRows v it a ++ if (∃ o : Nat, (a ≤ o ∧ o < b) ∧ memB it o = true) ∧ r ∉ sumRows v it a then [r] else []
 | 0, h, _ => by
  obtain rfl : a = 0 := by omega
  rw [if_neg (by rintro ⟨⟨o, h1, _⟩, _⟩; omega), List.append_nil]
 | b + 1, h, hb => by
  rcases Nat.eq_or_lt_of_le h with rfl | h1
  ·rw [if_neg (by rintro ⟨⟨o, h1, _⟩, _⟩; omega), List.append_nil]
  ·have ih := rows_run (v := v) (it := it) (r := r) (a := a) (b := b) (by omega) fun o h2 h3 => hb o h2 (by omega)
   obtain ⟨e1, e2⟩ := hb b (by omega) (by omega)
   rw [sumRows, e1, e2]
   by_cases hA : r ∈ sumRows v it a
   ·have hs : sumRows v it b = sumRows v it a := by rw [ih, if_neg (fun h => h.2 hA), List.append_nil]
    rw [hs, if_neg (fun h => h.2 hA), if_neg (fun h => h.2 hA)]
   ·rw [ih]
    by_cases hE : ∃ o : Nat, (a ≤ o ∧ o < b) ∧ memB it o = true
    ·rw [if_pos ⟨hE, hA⟩, if_neg (by simp), List.append_nil, if_pos]
     obtain ⟨o, h2, h3⟩ := hE
     exact ⟨⟨o, by omega, h3⟩, hA⟩
    ·rw [if_neg (fun h => hE h.1), List.append_nil]
     by_cases hm : memB it b = true
     ·rw [if_pos ⟨hm, hA⟩, if_pos ⟨⟨b, by omega, hm⟩, hA⟩]
     ·rw [if_neg (fun h => hm h.1), if_neg]
      rintro ⟨⟨o, h2, h3⟩, _⟩
      rcases Nat.eq_or_lt_of_le (show o ≤ b by omega) with rfl | h4
      ·exact hm h3
      ·exact hE ⟨o, by omega, h3⟩
theorem blurred_mem {v : View} (hv : VF v) {o : Nat} (ho : o < 256) : memB (blurredS v.zones) o = true ↔ ∃ j, ∃ h : j < v.zones.length, v.zones[j].span.lo ≤ o ∧ (o : Int) ≤ v.zones[j].span.hi := by
 unfold blurredS
 rw [if_pos hv.zones, show tidyS (v.zones.map (·.span)) = ofSet fun o => memB (v.zones.map (·.span)) o from rfl, memB_ofSet _ ho, memB_iff]
 constructor
 ·rintro ⟨s, hs, h1, h2⟩
  obtain ⟨x, hx, rfl⟩ := List.mem_map.1 hs
  obtain ⟨j, hj, rfl⟩ := List.mem_iff_getElem.1 hx
  exact ⟨j, hj, h1, h2⟩
 ·rintro ⟨j, hj, h1, h2⟩
  exact ⟨_, List.mem_map_of_mem (List.getElem_mem hj), h1, h2⟩
theorem rows_same {v : View} (hv : VF v) (it : List Span) : sumRows v it 256 = zoneRows v.zones it v.zones.length := by
 have key : ∀ i, i ≤ v.zones.length → ∀ m : Nat, (m : Int) = zoneEnd (v.zones.take i).getLast? + 1 → sumRows v it m = zoneRows v.zones it i := by
  intro i
  induction i with
  | zero =>
   intro _ m hm
   simp only [List.take_zero, List.getLast?_nil, zoneEnd] at hm
   obtain rfl : m = 0 := by omega
   rfl
  | succ i ih =>
   intro hi m hm
   have hlt := end_lt hv.zones (i := i) (by omega)
   have hle := zone_le hv.zones (i := i) (by omega)
   have hge := zoneEnd_at (l := v.zones) (m := i) (by
    have h1 := hv.zones
    unfold zonesFormed at h1
    rw [← List.take_append_drop i v.zones, zonesFrom_append, Bool.and_eq_true] at h1
    exact h1.1)
   have hok := zonesFrom_mem hv.zones v.zones[i] (List.getElem_mem (by omega))
   simp only [zoneOk, Bool.and_eq_true, decide_eq_true_eq] at hok
   rw [end_at' (l := v.zones) (m := i + 1) (by omega) (by omega)] at hm
   simp only [Nat.add_sub_cancel] at hm
   obtain ⟨a, ha⟩ : ∃ a : Nat, (a : Int) = zoneEnd (v.zones.take i).getLast? + 1 := ⟨(zoneEnd (v.zones.take i).getLast? + 1).toNat, by omega⟩
   obtain ⟨b, hb⟩ : ∃ b : Nat, (b : Int) = v.zones[i].span.lo := ⟨v.zones[i].span.lo.toNat, by omega⟩
   have hgap : sumRows v it b = sumRows v it a := rows_gap (by omega) fun o h1 h2 => by
    unfold blurB
    cases hm2 : memB (blurredS v.zones) o with
    | false => rw [Bool.and_false]
    | true =>
     obtain ⟨j, hj, h3, h4⟩ := (blurred_mem hv (by omega)).1 hm2
     exfalso
     rcases Nat.lt_or_ge j i with h5 | h5
     ·have := end_ge hv.zones h5 (by omega)
      omega
     ·rcases Nat.eq_or_lt_of_le h5 with rfl | h6
      ·omega
      ·have := zone_lt hv.zones h6 hj
       omega
   have hrun := rows_run (v := v) (it := it) (r := v.zones[i].vec) (a := b) (b := m) (by omega) fun o h1 h2 => by
    refine ⟨?_, reach_at hv.zones v.known (by omega) (by omega)⟩
    unfold blurB
    rw [(blurred_mem hv (by omega)).2 ⟨i, by omega, by omega, by omega⟩, Bool.and_true]
   rw [hrun, hgap, ih (by omega) a ha, zoneRows_at (by omega)]
   congr 1
   have e : (∃ o : Nat, (b ≤ o ∧ o < m) ∧ memB it o = true) ↔ touchS [v.zones[i].span] it = true := by
    rw [touch_one]
    constructor
    ·rintro ⟨o, h1, h2⟩; exact ⟨o, by omega, by omega, h2⟩
    ·rintro ⟨o, h0, h1, h2⟩; exact ⟨o, by omega, h2⟩
   by_cases h1 : touchS [v.zones[i].span] it = true ∧ v.zones[i].vec ∉ zoneRows v.zones it i
   ·exact (if_pos ⟨e.2 h1.1, h1.2⟩).trans (if_pos h1).symm
   ·exact (if_neg fun h => h1 ⟨e.1 h.1, h.2⟩).trans (if_neg h1).symm
 have hge := zoneEnd_at (l := v.zones) (m := v.zones.length) (by rw [List.take_length]; exact hv.zones)
 obtain ⟨a, ha⟩ : ∃ a : Nat, (a : Int) = zoneEnd (v.zones.take v.zones.length).getLast? + 1 := ⟨(zoneEnd (v.zones.take v.zones.length).getLast? + 1).toNat, by omega⟩
 rw [← key _ (Nat.le_refl _) a ha]
 refine rows_gap (by omega) fun o h1 h2 => ?_
 unfold blurB
 cases hm2 : memB (blurredS v.zones) o with
 | false => rw [Bool.and_false]
 | true =>
  obtain ⟨j, hj, h3, h4⟩ := (blurred_mem hv (by omega)).1 hm2
  have := end_ge hv.zones (show j < v.zones.length from hj) (Nat.le_refl _)
  omega
def setF (z : List Zone) (it : List Span) (i : Nat) (r : List Stamp) (k : Nat) (o : Nat) : Bool := memB it o && ((z.drop i).take k).any fun x => decide (x.vec = r) && x.has o
theorem setF_zero (z : List Zone) (it : List Span) (i : Nat) (r : List Stamp) : ofSet (setF z it i r 0) = [] := by
 refine formed_unique (ofSet_formed _) (show formedFrom _ [] = true from rfl) fun o => ⟨fun h => ?_, fun h => by simp [memB] at h⟩
 obtain ⟨k, _, _, h2⟩ := mem_ofSet_in h
 simp [setF] at h2
theorem setF_step {z : List Zone} {it : List Span} {i k : Nat} (h : i + k < z.length) (r : List Stamp) (o : Nat) : setF z it i r (k + 1) o = (setF z it i r k o || (decide (z[i + k].vec = r) && (memB [z[i + k].span] o && memB it o))) := by
 unfold setF
 rw [List.take_succ_eq_append_getElem (by simp; omega), List.any_append, List.getElem_drop]
 simp only [List.any_cons, List.any_nil, Bool.or_false]
 rw [show memB [z[i + k].span] (o : Int) = z[i + k].has o from by simp [memB, Zone.has]]
 cases memB it o <;> simp
theorem setF_put {z : List Zone} {it : List Span} {i k : Nat} (h : i + k < z.length) : tidyS (ofSet (setF z it i z[i].vec k) ++ meetS2 [z[i + k].span] it) = ofSet (fun o => setF z it i z[i].vec k o || (memB [z[i + k].span] o && memB it o)) := by
 refine ofSet_congr fun o ho => ?_
 rw [memB_append, memB_ofSet _ ho]
 unfold meetS2
 rw [memB_ofSet _ ho]
theorem setF_all {v : View} (hv : VF v) {it : List Span} {i : Nat} (hi : i < v.zones.length) (hn : v.zones[i].vec ∉ zoneRows v.zones it i) : ofSet (setF v.zones it i v.zones[i].vec (v.zones.length - i)) = ofSet (sumSet v it v.zones[i].vec) := by
 refine ofSet_congr fun o ho => ?_
 unfold setF sumSet blurB
 rw [List.take_of_length_le (by simp)]
 cases hm : memB it o with
 | false => simp
 | true =>
  rw [Bool.true_and, Bool.true_and, Bool.eq_iff_iff, List.any_eq_true, Bool.and_eq_true, decide_eq_true_eq, blurred_mem hv ho]
  constructor
  ·rintro ⟨x, hx, h1⟩
   obtain ⟨j, hj, rfl⟩ := List.mem_drop_iff_getElem.1 hx
   simp only [Zone.has, Bool.and_eq_true, decide_eq_true_eq] at h1
   exact ⟨⟨i + j, by omega, h1.2⟩, by rw [reach_at hv.zones v.known (i := i + j) (by omega) h1.2, h1.1]⟩
  ·rintro ⟨⟨j, hj, h1⟩, h2⟩
   rw [reach_at hv.zones v.known hj h1] at h2
   rcases Nat.lt_or_ge j i with h3 | h3
   ·exact (hn ((zoneRows_mem (by omega)).2 ⟨j, hj, h3, h2, touch_one.2 ⟨o, ho, h1, hm⟩⟩)).elim
   ·refine ⟨v.zones[j], List.mem_drop_iff_getElem.2 ⟨j - i, by omega, by congr 1; omega⟩, ?_⟩
    simp only [Zone.has, Bool.and_eq_true, decide_eq_true_eq]
    exact ⟨h2, h1⟩
end Go.Proofs.YtkphfdmelfhnoaaGreatDoor
namespace Go.Proofs.YtkphfdmelfhnoaaGreatDoor
open Go.ChangeShapes Go.WideShapes Go.ChangeAt Go.RowKit
attribute [local irreducible] AW AWY vops vopsY vop vopL vdraw callW qop binQ lenQ storeQ appendQ callQ ACalls AIter
attribute [local go_sem] enZ_eq znI_eq vwA_eq noteA_eq enN_eq noI_eq storeQ_bp storeQ_rp
@[go_sem] theorem frzB_mp {b : Nat} {k : IntKind} {kv : List (Int × Value)} {x : BA} {r : List BA} : frzB x (.mp b k kv :: r) = .mp b k kv :: frzB x r := rfl
@[go_sem] theorem frzA_mv_box {b c : Nat} {cs : List AV} : frzA (.box b cs) (.mv c) = if c = b then .any else .mv c := rfl
theorem part_same (v : View) (r : List Stamp) (f : Nat → Bool) : (⟨[], r, lessS2 [⟨0, 255⟩] (ofSet f), withinL v.held (ofSet f)⟩ : Note) = partN v r f := by
 unfold partN lessS2
 rw [show ofSet (fun o => memB [⟨0, 255⟩] o && !memB (ofSet f) o) = ofSet fun o => !f o from ofSet_congr fun o ho => by
  rw [memB_ofSet _ ho, show memB [⟨0, 255⟩] (o : Int) = true from memB_one.2 ⟨by simp only; omega, by simp only; omega⟩, Bool.true_and]]
theorem sharp_set (v : View) (it : List Span) : lessS2 it (blurredS v.zones) = ofSet (sharpB v it) := rfl
theorem sum_no {q : List Note × Int} {e : Int} (h : q = ([], e)) : Sub1 (.tup [.val (.slice none 0 0), .val (.int .i64 e)]) (.tup [.iv (noI q.1), .val (.int .i64 q.2)]) := by
 subst h
 refine tup_sub rfl fun p hp => ?_
 simp only [List.zip_cons_cons, List.zip_nil_right, List.mem_cons, List.not_mem_nil, or_false] at hp
 rcases hp with rfl | rfl
 ·exact nil_sub 4
 ·exact Sub1.rfl_ _
theorem zoneRows_len (z : List Zone) (it : List Span) : ∀ i, (zoneRows z it i).length ≤ i
 | 0 => Nat.le_refl _
 | i + 1 => by
  have := zoneRows_len z it i
  rw [zoneRows, List.length_append]
  split
  ·split <;> simp <;> omega
  ·simp; omega
def sumUp (v : View) (it : List Span) (i : Nat) : List Note := partN v v.known (sharpB v it) :: (zoneRows v.zones it i).map fun r => partN v r (sumSet v it r)
def ToldM (z : List Zone) (i : Nat) (p : Zone → Nat → Bool) (kv : List (Int × Value)) : Prop := ∀ (j : Nat) (x : Zone), i ≤ j → z[j]? = some x → (kvGet kv (j : Int)).getD (.bool false) = .bool (p x j)
set_option maxRecDepth 100000 in
set_option maxHeartbeats 3200000 in
theorem vsum_call (v : View) (it : List Span) (iR : I64 v.room) : ACalls Tryz.prog TzTab 39 [vwA v, .iv (spI it)] (.tup [.iv (noI (sumV v it).1), .val (.int .i64 (sumV v it).2)]) [] := by
 refine ACalls.ofS (n := 84) (rs := [.tmp 4, .tmp 5]) Tryz.func39 rfl (by kernel_rfl) Tryz.ntmps39 (by kernel_rfl) (by simp) (fun _ _ => TzTab.later) ?_
 intro hok V w0
 obtain ⟨R, hR⟩ : ∃ R, sumV v it = R := ⟨_, rfl⟩
 rw [hR]
 unfold sumV at hR
 refine g ?_
 refine AW.seq ?_
 refine AW.reg rfl fun KK hKK => ?_
 refine g ?_
 repeat' (refine hKK _ (g ?_); clear hKK KK)
 refine AW.freeze 300 _ rfl ⟨trivial, trivial, trivial, trivial, iR, trivial⟩ ?_
 simp only [go_sem, reduceIte, Nat.reduceEqDiff]
 refine g ?_
 repeat' (first | refine st_ rfl (g ?_) | refine cond_ (fun h => g ?_) (fun h => g ?_) | refine call_ (vform_call v iR) rfl (g ?_))
 ·rw [if_neg (by simpa using h)] at hR
  exact sum_no hR.symm
 have hF : viewFormed v = true := by simpa using h
 rw [if_pos hF] at hR
 have hv := view_iff.1 hF
 have hhf : shelfFormed v.held = true := shelf_iff.2 hv.held
 have hzl := view_zones hF
 have hp0 := vpart_call v v.known (lessS2 it (blurredS v.zones)) iR hhf
 rw [sharp_set, part_same] at hp0
 have hl0 := sless_D it (blurredS v.zones)
 rw [sharp_set] at hl0
 refine AW.drawn (ds := [16, 17, 18, 19, 20, 21, 22, 23, 24, 25, 6]) (fin := [0]) (bs := [0, 0, 0, 0, 0, 0, 0, 0, 0, 0, 1]) [⟨[], [], [], [], 0⟩, ⟨[], [], [], [], 0⟩, ⟨[(17, 1)], [], [], [], 0⟩, ⟨[], [], [], [], 0⟩, ⟨[], [], [], [], 0⟩, ⟨[(20, 4)], [], [], [], 0⟩, ⟨[(21, 5)], [], [], [], 0⟩, ⟨[(19, 3), (22, 6)], [], [], [], 0⟩, ⟨[(16, 0), (18, 2), (23, 7)], [], [], [], 0⟩, ⟨[(24, 8)], [], [], [], 1⟩, ⟨[(25, 9)], [], [], [], 0⟩] (by kernel_rfl) rfl (by kernel_rfl) rfl rfl rfl fun KD hKD => ?_
 refine g ?_
 repeat' (first | refine call_ (zblur_call _) rfl (g ?_) | refine call_ (hl0) rfl (g ?_) | refine call_ (hp0) rfl (g ?_))
 refine bs1 (by omega) rfl rfl rfl ⟨trivial, trivial, trivial, trivial, trivial⟩ ?_
 refine g ?_
 repeat' (first | refine st_ rfl (g ?_) | (refine hKD _ _ ⟨rfl, g ?_⟩; clear hKD KD))
 have hzI : ∀ z ∈ v.zones, I64 z.span.lo ∧ I64 z.span.hi := fun z hz => by
  obtain ⟨-, o1, o2, -⟩ := okR_mem (by simpa [znI] using hok.1.2.1.2) (enZ z) (List.mem_map_of_mem hz)
  exact ⟨o1, o2⟩
 refine AW.loop (fun x : {x : Nat × List (Int × Value) // x.1 ≤ v.zones.length ∧ ToldM v.zones x.1 (fun z _ => decide (z.vec ∈ zoneRows v.zones it x.1)) x.2} => ⟨[(1, .iv (spI it)), (2, .ip [stI v.known, znI v.zones, wrI v.held, boI v.bodies, .val (.int .i64 v.room)]), (6, .own 2600), (7, .mv 2700), (28, .iv (znI v.zones)), (29, .val (.int .i64 (v.zones.length : Nat))), (30, .val (.int .i64 (x.1.1 : Nat)))], [.mp 2700 .i64 x.1.2, .row 2600 30 4 ((sumUp v it x.1.1).map enN)]⟩) (fun x => v.zones.length - x.1.1) ⟨(0, []), Nat.zero_le _, fun j x _ _ => rfl⟩ id ⟨⟨rfl, rfl, rfl, rfl, rfl, rfl, rfl, trivial⟩, ⟨rfl, rfl, trivial⟩, by simp [idsOf, BA.id]⟩ fun ⟨⟨i, kv⟩, hi, hk⟩ => ?_
 simp only at hi hk ⊢
 repeat (refine AW.seq ?_)
 refine AW.reg rfl fun KK hKK => ?_
 refine g ?_
 repeat' (refine hKK _ (g ?_); clear hKK KK)
 repeat (refine AW.seq ?_)
 refine st_ rfl ?_
 refine g ?_
 refine cond_d (fun h => ?_) (fun h => ?_)
 ·have hlt : i < v.zones.length := by omega
  obtain ⟨x, hx⟩ : ∃ x, v.zones[i] = x := ⟨_, rfl⟩
  have hgx : v.zones[i]? = some x := by rw [List.getElem?_eq_getElem hlt, hx]
  obtain ⟨w1, w2⟩ := hzI _ (List.getElem_mem hlt)
  have hz := zoneRows_at (it := it) hlt
  have hzl2 := zoneRows_len v.zones it i
  have hall := setF_all hv (it := it) hlt
  rw [hx] at w1 w2 hz hall
  have hki := hk i x (Nat.le_refl _) hgx
  have htc := stouch_call [x.span] it
  refine st_ rfl (g ?_)
  refine AW.seq ?_
  refine AW.block ?_
  repeat (refine AW.seq ?_)
  refine AW.reg rfl fun KK hKK => ?_
  refine g ?_
  refine ⟨by omega, _, get_map (f := enZ) hgx, ?_⟩
  refine g ?_
  repeat' (first | refine hold_ (g ?_) | (refine hKK _ (g ?_); clear hKK KK))
  refine AW.freeze 1000 _ rfl ⟨w1, w2, trivial, trivial⟩ ?_
  simp only [go_sem, reduceIte, Nat.reduceEqDiff]
  refine g ?_
  repeat' refine st_ rfl (g ?_)
  refine ⟨_, hki, ?_⟩
  refine g ?_
  repeat' (first | refine st_ rfl (g ?_) | refine hold_ (g ?_) | (refine vops_ifd rfl rfl (fun h e => ?_) (fun h e => ?_) <;> simp only [e] <;> clear e <;> refine g ?_))
  ·have hz0 : zoneRows v.zones it (i + 1) = zoneRows v.zones it i := by rw [hz, if_neg (fun q => q.2 h), List.append_nil]
   refine ⟨⟨(i + 1, kv), hlt, fun j y hj hy => by rw [hz0]; exact hk j y (by omega) hy⟩, id, ⟨⟨rfl, rfl, rfl, rfl, rfl, rfl, rfl, trivial⟩, ⟨rfl, ?_, trivial⟩, by simp [idsOf, BA.id]⟩, by show v.zones.length - (i + 1) < v.zones.length - i; omega⟩
   show some (BA.row _ _ _ _) = some (BA.row _ _ _ ((sumUp v it (i + 1)).map enN))
   unfold sumUp
   rw [hz0]
   rfl
  refine bd1 (by omega) rfl rfl rfl ⟨w1, w2, trivial⟩ ?_
  refine g ?_
  repeat' (first | refine st_ rfl (g ?_) | refine cond_ (fun h => g ?_) (fun h => g ?_) | refine call_ (htc) rfl (g ?_))
  ·have hz0 : zoneRows v.zones it (i + 1) = zoneRows v.zones it i := by rw [hz, if_neg (fun q => by rw [q.1] at h; cases h), List.append_nil]
   refine ⟨⟨(i + 1, kv), hlt, fun j y hj hy => by rw [hz0]; exact hk j y (by omega) hy⟩, id, ⟨⟨rfl, rfl, rfl, rfl, rfl, rfl, rfl, trivial⟩, ⟨rfl, ?_, trivial⟩, by simp [idsOf, BA.id]⟩, by show v.zones.length - (i + 1) < v.zones.length - i; omega⟩
   show some (BA.row _ _ _ _) = some (BA.row _ _ _ ((sumUp v it (i + 1)).map enN))
   unfold sumUp
   rw [hz0]
   rfl
  rename_i ht
  have htt : touchS [x.span] it = true := by simpa using h
  rw [if_pos ⟨htt, ht⟩] at hz
  have hp1 := vpart_call v x.vec (ofSet (sumSet v it x.vec)) iR hhf
  rw [part_same] at hp1
  refine ⟨i, v.zones.length, rfl, rfl, by omega, Nat.le_refl _, ?_⟩
  rw [show ((v.zones.map enZ).take v.zones.length).drop i = (v.zones.drop i).map enZ by rw [List.take_of_length_le (by simp), List.map_drop]]
  have hdl : (v.zones.drop i).length = v.zones.length - i := List.length_drop
  refine g ?_
  repeat' (first | refine st_ rfl (g ?_) | refine hold_ (g ?_))
  refine AW.sub 10 _ (.iv (spI [])) rfl (nil_sub 2) ?_
  refine AW.loop (fun y : {y : Nat × List (Int × Value) // y.1 ≤ v.zones.length - i ∧ ToldM v.zones i (fun z j => decide (z.vec ∈ zoneRows v.zones it i) || (decide (j < i + y.1) && decide (z.vec = x.vec))) y.2} => ⟨[(1, .iv (spI it)), (2, .ip [stI v.known, znI v.zones, wrI v.held, boI v.bodies, .val (.int .i64 v.room)]), (6, .own 2600), (7, .mv 2700), (8, .val (.int .i64 (i : Nat))), (9, .ip [.val (.int .i64 x.span.lo), .val (.int .i64 x.span.hi), stI x.vec]), (10, .iv (spI (ofSet (setF v.zones it i x.vec y.1.1)))), (28, .iv (znI v.zones)), (29, .val (.int .i64 (v.zones.length : Nat))), (30, .val (.int .i64 (i : Nat))), (49, .iv (znI (v.zones.drop i))), (50, .val (.int .i64 ((v.zones.drop i).length : Nat))), (51, .val (.int .i64 (y.1.1 : Nat)))], [.mp 2700 .i64 y.1.2, .row 2600 30 4 ((sumUp v it i).map enN)]⟩) (fun y => v.zones.length - i - y.1.1) ⟨(0, kv), Nat.zero_le _, fun j y hj hy => by rw [hk j y hj hy]; simp; omega⟩ id ⟨⟨rfl, rfl, rfl, rfl, rfl, rfl, ?_, rfl, rfl, rfl, rfl, rfl, rfl, trivial⟩, ⟨rfl, rfl, trivial⟩, by simp [idsOf, BA.id]⟩ fun ⟨⟨k, kv'⟩, hkl, hk'⟩ => ?_
  ·show AV.iv (spI []) = AV.iv (spI (ofSet (setF v.zones it i x.vec 0)))
   rw [setF_zero]
  simp only at hkl hk' ⊢
  repeat (refine AW.seq ?_)
  refine AW.reg rfl fun KK hKK => ?_
  refine g ?_
  repeat' (refine hKK _ (g ?_); clear hKK KK)
  repeat (refine AW.seq ?_)
  refine st_ rfl ?_
  refine g ?_
  refine cond_d (fun h => ?_) (fun h => ?_)
  ·have hlk : i + k < v.zones.length := by omega
   obtain ⟨y, hy⟩ : ∃ y, v.zones[i + k] = y := ⟨_, rfl⟩
   have hgy : v.zones[i + k]? = some y := by rw [List.getElem?_eq_getElem hlk, hy]
   have hgd : (v.zones.drop i)[k]? = some y := by rw [List.getElem?_drop]; exact hgy
   obtain ⟨u1, u2⟩ := hzI _ (List.getElem_mem hlk)
   have hfs := setF_step (it := it) hlk x.vec
   have hfp := setF_put (it := it) hlk
   rw [hx] at hfp
   rw [hy] at u1 u2 hfs hfp
   have hSl := ofSet_len (setF v.zones it i x.vec k)
   have hMl : (meetS2 [y.span] it).length ≤ 128 := ofSet_len _
   have hmc := smeet_D [y.span] it
   have heq := eqst_call y.vec x.vec
   obtain ⟨T, hT⟩ : ∃ T, ofSet (setF v.zones it i x.vec k) = T := ⟨_, rfl⟩
   obtain ⟨M, hM⟩ : ∃ M, meetS2 [y.span] it = M := ⟨_, rfl⟩
   rw [hT] at hSl hfp ⊢
   rw [hM] at hMl hfp hmc
   refine st_ rfl (g ?_)
   refine AW.seq ?_
   refine AW.block ?_
   repeat (refine AW.seq ?_)
   refine AW.reg rfl fun KK hKK => ?_
   refine g ?_
   refine ⟨by omega, _, get_map (f := enZ) hgd, ?_⟩
   refine g ?_
   repeat' (first | refine hold_ (g ?_) | (refine hKK _ (g ?_); clear hKK KK))
   refine AW.freeze 1300 _ rfl ⟨u1, u2, trivial, trivial⟩ ?_
   simp only [go_sem, reduceIte, Nat.reduceEqDiff]
   refine g ?_
   repeat' (first | refine st_ rfl (g ?_) | refine cond_d (fun h => g ?_) (fun h => g ?_) | refine call_ (heq) rfl (g ?_))
   ·refine bd1 (by omega) rfl rfl rfl ⟨u1, u2, trivial⟩ ?_
    refine g ?_
    repeat' refine call_ (hmc) rfl (g ?_)
    refine bd2 (by omega) rfl rfl rfl ⟨trivial, trivial⟩ rfl rfl rfl ⟨trivial, trivial⟩ ?_
    refine g ?_
    repeat' (first | refine st_ rfl (g ?_) | refine call_ (sjoinD [T, M] (by simp [sumSpan]; omega)) rfl (g ?_))
    refine ⟨⟨(k + 1, kvPut kv' ((i : Int) + k) (.bool true)), by omega, fun j z hj hz => ?_⟩, id, ⟨⟨rfl, rfl, rfl, rfl, rfl, rfl, ?_, rfl, rfl, rfl, rfl, rfl, rfl, trivial⟩, ⟨rfl, rfl, trivial⟩, by simp [idsOf, BA.id]⟩, by show v.zones.length - i - (k + 1) < v.zones.length - i - k; omega⟩
    ·rw [kvGet_put]
     by_cases e : j = i + k
     ·subst e
      rw [hgy] at hz
      cases hz
      rw [if_pos (by omega)]
      simp [h]
     ·rw [if_neg (by omega), hk' j z hj hz]
      simp only
      rw [show decide (j < i + (k + 1)) = decide (j < i + k) from decide_eq_decide.2 (by omega)]
    ·show AV.iv (spI _) = AV.iv (spI (ofSet (setF v.zones it i x.vec (k + 1))))
     rw [ofSet_congr (g := fun o => setF v.zones it i x.vec k o || (memB [y.span] o && memB it o)) fun o _ => by rw [hfs, decide_eq_true h, Bool.true_and], ← hfp]
     simp
   ·refine ⟨⟨(k + 1, kv'), by omega, fun j z hj hz => ?_⟩, id, ⟨⟨rfl, rfl, rfl, rfl, rfl, rfl, ?_, rfl, rfl, rfl, rfl, rfl, rfl, trivial⟩, ⟨rfl, rfl, trivial⟩, by simp [idsOf, BA.id]⟩, by show v.zones.length - i - (k + 1) < v.zones.length - i - k; omega⟩
    ·rw [hk' j z hj hz]
     by_cases e : j = i + k
     ·subst e
      rw [hgy] at hz
      cases hz
      simp [h]
     ·simp only
      rw [show decide (j < i + (k + 1)) = decide (j < i + k) from decide_eq_decide.2 (by omega)]
    ·show AV.iv (spI T) = AV.iv (spI (ofSet (setF v.zones it i x.vec (k + 1))))
     rw [ofSet_congr (g := setF v.zones it i x.vec k) fun o _ => by rw [hfs, decide_eq_false h, Bool.false_and, Bool.or_false], hT]
  ·obtain rfl : k = v.zones.length - i := by omega
   rw [hall ht]
   have hsl : (sumUp v it i).length ≤ 257 := by
    unfold sumUp
    rw [List.length_cons, List.length_map]
    omega
   refine AW.exit ?_
   simp only [reduceIte]
   refine g ?_
   repeat' (first | refine st_ rfl (g ?_) | refine call_ (hp1) rfl (g ?_))
   refine bs1 (by omega) rfl rfl rfl ⟨trivial, trivial, trivial, trivial, trivial⟩ ?_
   refine g ?_
   refine append_own rfl (by kernel_rfl) (by omega) (by kernel_rfl) rfl (by simp; omega) ?_
   refine g ?_
   repeat' refine st_ rfl (g ?_)
   refine ⟨⟨(i + 1, kv'), hlt, fun j z hj hz9 => ?_⟩, fun b => if b = 2600 then 8200 else b, ⟨⟨rfl, rfl, rfl, rfl, rfl, rfl, rfl, trivial⟩, ⟨rfl, ?_, trivial⟩, by simp [idsOf, BA.id]⟩, by show v.zones.length - (i + 1) < v.zones.length - i; omega⟩
   ·have hjl : j < v.zones.length := (List.getElem?_eq_some_iff.1 hz9).1
    simp only at hj
    rw [hk' j z (by omega) hz9, hz]
    simp only
    rw [decide_eq_true (p := j < i + (v.zones.length - i)) (by omega), Bool.true_and]
    simp
   ·show some (BA.row _ _ _ _) = some (BA.row _ _ _ ((sumUp v it (i + 1)).map enN))
    unfold sumUp
    rw [hz, List.map_append, ← List.cons_append, List.map_append]
    rfl
 ·obtain rfl : i = v.zones.length := by omega
  have hs : sumUp v it v.zones.length = sumL v it := by
   unfold sumUp sumL
   rw [rows_same hv]
  rw [hs]
  refine AW.exit ?_
  simp only [reduceIte]
  refine AW.freeze 2600 _ rfl trivial ?_
  simp only [go_sem, reduceIte, Nat.reduceEqDiff]
  refine g ?_
  repeat' refine st_ rfl (g ?_)
  subst hR
  exact Sub1.rfl_ _
end Go.Proofs.YtkphfdmelfhnoaaGreatDoor
namespace Go.Proofs.YtkphfdmelfhnoaaGreatDoor
open Go.ChangeShapes Go.WideShapes Go.ChangeAt Go.RowKit
attribute [local irreducible] AW AWY vops vopsY vop vopL vdraw callW qop binQ lenQ storeQ appendQ callQ ACalls AIter setI
attribute [local go_sem] vwA_eq noteA_eq enN_eq noI_eq storeQ_val storeQ_iv storeQ_own storeQ_agg
def sumDn (v : View) (it : List Span) (o : Nat) : List Note := (sumRows v it o).map fun r => partN v r (sumSet v it r)
def doneB (v : View) (it : List Span) (o p : Nat) : Bool := blurB v it p && decide (reachOf v.zones v.known p ∈ sumRows v it o)
def upB (v : View) (it : List Span) (r : List Stamp) (o p q : Nat) : Bool := decide (o ≤ q ∧ q < p) && sumSet v it r q
theorem upB_self (v : View) (it : List Span) (r : List Stamp) (o q : Nat) : upB v it r o o q = false := by
 unfold upB
 rw [decide_eq_false (by omega), Bool.false_and]
theorem upB_step (v : View) (it : List Span) (r : List Stamp) {o p : Nat} (h : o ≤ p) : ∀ q, upB v it r o (p + 1) q = if q = p then sumSet v it r p else upB v it r o p q := fun q => by
 unfold upB
 by_cases e : q = p
 ·subst e
  rw [if_pos rfl, decide_eq_true (by omega), Bool.true_and]
 ·rw [if_neg e, show decide (o ≤ q ∧ q < p + 1) = decide (o ≤ q ∧ q < p) from decide_eq_decide.2 (by omega)]
theorem reachS_in {v : View} (hv : VF v) {o : Nat} (ho : o < 256) : reachS v.zones v.known o = reachOf v.zones v.known o := by
 unfold reachS
 rw [if_pos ⟨hv.zones, hv.known, by omega, by omega⟩]
set_option maxRecDepth 100000 in
set_option maxHeartbeats 3200000 in
theorem rvsum_call (v : View) (it : List Span) (iR : I64 v.room) : ACalls Tryz.prog TzTab 40 [vwA v, .iv (spI it)] (.tup [.iv (noI (sumV v it).1), .val (.int .i64 (sumV v it).2)]) [] := by
 refine ACalls.ofS (n := 109) (rs := [.tmp 4, .tmp 5]) Tryz.func40 rfl (by kernel_rfl) Tryz.ntmps40 (by kernel_rfl) (by simp) (fun _ _ => TzTab.later) ?_
 intro hok V w0
 obtain ⟨R, hR⟩ : ∃ R, sumV v it = R := ⟨_, rfl⟩
 rw [hR]
 unfold sumV at hR
 refine g ?_
 refine AW.seq ?_
 refine AW.reg rfl fun KK hKK => ?_
 refine g ?_
 repeat' (refine hKK _ (g ?_); clear hKK KK)
 refine AW.freeze 300 _ rfl ⟨trivial, trivial, trivial, trivial, iR, trivial⟩ ?_
 simp only [go_sem, reduceIte, Nat.reduceEqDiff]
 refine g ?_
 repeat' (first | refine st_ rfl (g ?_) | refine cond_ (fun h => g ?_) (fun h => g ?_) | refine call_ (rview_call v iR) rfl (g ?_))
 ·rw [if_neg (by simpa using h)] at hR
  exact sum_no hR.symm
 have hF : viewFormed v = true := by simpa using h
 rw [if_pos hF] at hR
 have hv := view_iff.1 hF
 have hhf : shelfFormed v.held = true := shelf_iff.2 hv.held
 obtain ⟨bl, hbl⟩ : ∃ bl, blurredS v.zones = bl := ⟨_, rfl⟩
 have hzb := rzblur_call v.zones
 rw [hbl] at hzb
 refine AW.drawn (ds := [18, 19, 20, 21, 22, 23, 6, 7]) (fin := [2, 3]) (bs := [0, 0, 0, 0, 0, 0, 0, 1, 2, 3]) [⟨[], [], [], [], 0⟩, ⟨[(18, 0)], [], [], [], 0⟩, ⟨[], [], [], [], 0⟩, ⟨[(20, 2)], [], [], [], 0⟩, ⟨[(21, 3)], [], [], [], 0⟩, ⟨[(22, 4)], [], [], [], 0⟩, ⟨[], [], [], [], 1⟩, ⟨[], [], [], [], 1⟩, ⟨[(6, 6), (19, 1)], [], [], [0], 1⟩, ⟨[(7, 7), (23, 5)], [], [], [1], 1⟩] (by kernel_rfl) rfl (by kernel_rfl) rfl rfl rfl fun KD hKD => ?_
 refine g ?_
 refine call_ (rset_call it) rfl (g ?_)
 refine g ?_
 repeat' refine call_ (hzb) rfl (g ?_)
 refine call_ (rset_call bl) rfl (g ?_)
 refine g ?_
 refine store_ar (q := 2) (s := 256) (by kernel_rfl) (setI_len _) rfl (by simp [rep]) ?_
 refine g ?_
 refine store_ar (q := 2) (s := 256) (by kernel_rfl) (setI_len _) rfl (by simp [rep]) ?_
 refine g ?_
 repeat' (first | refine st_ rfl (g ?_) | (refine hKD _ _ ⟨rfl, g ?_⟩; clear hKD KD))
 refine AW.freeze 700 _ rfl trivial ?_
 simp only [go_sem, reduceIte, Nat.reduceEqDiff]
 refine AW.freeze 800 _ rfl trivial ?_
 simp only [go_sem, reduceIte, Nat.reduceEqDiff]
 refine AW.adopt 10 50000 30 4 rfl rfl ?_
 refine AW.loop (fun o : {o : Nat // o ≤ 256} => ⟨[(2, .ip [stI v.known, znI v.zones, wrI v.held, boI v.bodies, .val (.int .i64 v.room)]), (6, .ip (setI fun p => memB it p)), (7, .ip (setI fun p => memB bl p)), (8, .bp 900 0), (9, .bp 1000 0), (10, .own 50000), (11, .val (.int .i64 (o.1 : Nat)))], [.row 50000 30 4 ((sumDn v it o.1).map enN), .arr 1000 (setI (doneB v it o.1)), .arr 900 (setI fun p => decide (p < o.1) && sharpB v it p)]⟩) (fun o => 256 - o.1) ⟨0, Nat.zero_le _⟩ id ⟨⟨rfl, rfl, rfl, rfl, rfl, rfl, rfl, trivial⟩, ⟨rfl, congrArg (fun C => some (BA.arr 1000 C)) (rep_set.trans (setI_congr fun o _ => by simp [doneB, sumRows])), congrArg (fun C => some (BA.arr 900 C)) (rep_set.trans (setI_congr fun o _ => by simp)), trivial⟩, by simp [idsOf, BA.id]⟩ fun ⟨o, ho⟩ => ?_
 simp only
 repeat (refine AW.seq ?_)
 refine AW.reg rfl fun KK hKK => ?_
 refine g ?_
 repeat' (refine hKK _ (g ?_); clear hKK KK)
 repeat (refine AW.seq ?_)
 refine st_ rfl ?_
 refine g ?_
 refine cond_d (fun h => ?_) (fun h => ?_)
 ·have ho' : o < 256 := by omega
  have hsp : sharpB v it o = (memB it o && !memB bl o) := by unfold sharpB; rw [hbl]
  have hbp : blurB v it o = (memB it o && memB bl o) := by unfold blurB; rw [hbl]
  have hrow : sumRows v it (o + 1) = sumRows v it o ++ if blurB v it o = true ∧ reachOf v.zones v.known o ∉ sumRows v it o then [reachOf v.zones v.known o] else [] := rfl
  obtain ⟨F, hFs⟩ : ∃ F : Nat → Bool, (fun p => decide (p < o) && sharpB v it p) = F := ⟨_, rfl⟩
  have hnx : setI (fun p => if p = o then sharpB v it o else F p) = setI fun p => decide (p < o + 1) && sharpB v it p := setI_congr fun p _ => by
   rw [← hFs]
   by_cases e : p = o
   ·subst e; simp
   ·rw [if_neg e, show decide (p < o + 1) = decide (p < o) from decide_eq_decide.2 (by omega)]
  rw [hFs]
  refine g ?_
  repeat' refine st_ rfl (g ?_)
  refine ⟨by omega, by omega, ?_⟩
  rw [Nat.mul_one]
  refine g ?_
  repeat' refine hold_ (g ?_)
  refine rdI_drop (setI_at ho') ?_
  cases hm : memB it o with
  | false =>
   rw [hm, Bool.false_and] at hsp hbp
   rw [hsp] at hnx
   rw [hbp, if_neg (fun q => by cases q.1), List.append_nil] at hrow
   refine g ?_
   refine ⟨by omega, by omega, ?_⟩
   rw [Nat.mul_one, Nat.zero_add]
   refine g ?_
   repeat' refine hold_ (g ?_)
   refine ⟨_, rfl, ⟨trivial, trivial⟩, by rw [setI_len]; omega, ?_⟩
   refine g ?_
   repeat' (first | refine st_ rfl (g ?_) | refine hold_ (g ?_))
   refine ⟨by omega, by omega, ?_⟩
   rw [Nat.mul_one]
   refine g ?_
   repeat' refine hold_ (g ?_)
   refine rdI_drop (setI_at ho') ?_
   rw [hm]
   refine g ?_
   repeat' refine st_ rfl (g ?_)
   refine ⟨⟨o + 1, ho'⟩, id, ⟨⟨rfl, rfl, rfl, rfl, rfl, rfl, rfl, trivial⟩, ⟨?_, congrArg (fun C => some (BA.arr 1000 C)) ?_, congrArg (fun C => some (BA.arr 900 C)) ((setI_put ho').trans hnx), trivial⟩, by simp [idsOf, BA.id]⟩, by show 256 - (o + 1) < 256 - o; omega⟩
   ·show some (BA.row _ _ _ _) = some (BA.row _ _ _ ((sumDn v it (o + 1)).map enN))
    unfold sumDn
    rw [hrow]
    rfl
   ·exact setI_congr fun p _ => by unfold doneB; rw [hrow]
  | true =>
   rw [hm, Bool.true_and] at hsp hbp
   refine g ?_
   refine ⟨by omega, by omega, ?_⟩
   rw [Nat.mul_one]
   refine g ?_
   repeat' refine hold_ (g ?_)
   refine rdI_drop (setI_at ho') ?_
   have hG : ∀ c, sharpB v it o = c → (setI fun p => decide (p < o + 1) && sharpB v it p)[o]? = some (.val (.bool c)) := fun c hc => by
    rw [setI_at ho', hc]
    simp
   cases hb : memB bl o with
   | false =>
    rw [hb] at hsp hbp
    have hG' := hG _ hsp
    rw [hsp] at hnx
    rw [hbp, if_neg (fun q => by cases q.1), List.append_nil] at hrow
    refine g ?_
    refine ⟨by omega, by omega, ?_⟩
    rw [Nat.mul_one, Nat.zero_add]
    refine g ?_
    repeat' refine hold_ (g ?_)
    refine ⟨_, rfl, ⟨trivial, trivial⟩, by rw [setI_len]; omega, ?_⟩
    refine g ?_
    repeat' (first | refine st_ rfl (g ?_) | refine hold_ (g ?_))
    refine ⟨by omega, by omega, ?_⟩
    rw [Nat.mul_one]
    refine g ?_
    repeat' refine hold_ (g ?_)
    refine rdI_drop (setI_at ho') ?_
    rw [hm]
    simp only [Bool.not_false] at hnx hG'
    refine g ?_
    rw [setI_put ho', hnx]
    refine ⟨by omega, by omega, ?_⟩
    rw [Nat.mul_one, Nat.zero_add]
    refine g ?_
    repeat' refine hold_ (g ?_)
    refine ⟨_, hG', ?_⟩
    refine g ?_
    repeat' (first | refine st_ rfl (g ?_) | refine hold_ (g ?_))
    refine ⟨⟨o + 1, ho'⟩, id, ⟨⟨rfl, rfl, rfl, rfl, rfl, rfl, rfl, trivial⟩, ⟨?_, congrArg (fun C => some (BA.arr 1000 C)) ?_, congrArg (fun C => some (BA.arr 900 C)) (rfl), trivial⟩, by simp [idsOf, BA.id]⟩, by show 256 - (o + 1) < 256 - o; omega⟩
    ·show some (BA.row _ _ _ _) = some (BA.row _ _ _ ((sumDn v it (o + 1)).map enN))
     unfold sumDn
     rw [hrow]
     rfl
    ·exact setI_congr fun p _ => by unfold doneB; rw [hrow]
   | true =>
    rw [hb] at hsp hbp
    have hG' := hG _ hsp
    rw [hsp] at hnx
    rw [hbp] at hrow
    simp only [Bool.not_true] at hnx hG'
    refine g ?_
    refine ⟨by omega, by omega, ?_⟩
    rw [Nat.mul_one, Nat.zero_add]
    refine g ?_
    repeat' refine hold_ (g ?_)
    refine ⟨_, rfl, ⟨trivial, trivial⟩, by rw [setI_len]; omega, ?_⟩
    refine g ?_
    repeat' (first | refine st_ rfl (g ?_) | refine hold_ (g ?_))
    refine ⟨by omega, by omega, ?_⟩
    rw [Nat.mul_one]
    refine g ?_
    repeat' refine hold_ (g ?_)
    refine rdI_drop (setI_at ho') ?_
    rw [hm]
    refine g ?_
    rw [setI_put ho', hnx]
    refine ⟨by omega, by omega, ?_⟩
    rw [Nat.mul_one, Nat.zero_add]
    refine g ?_
    repeat' refine hold_ (g ?_)
    refine ⟨_, hG', ?_⟩
    have hdn : doneB v it o o = decide (reachOf v.zones v.known o ∈ sumRows v it o) := by unfold doneB; rw [hbp, Bool.true_and]
    refine g ?_
    repeat' refine hold_ (g ?_)
    refine ⟨by omega, by omega, ?_⟩
    rw [Nat.mul_one, Nat.zero_add]
    refine g ?_
    repeat' refine hold_ (g ?_)
    refine ⟨_, setI_at ho', ?_⟩
    rw [hdn]
    refine g ?_
    repeat' (first | refine st_ rfl (g ?_) | refine hold_ (g ?_) | refine cond_d (fun h => g ?_) (fun h => g ?_))
    ·rw [if_neg (fun q => q.2 h), List.append_nil] at hrow
     refine ⟨⟨o + 1, ho'⟩, id, ⟨⟨rfl, rfl, rfl, rfl, rfl, rfl, rfl, trivial⟩, ⟨?_, congrArg (fun C => some (BA.arr 1000 C)) ?_, congrArg (fun C => some (BA.arr 900 C)) (rfl), trivial⟩, by simp [idsOf, BA.id]⟩, by show 256 - (o + 1) < 256 - o; omega⟩
     ·show some (BA.row _ _ _ _) = some (BA.row _ _ _ ((sumDn v it (o + 1)).map enN))
      unfold sumDn
      rw [hrow]
      rfl
     ·exact setI_congr fun p _ => by unfold doneB; rw [hrow]
    rw [if_pos ⟨rfl, h⟩] at hrow
    have hrc := rzreach_call v.zones v.known o
    rw [reachS_in hv ho'] at hrc
    have hrm : reachOf v.zones v.known o ∉ sumRows v it o := h
    have hslen : (sumDn v it o).length ≤ 256 := by
     unfold sumDn
     rw [List.length_map]
     have := sumRows_len v it o
     omega
    obtain ⟨r, hr⟩ : ∃ r, reachOf v.zones v.known o = r := ⟨_, rfl⟩
    rw [hr] at hrow hrc hrm
    have hpart := rvpart_call v r (sumSet v it r) iR hhf
    obtain ⟨G, hGe⟩ : ∃ G : Nat → Bool, (fun p => decide (p < o + 1) && sharpB v it p) = G := ⟨_, rfl⟩
    rw [hGe]
    clear hG hG' hnx hFs
    refine g ?_
    repeat' (first | refine st_ rfl (g ?_) | refine call_ (hrc) rfl (g ?_))
    refine AW.loop (fun p : {p : Nat // o ≤ p ∧ p ≤ 256} => ⟨[(2, .ip [stI v.known, znI v.zones, wrI v.held, boI v.bodies, .val (.int .i64 v.room)]), (6, .ip (setI fun p => memB it p)), (7, .ip (setI fun p => memB bl p)), (8, .bp 900 0), (9, .bp 1000 0), (10, .own 50000), (11, .val (.int .i64 (o : Nat))), (12, .iv (stI r)), (13, .bp 1400 0), (14, .val (.int .i64 (p.1 : Nat)))], [.arr 1400 (setI (upB v it r o p.1)), .row 50000 30 4 ((sumDn v it o).map enN), .arr 1000 (setI fun q => doneB v it o q || upB v it r o p.1 q), .arr 900 (setI G)]⟩) (fun p => 256 - p.1) ⟨o, Nat.le_refl _, by omega⟩ id ⟨⟨rfl, rfl, rfl, rfl, rfl, rfl, rfl, rfl, rfl, rfl, trivial⟩, ⟨congrArg (fun C => some (BA.arr 1400 C)) (rep_set.trans (setI_congr fun q _ => (upB_self v it r o q).symm)), rfl, congrArg (fun C => some (BA.arr 1000 C)) (setI_congr fun q _ => by rw [upB_self, Bool.or_false]), rfl, trivial⟩, by simp [idsOf, BA.id]⟩ fun ⟨p, hp1, hp2⟩ => ?_
    simp only
    repeat (refine AW.seq ?_)
    refine AW.reg rfl fun KK hKK => ?_
    refine g ?_
    repeat' (refine hKK _ (g ?_); clear hKK KK)
    repeat (refine AW.seq ?_)
    refine st_ rfl ?_
    refine g ?_
    refine cond_d (fun h => ?_) (fun h => ?_)
    ·have hp : p < 256 := by omega
     have hrp := rzreach_call v.zones v.known p
     rw [reachS_in hv hp] at hrp
     have hsame := rvsame_call (reachOf v.zones v.known p) r
     have hss : sumSet v it r p = (memB it p && memB bl p && decide (reachOf v.zones v.known p = r)) := by unfold sumSet blurB; rw [hbl]
     have hu := upB_step v it r hp1
     obtain ⟨U, hU⟩ : ∃ U, upB v it r o p = U := ⟨_, rfl⟩
     obtain ⟨W, hW⟩ : ∃ W, upB v it r o (p + 1) = W := ⟨_, rfl⟩
     have hup : U p = false := by rw [← hU]; simp [upB]
     rw [hU, hW] at hu
     rw [hU]
     refine g ?_
     repeat' refine st_ rfl (g ?_)
     refine ⟨by omega, by omega, ?_⟩
     rw [Nat.mul_one]
     refine g ?_
     repeat' refine hold_ (g ?_)
     refine rdI_drop (setI_at hp) ?_
     cases ha : memB it p with
     | false =>
      rw [ha, Bool.false_and, Bool.false_and] at hss
      rw [hss] at hu
      refine g ?_
      refine ⟨by omega, by omega, ?_⟩
      rw [Nat.mul_one, Nat.zero_add]
      refine g ?_
      repeat' refine hold_ (g ?_)
      refine ⟨_, rfl, ⟨trivial, trivial⟩, by rw [setI_len]; omega, ?_⟩
      refine g ?_
      repeat' (first | refine st_ rfl (g ?_) | refine hold_ (g ?_))
      have hld : (setI fun q => doneB v it o q || U q)[p]? = some (.val (.bool (doneB v it o p))) := by rw [setI_at hp, hup, Bool.or_false]
      have hWp : (setI W)[p]? = some (.val (.bool (false))) := by rw [setI_at hp, hu, if_pos rfl]
      have hW2 : setI (fun q => if q = p then false else U q) = setI W := setI_congr fun q _ => (hu q).symm
      rw [setI_put hp, hW2]
      refine ⟨by omega, by omega, ?_⟩
      rw [Nat.mul_one, Nat.zero_add]
      refine g ?_
      repeat' refine hold_ (g ?_)
      refine ⟨_, hld, ?_⟩
      cases hd : doneB v it o p with
      | true =>
       refine g ?_
       repeat' refine hold_ (g ?_)
       refine ⟨by omega, by omega, ?_⟩
       rw [Nat.mul_one, Nat.zero_add]
       refine g ?_
       repeat' refine hold_ (g ?_)
       refine ⟨_, rfl, ⟨trivial, trivial⟩, by rw [setI_len]; omega, ?_⟩
       refine g ?_
       repeat' (first | refine st_ rfl (g ?_) | refine hold_ (g ?_))
       refine ⟨⟨p + 1, by omega, hp⟩, id, ⟨⟨rfl, rfl, rfl, rfl, rfl, rfl, rfl, rfl, rfl, rfl, trivial⟩, ⟨congrArg (fun C => some (BA.arr 1400 C)) (by rw [hW]), rfl, congrArg (fun C => some (BA.arr 1000 C)) ((setI_put hp).trans (setI_congr fun q _ => ?_)), rfl, trivial⟩, by simp [idsOf, BA.id]⟩, by show 256 - (p + 1) < 256 - p; omega⟩
       rw [hW, hu]
       by_cases e : q = p
       ·rw [if_pos e, if_pos e, e, hd]; simp
       ·rw [if_neg e, if_neg e]
      | false =>
       refine g ?_
       repeat' refine hold_ (g ?_)
       refine ⟨by omega, by omega, ?_⟩
       rw [Nat.mul_one, Nat.zero_add]
       refine g ?_
       repeat' refine hold_ (g ?_)
       refine ⟨_, hWp, ?_⟩
       refine g ?_
       repeat' refine hold_ (g ?_)
       refine ⟨by omega, by omega, ?_⟩
       rw [Nat.mul_one, Nat.zero_add]
       refine g ?_
       repeat' refine hold_ (g ?_)
       refine ⟨_, rfl, ⟨trivial, trivial⟩, by rw [setI_len]; omega, ?_⟩
       refine g ?_
       repeat' (first | refine st_ rfl (g ?_) | refine hold_ (g ?_))
       refine ⟨⟨p + 1, by omega, hp⟩, id, ⟨⟨rfl, rfl, rfl, rfl, rfl, rfl, rfl, rfl, rfl, rfl, trivial⟩, ⟨congrArg (fun C => some (BA.arr 1400 C)) (by rw [hW]), rfl, congrArg (fun C => some (BA.arr 1000 C)) ((setI_put hp).trans (setI_congr fun q _ => ?_)), rfl, trivial⟩, by simp [idsOf, BA.id]⟩, by show 256 - (p + 1) < 256 - p; omega⟩
       rw [hW, hu]
       by_cases e : q = p
       ·rw [if_pos e, if_pos e, e, hd]; simp
       ·rw [if_neg e, if_neg e]
     | true =>
      rw [ha, Bool.true_and] at hss
      refine g ?_
      refine ⟨by omega, by omega, ?_⟩
      rw [Nat.mul_one]
      refine g ?_
      repeat' refine hold_ (g ?_)
      refine rdI_drop (setI_at hp) ?_
      cases hb2 : memB bl p with
      | false =>
       rw [hb2, Bool.false_and] at hss
       rw [hss] at hu
       refine g ?_
       refine ⟨by omega, by omega, ?_⟩
       rw [Nat.mul_one, Nat.zero_add]
       refine g ?_
       repeat' refine hold_ (g ?_)
       refine ⟨_, rfl, ⟨trivial, trivial⟩, by rw [setI_len]; omega, ?_⟩
       refine g ?_
       repeat' (first | refine st_ rfl (g ?_) | refine hold_ (g ?_))
       have hld : (setI fun q => doneB v it o q || U q)[p]? = some (.val (.bool (doneB v it o p))) := by rw [setI_at hp, hup, Bool.or_false]
       have hWp : (setI W)[p]? = some (.val (.bool (false))) := by rw [setI_at hp, hu, if_pos rfl]
       have hW2 : setI (fun q => if q = p then false else U q) = setI W := setI_congr fun q _ => (hu q).symm
       rw [setI_put hp, hW2]
       refine ⟨by omega, by omega, ?_⟩
       rw [Nat.mul_one, Nat.zero_add]
       refine g ?_
       repeat' refine hold_ (g ?_)
       refine ⟨_, hld, ?_⟩
       cases hd : doneB v it o p with
       | true =>
        refine g ?_
        repeat' refine hold_ (g ?_)
        refine ⟨by omega, by omega, ?_⟩
        rw [Nat.mul_one, Nat.zero_add]
        refine g ?_
        repeat' refine hold_ (g ?_)
        refine ⟨_, rfl, ⟨trivial, trivial⟩, by rw [setI_len]; omega, ?_⟩
        refine g ?_
        repeat' (first | refine st_ rfl (g ?_) | refine hold_ (g ?_))
        refine ⟨⟨p + 1, by omega, hp⟩, id, ⟨⟨rfl, rfl, rfl, rfl, rfl, rfl, rfl, rfl, rfl, rfl, trivial⟩, ⟨congrArg (fun C => some (BA.arr 1400 C)) (by rw [hW]), rfl, congrArg (fun C => some (BA.arr 1000 C)) ((setI_put hp).trans (setI_congr fun q _ => ?_)), rfl, trivial⟩, by simp [idsOf, BA.id]⟩, by show 256 - (p + 1) < 256 - p; omega⟩
        rw [hW, hu]
        by_cases e : q = p
        ·rw [if_pos e, if_pos e, e, hd]; simp
        ·rw [if_neg e, if_neg e]
       | false =>
        refine g ?_
        repeat' refine hold_ (g ?_)
        refine ⟨by omega, by omega, ?_⟩
        rw [Nat.mul_one, Nat.zero_add]
        refine g ?_
        repeat' refine hold_ (g ?_)
        refine ⟨_, hWp, ?_⟩
        refine g ?_
        repeat' refine hold_ (g ?_)
        refine ⟨by omega, by omega, ?_⟩
        rw [Nat.mul_one, Nat.zero_add]
        refine g ?_
        repeat' refine hold_ (g ?_)
        refine ⟨_, rfl, ⟨trivial, trivial⟩, by rw [setI_len]; omega, ?_⟩
        refine g ?_
        repeat' (first | refine st_ rfl (g ?_) | refine hold_ (g ?_))
        refine ⟨⟨p + 1, by omega, hp⟩, id, ⟨⟨rfl, rfl, rfl, rfl, rfl, rfl, rfl, rfl, rfl, rfl, trivial⟩, ⟨congrArg (fun C => some (BA.arr 1400 C)) (by rw [hW]), rfl, congrArg (fun C => some (BA.arr 1000 C)) ((setI_put hp).trans (setI_congr fun q _ => ?_)), rfl, trivial⟩, by simp [idsOf, BA.id]⟩, by show 256 - (p + 1) < 256 - p; omega⟩
        rw [hW, hu]
        by_cases e : q = p
        ·rw [if_pos e, if_pos e, e, hd]; simp
        ·rw [if_neg e, if_neg e]
      | true =>
       rw [hb2, Bool.true_and] at hss
       rw [hss] at hu
       refine g ?_
       repeat' (first | refine call_ (hrp) rfl (g ?_) | refine call_ (hsame) rfl (g ?_))
       refine ⟨by omega, by omega, ?_⟩
       rw [Nat.mul_one, Nat.zero_add]
       refine g ?_
       repeat' refine hold_ (g ?_)
       refine ⟨_, rfl, ⟨trivial, trivial⟩, by rw [setI_len]; omega, ?_⟩
       refine g ?_
       repeat' (first | refine st_ rfl (g ?_) | refine hold_ (g ?_))
       have hld : (setI fun q => doneB v it o q || U q)[p]? = some (.val (.bool (doneB v it o p))) := by rw [setI_at hp, hup, Bool.or_false]
       have hWp : (setI W)[p]? = some (.val (.bool (decide (reachOf v.zones v.known p = r)))) := by rw [setI_at hp, hu, if_pos rfl]
       have hW2 : setI (fun q => if q = p then decide (reachOf v.zones v.known p = r) else U q) = setI W := setI_congr fun q _ => (hu q).symm
       rw [setI_put hp, hW2]
       refine ⟨by omega, by omega, ?_⟩
       rw [Nat.mul_one, Nat.zero_add]
       refine g ?_
       repeat' refine hold_ (g ?_)
       refine ⟨_, hld, ?_⟩
       cases hd : doneB v it o p with
       | true =>
        refine g ?_
        repeat' refine hold_ (g ?_)
        refine ⟨by omega, by omega, ?_⟩
        rw [Nat.mul_one, Nat.zero_add]
        refine g ?_
        repeat' refine hold_ (g ?_)
        refine ⟨_, rfl, ⟨trivial, trivial⟩, by rw [setI_len]; omega, ?_⟩
        refine g ?_
        repeat' (first | refine st_ rfl (g ?_) | refine hold_ (g ?_))
        refine ⟨⟨p + 1, by omega, hp⟩, id, ⟨⟨rfl, rfl, rfl, rfl, rfl, rfl, rfl, rfl, rfl, rfl, trivial⟩, ⟨congrArg (fun C => some (BA.arr 1400 C)) (by rw [hW]), rfl, congrArg (fun C => some (BA.arr 1000 C)) ((setI_put hp).trans (setI_congr fun q _ => ?_)), rfl, trivial⟩, by simp [idsOf, BA.id]⟩, by show 256 - (p + 1) < 256 - p; omega⟩
        rw [hW, hu]
        by_cases e : q = p
        ·rw [if_pos e, if_pos e, e, hd]; simp
        ·rw [if_neg e, if_neg e]
       | false =>
        refine g ?_
        repeat' refine hold_ (g ?_)
        refine ⟨by omega, by omega, ?_⟩
        rw [Nat.mul_one, Nat.zero_add]
        refine g ?_
        repeat' refine hold_ (g ?_)
        refine ⟨_, hWp, ?_⟩
        refine g ?_
        repeat' refine hold_ (g ?_)
        refine ⟨by omega, by omega, ?_⟩
        rw [Nat.mul_one, Nat.zero_add]
        refine g ?_
        repeat' refine hold_ (g ?_)
        refine ⟨_, rfl, ⟨trivial, trivial⟩, by rw [setI_len]; omega, ?_⟩
        refine g ?_
        repeat' (first | refine st_ rfl (g ?_) | refine hold_ (g ?_))
        refine ⟨⟨p + 1, by omega, hp⟩, id, ⟨⟨rfl, rfl, rfl, rfl, rfl, rfl, rfl, rfl, rfl, rfl, trivial⟩, ⟨congrArg (fun C => some (BA.arr 1400 C)) (by rw [hW]), rfl, congrArg (fun C => some (BA.arr 1000 C)) ((setI_put hp).trans (setI_congr fun q _ => ?_)), rfl, trivial⟩, by simp [idsOf, BA.id]⟩, by show 256 - (p + 1) < 256 - p; omega⟩
        rw [hW, hu]
        by_cases e : q = p
        ·rw [if_pos e, if_pos e, e, hd]; simp
        ·rw [if_neg e, if_neg e]
    ·obtain rfl : p = 256 := by omega
     have hus : ∀ q, q < 256 → upB v it r o 256 q = sumSet v it r q := fun q hq => by
      unfold upB
      rcases Nat.lt_or_ge q o with h1 | h1
      ·rw [decide_eq_false (by omega), Bool.false_and]
       refine (Bool.eq_false_iff.2 fun hh => hrm ?_).symm
       unfold sumSet at hh
       rw [Bool.and_eq_true, decide_eq_true_eq] at hh
       exact sumRows_mem.2 ⟨q, h1, hh.1, hh.2⟩
      ·rw [decide_eq_true ⟨h1, hq⟩, Bool.true_and]
     rw [setI_congr hus, setI_congr (f := fun q => doneB v it o q || upB v it r o 256 q) (g := doneB v it (o + 1)) fun q hq => by
      rw [hus q hq]
      unfold doneB sumSet
      rw [hrow]
      cases blurB v it q <;> simp]
     refine AW.exit ?_
     simp only [reduceIte]
     refine g ?_
     repeat' refine st_ rfl (g ?_)
     refine ⟨(setI_len _).symm, ?_⟩
     refine g ?_
     repeat' refine call_ (hpart) rfl (g ?_)
     refine bs1 (by omega) rfl rfl rfl ⟨trivial, trivial, trivial, trivial, trivial⟩ ?_
     refine g ?_
     refine append_own rfl (by kernel_rfl) (by omega) (by kernel_rfl) rfl (by simp; omega) ?_
     refine g ?_
     repeat' refine st_ rfl (g ?_)
     refine ⟨⟨o + 1, ho'⟩, fun b => if b = 50000 then 10100 else b, ⟨⟨rfl, rfl, rfl, rfl, rfl, rfl, rfl, trivial⟩, ⟨?_, rfl, congrArg (fun C => some (BA.arr 900 (setI C))) hGe.symm, trivial⟩, by simp [idsOf, BA.id]⟩, by show 256 - (o + 1) < 256 - o; omega⟩
     show some (BA.row _ _ _ _) = some (BA.row _ _ _ ((sumDn v it (o + 1)).map enN))
     unfold sumDn
     rw [hrow, List.map_append, List.map_append]
     rfl
 ·obtain rfl : o = 256 := by omega
  rw [setI_congr (f := fun p => decide (p < 256) && sharpB v it p) (g := sharpB v it) fun q hq => by rw [decide_eq_true hq, Bool.true_and]]
  have hpart := rvpart_call v v.known (sharpB v it) iR hhf
  have hslen : (sumDn v it 256).length ≤ 256 := by
   unfold sumDn
   rw [List.length_map]
   exact sumRows_len v it 256
  refine AW.exit ?_
  simp only [reduceIte]
  refine g ?_
  repeat' refine st_ rfl (g ?_)
  refine ⟨(setI_len _).symm, ?_⟩
  refine g ?_
  repeat' refine call_ (hpart) rfl (g ?_)
  refine bs1 (by omega) rfl rfl rfl ⟨trivial, trivial, trivial, trivial, trivial⟩ ?_
  refine g ?_
  refine append_own rfl (by kernel_rfl) (by omega) (by kernel_rfl) rfl (by simp; omega) ?_
  refine g ?_
  refine AW.freeze 10900 _ rfl trivial ?_
  simp only [go_sem, reduceIte, Nat.reduceEqDiff]
  refine g ?_
  repeat' refine st_ rfl (g ?_)
  subst hR
  exact Sub1.rfl_ _
end Go.Proofs.YtkphfdmelfhnoaaGreatDoor
namespace Go.Proofs.YtkphfdmelfhnoaaGreatDoor
open Go.ChangeShapes Go.WideShapes Go.ChangeAt Go.RowKit
theorem frz_heap {w : World} {g n : Nat} {e : TypeId} {C : Array Value} (hB : Blk w g e C) : (w.freeze ⟨g, n, none⟩ 1).heap.size = w.heap.size ∧ (∀ k, k ≠ g → (w.freeze ⟨g, n, none⟩ 1).heap[k]? = w.heap[k]?) ∧ (∀ p : Addr, (w.freeze ⟨g, n, none⟩ 1).cell? p = w.cell? p) := by
 have hsz : (w.freeze ⟨g, n, none⟩ 1).heap.size = w.heap.size := by simp [World.freeze]
 have hfar : ∀ k, k ≠ g → (w.freeze ⟨g, n, none⟩ 1).heap[k]? = w.heap[k]? := fun k hk => by
  simp [World.freeze, Array.getElem?_modify, Ne.symm hk]
 refine ⟨hsz, hfar, fun p => ?_⟩
 by_cases hp : p.block = g
 ·have h1 : (w.freeze ⟨g, n, none⟩ 1).heap[g]? = some (.cells C e (n, n + 1)) := by
   have := hB
   unfold Blk at this
   simp [World.freeze, Array.getElem?_modify, this]
  have h2 : w.heap[g]? = some (.cells C e (0, 0)) := hB
  unfold World.cell?
  rw [hp, h1, h2]
 ·exact World.cell?_of_block (hfar _ hp)
theorem frz_below {w0 w : World} {g n : Nat} {e : TypeId} {C : Array Value} (hB : Blk w g e C) (h : Below w0.heap.size w0 w) (hg : w0.heap.size ≤ g) : Below w0.heap.size w0 (w.freeze ⟨g, n, none⟩ 1) := by
 obtain ⟨h1, h2, _⟩ := frz_heap (n := n) hB
 refine ⟨?_, ?_, ?_, by rw [h1]; exact h.size, fun k hk => by rw [h2 k (by omega)]; exact h.block k hk⟩
 ·simpa [World.freeze] using h.os
 ·simpa [World.freeze] using h.tape
 ·simpa [World.freeze] using h.output
theorem run_mark {P : Program} {w : World} {t e e' : TypeId} {C : Array Value} {g n c : Nat} (ht : P.underlying t = some (.slice e)) (he : P.underlying e = some (.int .u8)) (hB : Blk w g e' C) :
  (convert t t (.slice (some ⟨g, 0, none⟩) n c)).run P w = .ok (.slice (some ⟨g, 0, none⟩) n c) (w.freeze ⟨g, C.size, none⟩ 1) := by
 have hsh : w.shape? g = some (e', C.size) := by
  unfold World.shape?
  rw [show w.heap[g]? = some (.cells C e' (0, 0)) from hB]
 simp [convert, run_underlying ht, run_underlying he, markStringish, hsh]
theorem list_step1 {P : Program} {ro : Option Nat} {ops : Array Oper} {o : Oper} {rest : List Oper} {Q : Exit → Act → World → Prop} {a : Act} {w w' : World} {v : Value} (hg : o.guard = none) (hd : ∀ c, o.op ≠ .defer c) (hx : (execOp a.eval o).run P w = .ok (.value v) w') (h : wpListIn (FW ro) 0 P ops Q rest (a.put o.dst v) w') : wpListIn (FW ro) 0 P ops Q (o :: rest) a w := by
 refine wpListIn_step fun K' hK' => ?_
 rw [if_pos (by unfold Region.wanted; rw [hg])]
 refine wp_wpIn hd ?_
 unfold Oper.wp
 rw [hx, Oper.upon_value]
 exact hK' _ _ h
section
variable {P : Program} {G : World → Prop} {V w0 : World} {n : Fm} {ro : Option Nat}
theorem vops_run2 {ops : List Oper} {Q : Exit → Act → World → Prop} {rest2 : List Oper} (hG : ∀ w', Below w0.heap.size w0 w' → G w') : ∀ (l : List Oper) (σ : AState) (K : AState → Prop) (E : Env) (a : Act) (w : World), dstsOk n.nd l = true → vops P G ops l σ K → St V w0 n E σ a w →
  (∀ (E' : Env) (σ' : AState) (a' : Act) (w' : World), K σ' → St V w0 n E' σ' a' w' → wpListIn (FW ro) 0 P ops.toArray Q rest2 a' w') → wpListIn (FW ro) 0 P ops.toArray Q (l ++ rest2) a w := by
 intro l
 induction l with
 | nil => exact fun σ K E a w _ h hs hQ => hQ E σ a w h hs
 | cons o rest ih =>
  intro σ K E a w hd h hs hQ
  simp only [dstsOk, Bool.and_eq_true] at hd
  have hdst : ∀ d, o.dst = some d → d < n.nd.n ∧ d ∉ n.nd.fx := fun d e => by
   have := hd.1
   rw [e] at this
   simp only [Bool.and_eq_true, Bool.not_eq_true'] at this
   exact ⟨blt_iff.1 this.1, memN_iff this.2⟩
  refine wpListIn_step fun K' hK' => ?_
  rcases guard_run hs h with ⟨hw, hr⟩ | ⟨hw, hr⟩
  ·rw [if_pos hw]
   obtain ⟨r, bk', hK, hu⟩ := vop_run hr
   refine hu V w0 n E a w hs hG K' Q (fun v w' E' hs' hv => hK' _ _ (ih ⟨putF o.dst r σ.fr, bk'⟩ K E' (a.put o.dst v) w' hd.2 hK (hs'.put hdst hv) hQ)) ro
  ·rw [if_neg (by rw [hw]; simp)]
   refine ⟨fun _ _ => trivial, hK' _ _ (ih ⟨putF o.dst (.val undef) σ.fr, σ.bk⟩ K E (a.put o.dst undef) w hd.2 hr (hs.put hdst .val) hQ)⟩
end
theorem dstsOk_append {n : Nd} : ∀ (l m : List Oper), dstsOk n (l ++ m) = (dstsOk n l && dstsOk n m)
 | [], m => rfl
 | o :: l, m => by rw [List.cons_append, dstsOk, dstsOk, dstsOk_append l m, Bool.and_assoc]
section
variable {P : Program} {G : World → Prop} {σ : AState} {V w0 : World} {n : Nd} {ro : Option Nat} {K : Exit → AState → Prop}
theorem AW.markR {id : Nat} {l1 l2 : List Oper} {t e : TypeId} {d s : Nat} {y : TypeId} {p : String} {ar : Array Edge} {L : List Oper} (hL : L = l1 ++ ⟨some d, .convert t t (.tmp s), y, p, ar, none⟩ :: l2)
  (hd : dstsOk n L = true) (ht : P.underlying t = some (.slice e)) (he : P.underlying e = some (.int .u8))
  (h : vops P G L l1 σ fun σ1 => ∃ b e' l, look σ1.fr s = .own b ∧ findB b σ1.bk = some (.row b e' 1 l) ∧ l ≠ [] ∧ vops P G L l2 ⟨putF (some d) (.iv (.sl 1 l)) σ1.fr, replB b [] σ1.bk⟩ fun σ' => K .normal σ') :
  AW P G ro V w0 n (.region id L.toArray false) σ K := fun hG m E a w hn hs => by
 rw [hL, dstsOk_append, Bool.and_eq_true] at hd
 obtain ⟨hd1, hd2⟩ := hd
 simp only [dstsOk, Bool.and_eq_true] at hd2
 refine wpIn_region_lit ?_
 suffices H : wpListIn (FW ro) 0 P L.toArray (Arr V w0 m K) (l1 ++ ⟨some d, .convert t t (.tmp s), y, p, ar, none⟩ :: l2) a w by rwa [← hL] at H
 refine vops_run2 hG l1 σ _ E a w (by rw [hn]; exact hd1) h hs fun E1 σ1 a1 w1 ⟨b, e', l, q1, q2, q3, hK⟩ hs1 => ?_
 have s1 := hs1.slots s
 rw [q1] at s1
 obtain ⟨pre, post, e1, e2, e3⟩ := findB_split q2
 obtain ⟨fr, bk⟩ := σ1
 simp only at e1 e3 hK hs1 q1 q2 s1
 have e4 := e3 []
 subst e1
 rw [e4] at hK
 obtain ⟨hO, hB⟩ := hs1.holds (.row b e' 1 l) (by simp)
 obtain ⟨v, hv⟩ : ∃ v, a1.tmps.getD s undef = v := ⟨_, rfl⟩
 rw [hv] at s1
 have hfz := St.frz_rep hs1 (x := .row b e' 1 l) trivial s1
 rw [frzA_own_row, if_pos rfl] at hfz
 have hev : v = E1.row b := by
  cases s1 with
  | own h => exact h.symm
 rcases hO.forms with ⟨_, h0⟩ | ⟨g, c, hvv, hg1, hg2⟩
 ·exact absurd h0 q3
 rw [hvv] at hO
 obtain ⟨cur, _, _, hBk, _⟩ := hO.open_
 obtain ⟨f1, f2, f3⟩ := frz_heap (n := cur.size) hBk
 have hgm : owns E1 [.row b e' 1 l] = [g] := by simp [owns, BA.owned, hvv, Value.ownBlock]
 have hsw := St.swap (E' := E1) (nb := []) (mid := [.row b e' 1 l]) (lo := 0) (hi := 0) (w' := w1.freeze ⟨g, cur.size, none⟩ 1) hs1 (fun k hk _ => f2 k (fun h => hk (by rw [hgm, h]; simp))) (by rw [f1]; exact Nat.le_refl _) (frz_below hBk hs1.low hg1) (Env.same_refl 0 0 E1) (offF_none _) (offB_none _) (by simp [owns]) (by simp [owns]) (by simp)
 refine list_step1 rfl (fun _ h => by cases h) (v := v) (w' := w1.freeze ⟨g, cur.size, none⟩ 1) ?_ ?_
 ·have : a1.eval (.tmp s) = v := hv
  simp only [execOp, this]
  refine run_v ?_
  rw [hev, hvv]
  exact run_mark ht he hBk
 ·refine vops_run hG l2 _ _ E1 _ _ (by rw [hn]; exact hd2.2) hK (hsw.put (fun d' hd' => ?_) (hfz.mono (vis_ext (by rw [f1]; exact Nat.le_refl _) fun p u _ _ h3 h4 => ⟨h3, by rw [f3]; exact h4⟩))) fun E' σ' a' w' hK hs' => ⟨m, E', σ', Fm.le.refl m, hK, hs'⟩
  cases hd'
  have := hd2.1
  simp only [Bool.and_eq_true, Bool.not_eq_true'] at this
  rw [hn]
  exact ⟨blt_iff.1 this.1, memN_iff this.2⟩
theorem AW.mark {id : Nat} {l1 l2 : List Oper} {t e : TypeId} {d s : Nat} {y : TypeId} {p : String} {ar : Array Edge} {L : List Oper} (hL : L = l1 ++ ⟨some d, .convert t t (.tmp s), y, p, ar, none⟩ :: l2)
  (hd : dstsOk n L = true) (ht : P.underlying t = some (.slice e)) (he : P.underlying e = some (.int .u8))
  (h : ∀ KK : AState → Prop, (∀ σ1 b e' l, look σ1.fr s = .own b → findB b σ1.bk = some (.row b e' 1 l) → l ≠ [] → (∀ K2 : AState → Prop, (∀ σ', K .normal σ' → K2 σ') → vops P G L l2 ⟨putF (some d) (.iv (.sl 1 l)) σ1.fr, replB b [] σ1.bk⟩ K2) → KK σ1) → vops P G L l1 σ KK) :
  AW P G ro V w0 n (.region id L.toArray false) σ K := AW.markR hL hd ht he (h _ fun σ1 b e' l h1 h2 h3 h4 => ⟨b, e', l, h1, h2, h3, h4 _ fun _ h => h⟩)
end
attribute [local irreducible] AW AWY vops vopsY vop vopL vdraw callW qop binQ lenQ storeQ appendQ callQ ACalls AIter
attribute [local go_sem] byI_eq enW_eq wrI_eq wA_eq enB_eq boI_eq enZ_eq znI_eq vwA_eq noteA_eq storeQ_bp storeQ_rp
def aliveV : View := ⟨[⟨1, 0⟩], [], [⟨⟨1, 0⟩, 3, false⟩], [⟨3, ⟨1, 0⟩, [104, 105]⟩], 9⟩
def aliveN : Note := ⟨[], [⟨1, 0⟩], [], [⟨⟨1, 0⟩, 3, false⟩]⟩
theorem alive13a : newS 9 = (⟨[], [], [], [], 9⟩, 0) := by kernel_rfl
theorem alive13b : writeV ⟨[], [], [], [], 9⟩ 0 3 0 [104, 105] false = ⟨aliveV, aliveN, 0⟩ := by kernel_rfl
theorem alive13c : readV aliveV 3 = ([104, 105], ⟨⟨1, 0⟩, 3, false⟩, 0) := by kernel_rfl
set_option maxRecDepth 100000 in
set_option maxHeartbeats 3200000 in
theorem alive13_call : ACalls Tryz.prog TzTab 15 [] (.val (.bool true)) [] := by
 refine ACalls.of (n := 53) (rs := [.tmp 0]) Tryz.func15 rfl (by kernel_rfl) Tryz.ntmps15 (by kernel_rfl) (by simp) (fun _ _ => TzTab.later) ?_
 intro hok V w0
 have hn := new_call 9 rfl
 rw [alive13a] at hn
 have hw := vwrite_call ⟨[], [], [], [], 9⟩ 0 3 0 [104, 105] false rfl rfl rfl rfl
 rw [alive13b] at hw
 have hr := vread_call aliveV 3 rfl rfl
 rw [alive13c] at hr
 simp only [aliveV, aliveN] at hw hr
 refine g ?_
 refine AW.seq ?_
 refine AW.reg rfl fun KK hKK => ?_
 refine g ?_
 repeat' (refine hKK _ (g ?_); clear hKK KK)
 refine AW.seq ?_
 refine AW.reg rfl fun KK hKK => ?_
 refine g ?_
 refine call_ hn rfl (g ?_)
 refine g ?_
 repeat' (refine hKK _ (g ?_); clear hKK KK)
 refine AW.seq ?_
 refine AW.mark (l1 := [_, _]) rfl rfl Tryz.underlying45 Tryz.underlying5 fun KK hKK => ?_
 refine g ?_
 refine bs2 (by omega) rfl rfl rfl ⟨rfl, trivial⟩ rfl rfl rfl ⟨rfl, trivial⟩ ?_
 refine g ?_
 refine hKK _ 1500 _ _ rfl rfl (by simp) ?_
 clear hKK KK
 intro KK hKK
 refine g ?_
 refine call_ hw rfl (g ?_)
 refine g ?_
 repeat' (refine hKK _ (g ?_); clear hKK KK)
 refine g ?_
 repeat' (first | refine st_ rfl (g ?_) | refine call_ (hr) rfl (g ?_))
 simp only [decide_true]
 refine ⟨[104, 105], rfl, ?_⟩
 refine g ?_
 repeat' refine hold_ (g ?_)
 have hs : strOf [104, 105] = ⟨#[104, 105]⟩ := by kernel_rfl
 rw [hs]
 refine str_eq (g ?_)
 refine ⟨_, fun u => stamp_eq _ _ _ _ _ _ u, ?_⟩
 refine g ?_
 repeat' (first | refine st_ rfl (g ?_) | refine hold_ (g ?_))
 exact decide_eq_true trivial
end Go.Proofs.YtkphfdmelfhnoaaGreatDoor
namespace Go.Proofs.YtkphfdmelfhnoaaGreatDoor
open Go.ChangeShapes Go.WideShapes Go.ChangeAt Go.RowKit
attribute [local irreducible] AW AWY vops vopsY vop vopL vdraw callW qop binQ lenQ storeQ appendQ callQ ACalls AIter
attribute [local go_sem] noteA_eq enN_eq noI_eq vwA_eq storeQ_bp storeQ_rp
theorem sumV_formed {v : View} {it : List Span} : ∀ n ∈ (sumV v it).1, noteFormed n = true := fun n hn => by
 unfold sumV at hn
 split at hn
 ·rename_i h
  exact sumL_formed (view_iff.1 h) it n hn
 ·cases hn
theorem sumV_len (v : View) (it : List Span) : (sumV v it).1.length ≤ 257 := by
 unfold sumV
 split
 ·unfold sumL
  have := sumRows_len v it 256
  simp only [List.length_cons, List.length_map]
  omega
 ·simp
set_option maxRecDepth 100000 in
set_option maxHeartbeats 3200000 in
theorem lawSums (v : View) (it : List Span) (iR : I64 v.room) : ACalls Tryz.prog TzTab 7 [vwA v, .iv (spI it)] (.val (.bool true)) [] := by
 refine ACalls.of (n := 44) (rs := [.tmp 4]) Tryz.func7 rfl (by kernel_rfl) Tryz.ntmps7 (by kernel_rfl) (by simp) (fun _ _ => TzTab.later) ?_
 intro hok V w0
 have hs := vsum_call v it iR
 have hr := rvsum_call v it iR
 have hf := sumV_formed (v := v) (it := it)
 have hl := sumV_len v it
 generalize sumV v it = Y at hs hr hf hl
 obtain ⟨l, e⟩ := Y
 simp only at hs hr hf hl
 refine g ?_
 refine AW.seq ?_
 refine AW.reg rfl fun KK hKK => ?_
 refine g ?_
 repeat' (refine hKK _ (g ?_); clear hKK KK)
 refine AW.freeze 300 _ rfl ⟨trivial, trivial, trivial, trivial, iR, trivial⟩ ?_
 simp only [go_sem, reduceIte, Nat.reduceEqDiff]
 refine g ?_
 repeat' (first | refine st_ rfl (g ?_) | refine call_ (alive13_call) rfl (g ?_) | refine call_ (hs) rfl (g ?_) | refine call_ (hr) rfl (g ?_))
 refine AW.loop (fun i : {i : Nat // i ≤ l.length} => ⟨[(5, .iv (noI l)), (6, .val (.int .i64 e)), (7, .iv (noI l)), (8, .val (.int .i64 e)), (9, .val (.int .i64 (i.1 : Nat)))], []⟩) (fun i => l.length - i.1) ⟨0, Nat.zero_le _⟩ id ⟨⟨rfl, rfl, rfl, rfl, rfl, trivial⟩, trivial, List.nodup_nil⟩ fun ⟨i, hi⟩ => ?_
 simp only
 repeat (refine AW.seq ?_)
 refine AW.reg rfl fun KK hKK => ?_
 refine g ?_
 repeat' (refine hKK _ (g ?_); clear hKK KK)
 repeat (refine AW.seq ?_)
 refine st_ rfl ?_
 refine g ?_
 refine cond_d (fun h => ?_) (fun h => ?_)
 ·have hlt : i < l.length := by omega
  have hn := nformed_call l[i]
  rw [hf _ (List.getElem_mem hlt)] at hn
  refine g ?_
  repeat' (first | refine st_ rfl (g ?_) | refine ix_ (by omega) (g ?_) | refine call_ (hn) rfl (g ?_))
  exact ⟨⟨i + 1, hlt⟩, id, ⟨⟨rfl, rfl, rfl, rfl, rfl, trivial⟩, trivial, List.nodup_nil⟩, by show l.length - (i + 1) < l.length - i; omega⟩
 ·refine AW.exit ?_
  simp only [reduceIte]
  refine g ?_
  repeat' (first | refine st_ rfl (g ?_) | refine call_ (rall_call l) rfl (g ?_))
  exact decide_eq_true trivial
end Go.Proofs.YtkphfdmelfhnoaaGreatDoor
namespace Go.Proofs.YtkphfdmelfhnoaaGreatDoor
open Go.ChangeShapes Go.WideShapes Go.ChangeAt Go.RowKit
def laying (cs : Array Value) : Obj → Obj
 | .cells _ t frozen => .cells cs t frozen
 | o => o
def tzCells : Array Value := #[.int .u8 0, .int .u8 1, .int .u8 56, .int .u8 2, .int .u8 57, .int .u8 49, .int .u8 28, .int .u8 3, .int .u8 61, .int .u8 58, .int .u8 42, .int .u8 50, .int .u8 38, .int .u8 29, .int .u8 17, .int .u8 4, .int .u8 62, .int .u8 47, .int .u8 59, .int .u8 36, .int .u8 45, .int .u8 43, .int .u8 51, .int .u8 22, .int .u8 53, .int .u8 39, .int .u8 33, .int .u8 30, .int .u8 24, .int .u8 18, .int .u8 12, .int .u8 5, .int .u8 63, .int .u8 55, .int .u8 48, .int .u8 27, .int .u8 60, .int .u8 41, .int .u8 37, .int .u8 16, .int .u8 46, .int .u8 35, .int .u8 44, .int .u8 21, .int .u8 52, .int .u8 32, .int .u8 23, .int .u8 11, .int .u8 54, .int .u8 26, .int .u8 40, .int .u8 15, .int .u8 34, .int .u8 20, .int .u8 31, .int .u8 10, .int .u8 25, .int .u8 14, .int .u8 19, .int .u8 9, .int .u8 13, .int .u8 8, .int .u8 7, .int .u8 6]
noncomputable def tzWorld (os : Os) : World :=
 { World.holding Tryz.prog os ⟨#[], #[], []⟩ with heap := (World.holding Tryz.prog os ⟨#[], #[], []⟩).heap.modify 0 (laying tzCells) }
theorem tzName : Tryz.prog.globalNamed "math/bits.deBruijn64tab" = some 0 := by kernel_rfl
theorem tzType : (Tryz.prog.globals[0]?).map (·.type) = some 280 := by kernel_rfl
theorem tz_of_laid {laid : List (String × DataW Unit)} {W : World} (e : (laid.filter fun x => x.1 == "math/bits.deBruijn64tab") = [("math/bits.deBruijn64tab", Lib.tabData .u8 (Lib.deBruijn64tab.map Int.ofNat))]) (h : laidMetH Tryz.prog laid W) : TzTab W := by
 have h1 := h.filter (fun x => x.1 == "math/bits.deBruijn64tab")
 rw [e] at h1
 have h2 := Lib.tabIs_of_head (rest := []) tzName tzType Tryz.underlying280 Tryz.underlying5 (by kernel_rfl) (by kernel_rfl) h1
 intro j hj
 have h3 := h2.cell tzName j (by simpa using hj)
 rw [h3]
 simp [List.getD, hj]
theorem small_part {H : Type} {l : List (DataW H)} (h : Rows.uptoSmall H l = true) : ∀ d, d ∈ l → Rows.uptoBulk d ≤ 1048576 := by
 have h2 : Rows.uptoBulkAll l ≤ 1048576 := of_decide_eq_true h
 intro d hd
 have := bulk_part hd
 omega
namespace cViewSums
set_option maxRecDepth 100000 in
theorem contract (H : Type) (enc : TypeId × Value → H) (W : World) (base : Nat) (args : Array Value) (ds gs : List (DataW H)) (before : List MemPlace)
    (hval : ∀ (j : Nat) t v, Tryz.f7.params[j]? = some t → args[j]? = some v → Value.okWide Tryz.prog W .any base t v)
    (hW : DataW.Whole enc Tryz.prog Tryz.f7.params.toList Rows.viewSumsSpec.vars false W args.toList ds gs before) (hk : Rows.uptoSmall H (ds ++ gs) = true) (hL : laidMetH Tryz.prog Rows.viewSumsRow.laid W) :
    Calls Tryz.prog 7 args W fun e W' => ∃ v, e = .returned v ∧ Rows.viewSumsSpec.post enc Tryz.prog Tryz.f7 false true false false W args v W' := by
  have hW' := hW
  obtain ⟨p, q, hA0, hV, rfl, hfz, hnd⟩ := hW
  have hA : DataW.TrodAll enc Tryz.prog W 0 (fun _ => true) true Tryz.f7.params.toList args.toList ds p := hA0
  rw [Tryz.params7] at hA hval
  obtain ⟨v0, vs0, d0, ds0, p0, q0, hargs, rfl, rfl, h0, r0⟩ := trodAll_cons hA
  obtain ⟨v1, vs1, d1, ds1, p1, q1, rfl, rfl, rfl, h1, r1⟩ := trodAll_cons r0
  obtain ⟨rfl, rfl, rfl⟩ := trodAll_nil r1
  obtain rfl : args = #[v0, v1] := by cases args; simp_all
  obtain ⟨rfl, rfl⟩ := trodVars_none hV
  have hpart := small_part hk
  obtain ⟨cs0, rfl, hs0⟩ := okWide_struct Tryz.underlying27 (hval 0 _ v0 rfl rfl)
  obtain ⟨n0, hn0⟩ := h0
  obtain ⟨_, x0, va, vb, vc, vd, e0, hK, hZ, hH, hB, iR⟩ := opens_view (w := W) H enc n0 _ _ ⟨hn0, hpart d0 (by simp)⟩
  obtain rfl : cs0 = #[va, vb, vc, vd, .int .i64 x0.room] := Array.toList_inj.1 (by simpa only [Value.cells] using e0)
  obtain ⟨_, _, _, rfl⟩ := okWide_slice Tryz.underlying28 (hval 1 _ v1 rfl rfl)
  obtain ⟨n1, hn1⟩ := h1
  obtain ⟨_, l1, u1, hv1, hl1⟩ := opens_spans (w := W) H enc n1 _ _ ⟨hn1, hpart d1 (by simp)⟩
  simp only [Value.cells, List.cons.injEq, and_true] at hv1
  subst hv1
  have hT : TzTab W := tz_of_laid (by kernel_rfl) hL
  clear hA0
  refine ((lawSums x0 l1 iR).law hT (RepAs.cons (view_rep hK hZ hH hB) (RepAs.cons (.iv (spans_rep hl1 (Nat.le_refl _))) RepAs.nil))).mono fun e W' ⟨he, hb⟩ => ?_
  subst he
  exact ⟨_, rfl, law_post laidOut (by kernel_rfl) (by kernel_rfl) Tryz.underlying4 rfl rfl rfl rfl hW' hb⟩
theorem laid_met (os : Os) : laidMet Tryz.prog Rows.viewSumsRow.laid ((tzWorld os).forCall (fun _ _ => 0) ⟨#[], #[.agg #[.slice none 0 0, .slice none 0 0, .slice none 0 0, .slice none 0 0, .int .i64 0], .slice none 0 0], []⟩).memory :=
  laidMet_of_run' 8 (by kernel_rfl) (by kernel_rfl)
theorem reads (os : Os) {H : Type} (enc : TypeId × Value → H) : ∃ places, DataW.whole enc Tryz.prog ((tzWorld os).forCall (fun _ _ => 0) ⟨#[], #[.agg #[.slice none 0 0, .slice none 0 0, .slice none 0 0, .slice none 0 0, .int .i64 0], .slice none 0 0], []⟩).memory Tryz.f7.params.toList Rows.viewSumsSpec.vars false (#[.agg #[.slice none 0 0, .slice none 0 0, .slice none 0 0, .slice none 0 0, .int .i64 0], .slice none 0 0] : Array Value).toList 8 = some ([.agg [.nil, .nil, .nil, .nil, .lit (.int .i64 0)], .nil], [], places) :=
  ⟨[], by kernel_rfl⟩
set_option maxRecDepth 100000 in
theorem lifted (os : Os) (started : os.Started) (H : Type) (enc : TypeId × Value → H) (F : Stop.Interp) :
    ReturnsInHanded {} Tryz.checked os 7 .any ((Rows.OpenSpec.upto Rows.viewSumsSpec).preRow enc Tryz.prog Tryz.f7 Rows.viewSumsUptoRow.domain false Rows.viewSumsUptoRow.laid) (((Rows.OpenSpec.upto Rows.viewSumsSpec).at F).post enc Tryz.prog Tryz.f7 false true false false) := by
  obtain ⟨places, hx⟩ := reads os enc
  refine returnsInHanded_of_row (C := Tryz.checked) (s := Rows.OpenSpec.upto Rows.viewSumsSpec) own started (by kernel_rfl) Tryz.func7
    (witness_row_at (enc := enc) (C := Tryz.checked) false (tzWorld os) #[.agg #[.slice none 0 0, .slice none 0 0, .slice none 0 0, .slice none 0 0, .int .i64 0], .slice none 0 0] rfl (by kernel_rfl) (by kernel_rfl) (by kernel_rfl)
      (OpenSpec.preRow_of_cond 8 hx (by kernel_rfl) (fun k hk => by cases hk; kernel_rfl) (by kernel_rfl) (laid_met os))) ?_
  intro W base args ds gs before hval hW _ hcond _ hL _ _
  exact contract H enc W base args ds gs before hval hW (hcond _ rfl) hL
theorem c1 : laidOutB Tryz.pinned.checked.prog = true := by kernel_rfl
theorem c2 : mapsRowed Tryz.pinned.checked.prog = true := by kernel_rfl
theorem c3 : (Rows.viewSumsUptoRow.inPlace == Tryz.pinned.checked.prog.inPlace 7) = true := by kernel_rfl
theorem c4 : (Rows.viewSumsUptoRow.unfollowed == Tryz.pinned.checked.prog.unfollowed 7) = true := by kernel_rfl
theorem c5 : (Rows.viewSumsUptoRow.recurses == Tryz.pinned.checked.prog.recurses 7) = true := by kernel_rfl
theorem c6 : (Rows.viewSumsUptoRow.named == Tryz.pinned.checked.prog.varsNamed 7) = true := by kernel_rfl
theorem closed : joinedFacts Tryz.pinned.checked.prog 7 Tryz.f7 (Rows.OpenSpec.upto Rows.viewSumsSpec).bare Rows.viewSumsUptoRow = true := by
  unfold joinedFacts
  rw [c1, c2, c3, c4, c5, c6]
  kernel_rfl
theorem said : Rows.ViewSumsUptoSaid :=
  OpenClaim.holds_of_cond 7 Tryz.f7 rfl rfl rfl rfl rfl rfl rfl ⟨rfl, rfl, rfl, rfl, rfl⟩ rfl rfl rfl rfl rfl (by kernel_rfl) Tryz.func7 closed
    (of_decide_eq_true (by kernel_rfl)) (by unfold Func.isWrapper; first | (rw [if_pos (by decide +kernel)]; kernel_rfl) | (rw [if_neg (by decide +kernel)]; exact ⟨rfl, rfl⟩))
    (fun os started H enc _ F => by rw [OpenClaim.pre_eq_preRow]; exact lifted os started H enc F)
theorem plain (f : FuncId) (fn : Func) (hf : Tryz.pinned.checked.prog.funcNamed "telltale/telltalelaw13.ViewSums" = some f) (hfn : Tryz.pinned.checked.prog.funcs[f]? = some fn) :
    false = Tryz.pinned.checked.prog.looks [] ∧ ∀ (j : Nat) t, fn.params[j]? = some t → Tryz.pinned.checked.prog.wantsStandIn t = false := by
  obtain rfl : f = 7 := Option.some.inj ((show Tryz.prog.funcNamed "telltale/telltalelaw13.ViewSums" = some 7 by kernel_rfl).symm.trans hf) |>.symm
  obtain rfl : fn = Tryz.f7 := (Option.some.inj (Tryz.func7.symm.trans hfn)).symm
  refine ⟨by kernel_rfl, fun j t ht => ?_⟩
  rw [Tryz.params7] at ht
  have hm := Array.mem_of_getElem? ht
  simp at hm
  rcases hm with rfl | rfl
  · exact (show Tryz.prog.wantsStandIn 27 = false by kernel_rfl)
  · exact (show Tryz.prog.wantsStandIn 28 = false by kernel_rfl)
theorem card : Rows.ViewSumsUptoCardSaid :=
  Claim7.holds_tied_plain_at .later [] _ _ _ _ said (fun _ h => by cases h) (by as_aux_lemma => kernel_rfl) (fun _ h => by cases h) viewSumsUpto_row_tie rfl ⟨rfl, rfl⟩ (by as_aux_lemma => kernel_rfl) rfl plain (by as_aux_lemma => kernel_rfl)
#print axioms card
end cViewSums
end Go.Proofs.YtkphfdmelfhnoaaGreatDoor
