/- The law ViewBodies: any body comes to any view, and any object is read, as the reference says, or refused. The card (second form: of bulk at most 1048576). -/
import Derived.Test.YtkphfdmelfhnoaaGreatDoorPRefThr
import Derived.Test.YtkphfdmelfhnoaaGreatDoorPViewEnc
import Derived.OpenShut
import Derived.Test.YtkphfdmelfhnoaaGreatDoorPCache
import Derived.Test.YtkphfdmelfhnoaaGreatDoorPPlace
import Derived.Test.YtkphfdmelfhnoaaGreatDoorPReached
import Derived.Test.YtkphfdmelfhnoaaGreatDoorPViewRead
import Derived.Test.YtkphfdmelfhnoaaGreatDoorPViewLaw
import Derived.Test.YtkphfdmelfhnoaaGreatDoorPAbsFrz
import Derived.Test.YtkphfdmelfhnoaaGreatDoorPRow
import Derived.Test.YtkphfdmelfhnoaaGreatDoorPRead
import Derived.Test.YtkphfdmelfhnoaaGreatDoorCards
import Derived.Test.YtkphfdmelfhnoaaGreatDoorTie
import Derived.Lib.LaidTab
import Derived.Deep.DeepWitnessRowRef
import Derived.Lib.SmallJoins
set_option linter.all false
set_option linter.unnecessarySimpa false
set_option linter.unusedSimpArgs false
set_option linter.unusedVariables false
namespace Go.Proofs.YtkphfdmelfhnoaaGreatDoor
open Go.ChangeShapes Go.WideShapes Go.ChangeAt Go.RowKit
def ZoneR (w : World) (B : Nat) (cs : List Value) (z : Zone) : Prop := ∃ v, cs = [.int .i64 z.span.lo, .int .i64 z.span.hi, v] ∧ I64 z.span.lo ∧ I64 z.span.hi ∧ Stamps w B v z.vec
theorem opens_zone {w : World} : Opens Tryz.prog w 147 3 (ZoneR w w.heap.size) := by
 intro H enc fuel cs x h
 obtain ⟨hl, n, hf⟩ := struct_pieces Tryz.underlying147 h
 have hk : Tryz.prog.cellsOf 147 = 3 := by kernel_rfl
 have hs : Tryz.prog.cellsOf 78 = 2 := by kernel_rfl
 have hv : Tryz.prog.cellsOf 22 = 1 := by kernel_rfl
 rw [hk] at hl
 refine ⟨hl, ?_⟩
 match cs, hl with
 | [v0, v1, v2], _ =>
  obtain ⟨y0, h0⟩ := hf 0 78 0 2 rfl hs
  obtain ⟨y1, h1⟩ := hf 1 22 2 1 rfl hv
  obtain ⟨_, a, e0, i0, i1⟩ := opens_span (w := w) H enc n _ _ h0
  obtain ⟨_, b, _, e1, s1⟩ := opens_stamps (w := w) H enc n _ _ h1
  simp at e0 e1
  obtain ⟨rfl, rfl⟩ := e0
  subst e1
  exact ⟨⟨a, b⟩, _, rfl, i0, i1, s1⟩
abbrev Zones (w : World) (B : Nat) (v : Value) (l : List Zone) : Prop := Sl (ZoneR w B) 3 w B v l
theorem opens_zones {w : World} : Opens Tryz.prog w 23 1 (fun cs l => ∃ v, cs = [v] ∧ Zones w w.heap.size v l) :=
 opens_slice Tryz.underlying23 (by kernel_rfl) (by omega) opens_zone
abbrev Bodies (w : World) (B : Nat) (v : Value) (l : List Body) : Prop := Sl (BodyR w B) 4 w B v l
theorem opens_bodies {w : World} : Opens Tryz.prog w 25 1 (fun cs l => ∃ v, cs = [v] ∧ Bodies w w.heap.size v l) :=
 opens_slice Tryz.underlying25 (by kernel_rfl) (by omega) opens_body
def ViewR (w : World) (B : Nat) (cs : List Value) (x : View) : Prop := ∃ v0 v1 v2 v3, cs = [v0, v1, v2, v3, .int .i64 x.room] ∧ Stamps w B v0 x.known ∧ Zones w B v1 x.zones ∧ Writes w B v2 x.held ∧ Bodies w B v3 x.bodies ∧ I64 x.room
theorem opens_view {w : World} : Opens Tryz.prog w 27 5 (ViewR w w.heap.size) := by
 intro H enc fuel cs x h
 obtain ⟨hl, n, hf⟩ := struct_pieces Tryz.underlying27 h
 have hk : Tryz.prog.cellsOf 27 = 5 := by kernel_rfl
 have q0 : Tryz.prog.cellsOf 22 = 1 := by kernel_rfl
 have q1 : Tryz.prog.cellsOf 23 = 1 := by kernel_rfl
 have q2 : Tryz.prog.cellsOf 24 = 1 := by kernel_rfl
 have q3 : Tryz.prog.cellsOf 25 = 1 := by kernel_rfl
 have q4 : Tryz.prog.cellsOf 3 = 1 := by kernel_rfl
 rw [hk] at hl
 refine ⟨hl, ?_⟩
 match cs, hl with
 | [v0, v1, v2, v3, v4], _ =>
  obtain ⟨y0, h0⟩ := hf 0 22 0 1 rfl q0
  obtain ⟨y1, h1⟩ := hf 1 23 1 1 rfl q1
  obtain ⟨y2, h2⟩ := hf 2 24 2 1 rfl q2
  obtain ⟨y3, h3⟩ := hf 3 25 3 1 rfl q3
  obtain ⟨y4, h4⟩ := hf 4 3 4 1 rfl q4
  obtain ⟨_, a, _, e0, s0⟩ := opens_stamps (w := w) H enc n _ _ h0
  obtain ⟨_, b, _, e1, s1⟩ := opens_zones (w := w) H enc n _ _ h1
  obtain ⟨_, c, _, e2, s2⟩ := opens_writes (w := w) H enc n _ _ h2
  obtain ⟨_, d, _, e3, s3⟩ := opens_bodies (w := w) H enc n _ _ h3
  obtain ⟨_, r, e4, i4⟩ := opens_int (w := w) Tryz.underlying3 H enc n _ _ h4
  simp at e0 e1 e2 e3 e4
  subst e0 e1 e2 e3 e4
  exact ⟨⟨a, b, c, d, r⟩, _, _, _, _, rfl, s0, s1, s2, s3, i4⟩
theorem z_rep {X : World} {cs : List Value} {x : Zone} (h : ZoneR X X.heap.size cs x) : RepVs X cs (enZ x) := by
 obtain ⟨v0, rfl, h1, h2, h⟩ := h
 exact ⟨.val h1, .val h2, stamps_rep h (Nat.le_refl _), trivial⟩
theorem zones_rep {X : World} {v : Value} {l : List Zone} (h : Zones X X.heap.size v l) : RepV X v (znI l) := RepV.of_typed (fun _ _ h => z_rep h) h (Nat.le_refl _)
theorem bytes_rep {X : World} {v : Value} {l : List Nat} (h : Bytes X X.heap.size v l) : RepV X v (byI l) := RepV.of_typed (enc := fun (b : Nat) => [.val (.int .u8 b)]) (fun cs x h => by
 obtain ⟨rfl, h1⟩ := h
 refine ⟨.val ?_, trivial⟩
 simp [okV, Lit.wf, IntKind.max, IntKind.min, IntKind.signed, IntKind.bits]
 omega) h (Nat.le_refl _)
theorem b_rep {X : World} {cs : List Value} {x : Body} (h : BodyR X X.heap.size cs x) : RepVs X cs (enB x) := by
 obtain ⟨v0, rfl, h1, h2, h3, h⟩ := h
 exact ⟨.val h1, .val h2, .val h3, bytes_rep h, trivial⟩
theorem bodies_rep {X : World} {v : Value} {l : List Body} (h : Bodies X X.heap.size v l) : RepV X v (boI l) := RepV.of_typed (fun _ _ h => b_rep h) h (Nat.le_refl _)
theorem view_rep {E : Env} {X : World} {v0 v1 v2 v3 : Value} {x : View} (h0 : Stamps X X.heap.size v0 x.known) (h1 : Zones X X.heap.size v1 x.zones) (h2 : Writes X X.heap.size v2 x.held) (h3 : Bodies X X.heap.size v3 x.bodies) : RepA E X (.agg #[v0, v1, v2, v3, .int .i64 x.room]) (vwA x) :=
 .agg rfl fun j v c a b => by
  match j, a, b with
  | 0, a, b => simp at a b; subst a b; exact .iv (stamps_rep h0 (Nat.le_refl _))
  | 1, a, b => simp at a b; subst a b; exact .iv (zones_rep h1)
  | 2, a, b => simp at a b; subst a b; exact .iv (writes_rep h2 (Nat.le_refl _))
  | 3, a, b => simp at a b; subst a b; exact .iv (bodies_rep h3)
  | 4, a, b => simp at a b; subst a b; exact .val
  | j + 5, a, b => simp at a
theorem body_rep {E : Env} {X : World} {v : Value} {x : Body} (h : Bytes X X.heap.size v x.value) : RepA E X (.agg #[.int .i64 x.object, .int .i64 x.stamp.count, .int .i64 x.stamp.node, v]) (boA x) :=
 .agg rfl fun j u c a b => by
  match j, a, b with
  | 0, a, b => simp at a b; subst a b; exact .val
  | 1, a, b => simp at a b; subst a b; exact .val
  | 2, a, b => simp at a b; subst a b; exact .val
  | 3, a, b => simp at a b; subst a b; exact .iv (bytes_rep h)
  | j + 4, a, b => simp at a
theorem str_eq {t : TypeId} {x y : Operand} {a b : ByteArray} {K : AV → Prop} (h : K (.val (.bool (decide (a = b))))) : binQ Tryz.prog .eql t x y (.val (.string a)) (.val (.string b)) K := ⟨_, fun w => by
 go_simp
 rw [ByteArray.toList_eq, ByteArray.toList_eq]
 by_cases e : a = b
 ·simp [e]
 ·rw [decide_eq_false e, beq_eq_false_iff_ne]
  exact fun h => e (bytes_inj h), h⟩
theorem strOf_inj : ∀ {a b : List Nat}, (∀ x ∈ a, x < 256) → (∀ x ∈ b, x < 256) → (strOf a = strOf b ↔ a = b) := fun {a b} ha hb => by
 refine ⟨fun h => ?_, fun h => h ▸ rfl⟩
 unfold strOf strOfNums at h
 injection h with h
 have h := congrArg Array.toList h
 simp only [List.map_map] at h
 have key : ∀ {a b : List Nat}, (∀ x ∈ a, x < 256) → (∀ x ∈ b, x < 256) → a.map (fun n => UInt8.ofNat n) = b.map (fun n => UInt8.ofNat n) → a = b := by
  intro a
  induction a with
  | nil => intro b _ _ h; cases b with
   | nil => rfl
   | cons _ _ => cases h
  | cons x a ih => intro b ha hb h; cases b with
   | nil => cases h
   | cons y b =>
    injection h with h1 h2
    have e := congrArg UInt8.toNat h1
    have p := ha x (by simp)
    have q := hb y (by simp)
    simp only [UInt8.toNat_ofNat'] at e
    rw [ih (fun z hz => ha z (by simp [hz])) (fun z hz => hb z (by simp [hz])) h2]
    congr 1
    omega
 exact key ha hb (by simpa [Function.comp_def] using h)
attribute [local irreducible] AW AWY vops vopsY vop vopL vdraw callW qop binQ lenQ storeQ appendQ callQ ACalls AIter setI
attribute [local go_sem] boA_eq byI_eq storeQ_bp storeQ_rp
theorem by_lt {a : List Nat} (h : AV.okd (.iv (byI a))) : ∀ x ∈ a, x < 256 := fun x hx => by
 have h2 := okR_mem (by simpa [byI] using h.2) [IV.val (.int .u8 x)] (List.mem_map_of_mem (f := fun (b : Nat) => [IV.val (.int .u8 (b : Int))]) hx)
 have h3 : (Lit.int .u8 (x : Int)).wf = true := h2.2.1
 simp [Lit.wf, IntKind.max, IntKind.min, IntKind.signed, IntKind.bits] at h3
 omega
set_option maxRecDepth 100000 in
theorem rbysame_call (a b : List Nat) : ACalls Tryz.prog TzTab 65 [.iv (byI a), .iv (byI b)] (.val (.bool (decide (a = b)))) [] := by
 refine ACalls.of (n := 10) (rs := [.tmp 4]) Tryz.func65 rfl (by kernel_rfl) Tryz.ntmps65 (by kernel_rfl) (by simp) (fun _ _ => TzTab.later) ?_
 intro hok V w0
 obtain ⟨B, hB⟩ : ∃ B, decide (a = b) = B := ⟨_, rfl⟩
 rw [hB]
 refine g ?_
 repeat' (first | refine st_ rfl (g ?_) | refine hold_ (g ?_) | exact trivial | refine cond_d (fun h => g ?_) (fun h => g ?_) | refine cond_ (fun h => g ?_) (fun h => g ?_) | (refine vops_ifd rfl rfl (fun h e => ?_) (fun h e => ?_) <;> simp only [e] <;> clear e <;> refine g ?_) | (refine vops_if rfl rfl (fun h => ?_) (fun h => ?_) <;> simp only [h] <;> refine g ?_) | refine ix_ (by omega) (g ?_))
 refine ⟨a, rfl, hold_ ?_⟩
 refine g ?_
 repeat' (first | refine st_ rfl (g ?_) | refine hold_ (g ?_) | exact trivial | refine cond_d (fun h => g ?_) (fun h => g ?_) | refine cond_ (fun h => g ?_) (fun h => g ?_) | (refine vops_ifd rfl rfl (fun h e => ?_) (fun h e => ?_) <;> simp only [e] <;> clear e <;> refine g ?_) | (refine vops_if rfl rfl (fun h => ?_) (fun h => ?_) <;> simp only [h] <;> refine g ?_) | refine ix_ (by omega) (g ?_))
 refine ⟨b, rfl, hold_ ?_⟩
 refine g ?_
 repeat' (first | refine st_ rfl (g ?_) | refine hold_ (g ?_) | exact trivial | refine cond_d (fun h => g ?_) (fun h => g ?_) | refine cond_ (fun h => g ?_) (fun h => g ?_) | (refine vops_ifd rfl rfl (fun h e => ?_) (fun h e => ?_) <;> simp only [e] <;> clear e <;> refine g ?_) | (refine vops_if rfl rfl (fun h => ?_) (fun h => ?_) <;> simp only [h] <;> refine g ?_) | refine ix_ (by omega) (g ?_))
 refine str_eq ?_
 refine g ?_
 repeat' (first | refine st_ rfl (g ?_) | refine hold_ (g ?_) | exact trivial | refine cond_d (fun h => g ?_) (fun h => g ?_) | refine cond_ (fun h => g ?_) (fun h => g ?_) | (refine vops_ifd rfl rfl (fun h e => ?_) (fun h e => ?_) <;> simp only [e] <;> clear e <;> refine g ?_) | (refine vops_if rfl rfl (fun h => ?_) (fun h => ?_) <;> simp only [h] <;> refine g ?_) | refine ix_ (by omega) (g ?_))
 rw [← hB]
 exact decide_eq_decide.2 (strOf_inj (by_lt hok.1) (by_lt hok.2.1))
set_option maxRecDepth 100000 in
theorem rbosame_call (x y : Body) : ACalls Tryz.prog TzTab 30 [boA x, boA y] (.val (.bool (decide (x = y)))) [] := by
 refine ACalls.of (n := 24) (rs := [.tmp 4]) Tryz.func30 rfl (by kernel_rfl) Tryz.ntmps30 (by kernel_rfl) (by simp) (fun _ _ => TzTab.later) ?_
 intro hok V w0
 obtain ⟨B, hB⟩ : ∃ B, decide (x = y) = B := ⟨_, rfl⟩
 rw [hB]
 obtain ⟨xo, ⟨xc, xn⟩, xv⟩ := x
 obtain ⟨yo, ⟨yc, yn⟩, yv⟩ := y
 refine g ?_
 repeat' (first | refine st_ rfl (g ?_) | refine hold_ (g ?_) | exact trivial | refine cond_d (fun h => g ?_) (fun h => g ?_) | refine cond_ (fun h => g ?_) (fun h => g ?_) | (refine vops_ifd rfl rfl (fun h e => ?_) (fun h e => ?_) <;> simp only [e] <;> clear e <;> refine g ?_) | (refine vops_if rfl rfl (fun h => ?_) (fun h => ?_) <;> simp only [h] <;> refine g ?_) | refine ix_ (by omega) (g ?_) | refine call_ (rbysame_call _ _) rfl (g ?_))
 ·refine ⟨_, fun u => stamp_eq _ _ _ _ _ _ u, ?_⟩
  refine g ?_
  repeat' (first | refine st_ rfl (g ?_) | refine hold_ (g ?_) | exact trivial | refine cond_d (fun h => g ?_) (fun h => g ?_) | refine cond_ (fun h => g ?_) (fun h => g ?_) | (refine vops_ifd rfl rfl (fun h e => ?_) (fun h e => ?_) <;> simp only [e] <;> clear e <;> refine g ?_) | (refine vops_if rfl rfl (fun h => ?_) (fun h => ?_) <;> simp only [h] <;> refine g ?_) | refine ix_ (by omega) (g ?_) | refine call_ (rbysame_call _ _) rfl (g ?_))
  ·rw [← hB]
   have h3 : xc = yc ∧ xn = yn := by simpa using h
   rename_i h1
   rw [h1, h3.1, h3.2]
   simp
  ·rw [← hB]
   refine (decide_eq_false ?_).symm
   intro e
   injection e with e1 e2 e3
   injection e2 with e4 e5
   simp [e4, e5] at h
 ·rw [← hB]
  refine (decide_eq_false ?_).symm
  intro e
  injection e with e1
  exact h e1
end Go.Proofs.YtkphfdmelfhnoaaGreatDoor
namespace Go.Proofs.YtkphfdmelfhnoaaGreatDoor
open Go.ChangeShapes Go.WideShapes Go.ChangeAt Go.RowKit
attribute [local irreducible] AW AWY vops vopsY vop vopL vdraw callW qop binQ lenQ storeQ appendQ callQ ACalls AIter
attribute [local go_sem] byI_eq enB_eq boI_eq boA_eq enW_eq wrI_eq wA_eq enZ_eq znI_eq vwA_eq noteA_eq storeQ_bp storeQ_rp
def toldA (q : Told) : AV := .tup [vwA q.view, noteA q.note, .val (.int .i64 q.err)]
theorem write_no {q : Told} {e : Int} (h : q = noTold e) : Sub1 (.tup [.agg [.val (.slice none 0 0), .val (.slice none 0 0), .val (.slice none 0 0), .val (.slice none 0 0), .val (.int .i64 0)], .agg [.val (.slice none 0 0), .val (.slice none 0 0), .val (.slice none 0 0), .val (.slice none 0 0)], .val (.int .i64 e)]) (.tup [vwA q.view, noteA q.note, .val (.int .i64 q.err)]) := by
 subst h
 refine tup_sub rfl fun p hp => ?_
 simp only [List.zip_cons_cons, List.zip_nil_right, List.mem_cons, List.not_mem_nil, or_false] at hp
 rcases hp with rfl | rfl | rfl
 ·refine agg_sub rfl fun p hp => ?_
  simp only [List.zip_cons_cons, List.zip_nil_right, List.mem_cons, List.not_mem_nil, or_false] at hp
  rcases hp with rfl | rfl | rfl | rfl | rfl
  ·exact nil_sub 2
  ·exact nil_sub 3
  ·exact nil_sub 4
  ·exact nil_sub 4
  ·exact Sub1.rfl_ _
 ·refine agg_sub rfl fun p hp => ?_
  simp only [List.zip_cons_cons, List.zip_nil_right, List.mem_cons, List.not_mem_nil, or_false] at hp
  rcases hp with rfl | rfl | rfl | rfl
  ·exact nil_sub 2
  ·exact nil_sub 2
  ·exact nil_sub 2
  ·exact nil_sub 4
 ·exact Sub1.rfl_ _
theorem nextS_in {c n s : Int} (hc : c ≤ 9223372036854775807) (hn : I64 n) : I64 (nextS c n s).1.count ∧ I64 (nextS c n s).1.node := by
 unfold nextS
 split
 ·exact ⟨rfl, rfl⟩
 ·split
  ·exact ⟨rfl, rfl⟩
  ·exact ⟨I64.of (by simp only; omega) (by simp only; omega), hn⟩
theorem body_room (v : View) (x : Body) (h : I64 v.room) : I64 (bodyV v x).1.room := by
 unfold bodyV
 split
 ·split
  ·exact h
  ·exact rfl
 ·exact rfl
theorem take_room (v : View) (n : Note) (h : I64 v.room) : I64 (takeV v n).1.room := by
 unfold takeV
 split
 ·split
  ·exact h
  ·exact rfl
 ·exact rfl
set_option maxRecDepth 100000 in
set_option maxHeartbeats 6400000 in
theorem vwrite_call (v : View) (me o skip : Int) (l : List Nat) (gone : Bool) (iR : I64 v.room) (iM : I64 me) (iO : I64 o) (iS : I64 skip) : ACalls Tryz.prog TzTab 26 [vwA v, .val (.int .i64 me), .val (.int .i64 o), .val (.int .i64 skip), .iv (byI l), .val (.bool gone)] (.tup [vwA (writeV v me o skip l gone).view, noteA (writeV v me o skip l gone).note, .val (.int .i64 (writeV v me o skip l gone).err)]) [] := by
 refine ACalls.ofS (n := 102) (rs := [.cell 12 27, .cell 13 30, .tmp 14]) Tryz.func26 rfl (by kernel_rfl) Tryz.ntmps26 (by kernel_rfl) (by simp) (fun _ _ => TzTab.later) ?_
 intro hok V w0
 obtain ⟨R, hR⟩ : ∃ R, writeV v me o skip l gone = R := ⟨_, rfl⟩
 rw [hR]
 unfold writeV at hR
 have hI : ∀ k : Int, I64 (countOf v.known k) := fun k => by
  refine countOf_i64 (fun s hs => ?_) k
  obtain ⟨-, h2, -⟩ := okR_mem (by simpa [stI] using hok.1.1.2) (enSt s) (List.mem_map_of_mem hs)
  exact h2
 have hG := greatS_in v.known hI
 have hnx := next_call (greatS v.known) me skip (I64.hi hG) (I64.hi iS)
 obtain ⟨x1, x2⟩ := nextS_in (s := skip) (I64.hi hG) iM
 obtain ⟨N, hN⟩ : ∃ N, nextS (greatS v.known) me skip = N := ⟨_, rfl⟩
 rw [hN] at hnx x1 x2 hR
 obtain ⟨s, e1⟩ := N
 simp only at hnx x1 x2 hR
 refine g ?_
 refine AW.seq ?_
 refine AW.reg rfl fun KK hKK => ?_
 refine g ?_
 repeat' (first | refine hold_ (g ?_) | (refine hKK _ (g ?_); clear hKK KK) | exact trivial)
 refine AW.freeze 700 _ rfl ⟨trivial, trivial, trivial, trivial, iR, trivial⟩ ?_
 simp only [go_sem, reduceIte, Nat.reduceEqDiff]
 have hT := vtake_call v
 cases gone with
 | true =>
  have hof := nof_call v.known ⟨s, o, true⟩ x1 x2 iO
  obtain ⟨N, hN⟩ : ∃ N, ofN v.known ⟨s, o, true⟩ = N := ⟨_, rfl⟩
  rw [hN] at hof hR
  obtain ⟨n, e2⟩ := N
  simp only at hof hR
  have htk := vtake_call v n iR
  have hroom := take_room v n iR
  obtain ⟨X, hX⟩ : ∃ X, takeV v n = X := ⟨_, rfl⟩
  rw [hX] at htk hR hroom
  obtain ⟨x, e3⟩ := X
  simp only at htk hR hroom
  have hbo := vbody_call x ⟨o, s, l⟩ hroom iO x1 x2
  obtain ⟨Y, hY⟩ : ∃ Y, bodyV x ⟨o, s, l⟩ = Y := ⟨_, rfl⟩
  have hyr := body_room x ⟨o, s, l⟩ hroom
  rw [hY] at hbo hR hyr
  obtain ⟨y, e4⟩ := Y
  simp only at hbo hR hyr
  refine g ?_
  repeat' (first | refine st_ rfl (g ?_) | refine hold_ (g ?_) | exact trivial | refine cond_d (fun h => g ?_) (fun h => g ?_) | refine cond_ (fun h => g ?_) (fun h => g ?_) | (refine hKD _ _ ⟨rfl, g ?_⟩; clear hKD KD) | ((first | refine vops_ifd rfl rfl (fun h e => ?_) (fun h e => ?_) | refine vdraw_ifd rfl rfl (fun h e => ?_) (fun h e => ?_)) <;> simp only [e] <;> clear e <;> refine g ?_) | ((first | refine vops_if rfl rfl (fun h => ?_) (fun h => ?_) | refine vdraw_if rfl rfl (fun h => ?_) (fun h => ?_)) <;> simp only [h] <;> refine g ?_) | refine ix_ (by omega) (g ?_) | refine call_ (vform_call v iR) rfl (g ?_) | refine call_ (great_call _) rfl (g ?_))
  ·rw [if_neg (by rintro ⟨a, _⟩; simp [a] at h)] at hR
   exact write_no hR.symm
  ·rw [if_neg (by rintro ⟨_, a, _⟩; simp [rightO] at a; omega)] at hR
   exact write_no hR.symm
  ·rw [if_neg (by rintro ⟨_, a, _⟩; simp [rightO] at a; omega)] at hR
   exact write_no hR.symm
  ·rw [if_neg (by rintro ⟨_, _, a, _⟩; omega)] at hR
   exact write_no hR.symm
  ·rw [if_neg (by rintro ⟨_, _, _, a⟩; simp at a; simp [a] at h)] at hR
   exact write_no hR.symm
  rw [if_pos (by simp at *; simp [rightO, *]; try omega)] at hR
  refine call_ hnx rfl (g ?_)
  refine g ?_
  repeat' (first | refine hold_ (g ?_) | (refine hKK _ (g ?_); clear hKK KK) | exact trivial)
  refine AW.freeze 1600 _ rfl ⟨x1, x2, trivial⟩ ?_
  simp only [go_sem, reduceIte, Nat.reduceEqDiff]
  refine g ?_
  repeat' (first | refine st_ rfl (g ?_) | refine hold_ (g ?_) | exact trivial | refine cond_d (fun h => g ?_) (fun h => g ?_) | refine cond_ (fun h => g ?_) (fun h => g ?_) | (refine hKD _ _ ⟨rfl, g ?_⟩; clear hKD KD) | ((first | refine vops_ifd rfl rfl (fun h e => ?_) (fun h e => ?_) | refine vdraw_ifd rfl rfl (fun h e => ?_) (fun h e => ?_)) <;> simp only [e] <;> clear e <;> refine g ?_) | ((first | refine vops_if rfl rfl (fun h => ?_) (fun h => ?_) | refine vdraw_if rfl rfl (fun h => ?_) (fun h => ?_)) <;> simp only [h] <;> refine g ?_) | refine ix_ (by omega) (g ?_))
  ·rw [if_neg h] at hR
   exact write_no hR.symm
  rw [if_pos (by simpa using h)] at hR
  refine call_ hof rfl (g ?_)
  refine g ?_
  repeat' (first | refine hold_ (g ?_) | (refine hKK _ (g ?_); clear hKK KK) | exact trivial)
  refine AW.freeze 1800 _ rfl ⟨trivial, trivial, trivial, trivial, trivial⟩ ?_
  simp only [go_sem, reduceIte, Nat.reduceEqDiff]
  refine g ?_
  repeat' (first | refine st_ rfl (g ?_) | refine hold_ (g ?_) | exact trivial | refine cond_d (fun h => g ?_) (fun h => g ?_) | refine cond_ (fun h => g ?_) (fun h => g ?_) | (refine hKD _ _ ⟨rfl, g ?_⟩; clear hKD KD) | ((first | refine vops_ifd rfl rfl (fun h e => ?_) (fun h e => ?_) | refine vdraw_ifd rfl rfl (fun h e => ?_) (fun h e => ?_)) <;> simp only [e] <;> clear e <;> refine g ?_) | ((first | refine vops_if rfl rfl (fun h => ?_) (fun h => ?_) | refine vdraw_if rfl rfl (fun h => ?_) (fun h => ?_)) <;> simp only [h] <;> refine g ?_) | refine ix_ (by omega) (g ?_))
  ·rw [if_neg h] at hR
   exact write_no hR.symm
  rw [if_pos (by simpa using h)] at hR
  refine g ?_
  repeat' (first | refine st_ rfl (g ?_) | refine hold_ (g ?_) | exact trivial | refine cond_d (fun h => g ?_) (fun h => g ?_) | refine cond_ (fun h => g ?_) (fun h => g ?_) | (refine hKD _ _ ⟨rfl, g ?_⟩; clear hKD KD) | ((first | refine vops_ifd rfl rfl (fun h e => ?_) (fun h e => ?_) | refine vdraw_ifd rfl rfl (fun h e => ?_) (fun h e => ?_)) <;> simp only [e] <;> clear e <;> refine g ?_) | ((first | refine vops_if rfl rfl (fun h => ?_) (fun h => ?_) | refine vdraw_if rfl rfl (fun h => ?_) (fun h => ?_)) <;> simp only [h] <;> refine g ?_) | refine ix_ (by omega) (g ?_) | refine call_ (htk) rfl (g ?_) | refine call_ (hbo) rfl (g ?_))
  ·omega
  ·rw [if_pos (by assumption), if_pos trivial] at hR
   subst hR
   refine AW.freeze 1900 _ rfl ⟨trivial, trivial, trivial, trivial, hroom, trivial⟩ ?_
   simp only [go_sem, reduceIte, Nat.reduceEqDiff]
   refine AW.drawn (ds := [100, 101, 14]) (fin := [2, 3]) (bs := [2, 2, 2, 3, 4]) [⟨[], [], [0, 1], [], 0⟩, ⟨[], [], [0], [], 0⟩, ⟨[(100, 0)], [], [], [1], 1⟩, ⟨[(101, 1)], [], [], [0], 1⟩, ⟨[], [], [], [], 0⟩] (by kernel_rfl) rfl (by kernel_rfl) rfl rfl rfl fun KD hKD => ?_
   refine g ?_
   repeat' (first | refine st_ rfl (g ?_) | refine hold_ (g ?_) | exact trivial | refine cond_d (fun h => g ?_) (fun h => g ?_) | refine cond_ (fun h => g ?_) (fun h => g ?_) | (refine hKD _ _ ⟨rfl, g ?_⟩; clear hKD KD) | ((first | refine vops_ifd rfl rfl (fun h e => ?_) (fun h e => ?_) | refine vdraw_ifd rfl rfl (fun h e => ?_) (fun h e => ?_)) <;> simp only [e] <;> clear e <;> refine g ?_) | ((first | refine vops_if rfl rfl (fun h => ?_) (fun h => ?_) | refine vdraw_if rfl rfl (fun h => ?_) (fun h => ?_)) <;> simp only [h] <;> refine g ?_) | refine ix_ (by omega) (g ?_))
   exact Sub1.rfl_ _
  ·rw [if_neg h] at hR
   exact write_no hR.symm
  ·omega
 | false =>
  have hof := nof_call v.known ⟨s, o, false⟩ x1 x2 iO
  obtain ⟨N, hN⟩ : ∃ N, ofN v.known ⟨s, o, false⟩ = N := ⟨_, rfl⟩
  rw [hN] at hof hR
  obtain ⟨n, e2⟩ := N
  simp only at hof hR
  have htk := vtake_call v n iR
  have hroom := take_room v n iR
  obtain ⟨X, hX⟩ : ∃ X, takeV v n = X := ⟨_, rfl⟩
  rw [hX] at htk hR hroom
  obtain ⟨x, e3⟩ := X
  simp only at htk hR hroom
  have hbo := vbody_call x ⟨o, s, l⟩ hroom iO x1 x2
  obtain ⟨Y, hY⟩ : ∃ Y, bodyV x ⟨o, s, l⟩ = Y := ⟨_, rfl⟩
  have hyr := body_room x ⟨o, s, l⟩ hroom
  rw [hY] at hbo hR hyr
  obtain ⟨y, e4⟩ := Y
  simp only at hbo hR hyr
  refine g ?_
  repeat' (first | refine st_ rfl (g ?_) | refine hold_ (g ?_) | exact trivial | refine cond_d (fun h => g ?_) (fun h => g ?_) | refine cond_ (fun h => g ?_) (fun h => g ?_) | (refine hKD _ _ ⟨rfl, g ?_⟩; clear hKD KD) | ((first | refine vops_ifd rfl rfl (fun h e => ?_) (fun h e => ?_) | refine vdraw_ifd rfl rfl (fun h e => ?_) (fun h e => ?_)) <;> simp only [e] <;> clear e <;> refine g ?_) | ((first | refine vops_if rfl rfl (fun h => ?_) (fun h => ?_) | refine vdraw_if rfl rfl (fun h => ?_) (fun h => ?_)) <;> simp only [h] <;> refine g ?_) | refine ix_ (by omega) (g ?_) | refine call_ (vform_call v iR) rfl (g ?_) | refine call_ (great_call _) rfl (g ?_))
  ·rw [if_neg (by rintro ⟨a, _⟩; simp [a] at h)] at hR
   exact write_no hR.symm
  ·rw [if_neg (by rintro ⟨_, a, _⟩; simp [rightO] at a; omega)] at hR
   exact write_no hR.symm
  ·rw [if_neg (by rintro ⟨_, a, _⟩; simp [rightO] at a; omega)] at hR
   exact write_no hR.symm
  ·rw [if_neg (by rintro ⟨_, _, a, _⟩; omega)] at hR
   exact write_no hR.symm
  rw [if_pos (by simp at *; simp [rightO, *]; try omega)] at hR
  refine call_ hnx rfl (g ?_)
  refine g ?_
  repeat' (first | refine hold_ (g ?_) | (refine hKK _ (g ?_); clear hKK KK) | exact trivial)
  refine AW.freeze 1600 _ rfl ⟨x1, x2, trivial⟩ ?_
  simp only [go_sem, reduceIte, Nat.reduceEqDiff]
  refine g ?_
  repeat' (first | refine st_ rfl (g ?_) | refine hold_ (g ?_) | exact trivial | refine cond_d (fun h => g ?_) (fun h => g ?_) | refine cond_ (fun h => g ?_) (fun h => g ?_) | (refine hKD _ _ ⟨rfl, g ?_⟩; clear hKD KD) | ((first | refine vops_ifd rfl rfl (fun h e => ?_) (fun h e => ?_) | refine vdraw_ifd rfl rfl (fun h e => ?_) (fun h e => ?_)) <;> simp only [e] <;> clear e <;> refine g ?_) | ((first | refine vops_if rfl rfl (fun h => ?_) (fun h => ?_) | refine vdraw_if rfl rfl (fun h => ?_) (fun h => ?_)) <;> simp only [h] <;> refine g ?_) | refine ix_ (by omega) (g ?_))
  ·rw [if_neg h] at hR
   exact write_no hR.symm
  rw [if_pos (by simpa using h)] at hR
  refine call_ hof rfl (g ?_)
  refine g ?_
  repeat' (first | refine hold_ (g ?_) | (refine hKK _ (g ?_); clear hKK KK) | exact trivial)
  refine AW.freeze 1800 _ rfl ⟨trivial, trivial, trivial, trivial, trivial⟩ ?_
  simp only [go_sem, reduceIte, Nat.reduceEqDiff]
  refine g ?_
  repeat' (first | refine st_ rfl (g ?_) | refine hold_ (g ?_) | exact trivial | refine cond_d (fun h => g ?_) (fun h => g ?_) | refine cond_ (fun h => g ?_) (fun h => g ?_) | (refine hKD _ _ ⟨rfl, g ?_⟩; clear hKD KD) | ((first | refine vops_ifd rfl rfl (fun h e => ?_) (fun h e => ?_) | refine vdraw_ifd rfl rfl (fun h e => ?_) (fun h e => ?_)) <;> simp only [e] <;> clear e <;> refine g ?_) | ((first | refine vops_if rfl rfl (fun h => ?_) (fun h => ?_) | refine vdraw_if rfl rfl (fun h => ?_) (fun h => ?_)) <;> simp only [h] <;> refine g ?_) | refine ix_ (by omega) (g ?_))
  ·rw [if_neg h] at hR
   exact write_no hR.symm
  rw [if_pos (by simpa using h)] at hR
  refine g ?_
  repeat' (first | refine st_ rfl (g ?_) | refine hold_ (g ?_) | exact trivial | refine cond_d (fun h => g ?_) (fun h => g ?_) | refine cond_ (fun h => g ?_) (fun h => g ?_) | (refine hKD _ _ ⟨rfl, g ?_⟩; clear hKD KD) | ((first | refine vops_ifd rfl rfl (fun h e => ?_) (fun h e => ?_) | refine vdraw_ifd rfl rfl (fun h e => ?_) (fun h e => ?_)) <;> simp only [e] <;> clear e <;> refine g ?_) | ((first | refine vops_if rfl rfl (fun h => ?_) (fun h => ?_) | refine vdraw_if rfl rfl (fun h => ?_) (fun h => ?_)) <;> simp only [h] <;> refine g ?_) | refine ix_ (by omega) (g ?_) | refine call_ (htk) rfl (g ?_) | refine call_ (hbo) rfl (g ?_))
  ·rename_i hb
   rw [if_pos hb, if_neg (by decide), if_neg h] at hR
   exact write_no hR.symm
  ·rename_i hb
   rw [if_pos hb, if_neg (by decide), if_pos (by simpa using h)] at hR
   subst hR
   refine AW.freeze 1900 _ rfl ⟨trivial, trivial, trivial, trivial, hyr, trivial⟩ ?_
   simp only [go_sem, reduceIte, Nat.reduceEqDiff]
   refine AW.drawn (ds := [100, 101, 14]) (fin := [2, 3]) (bs := [2, 2, 2, 3, 4]) [⟨[], [], [0, 1], [], 0⟩, ⟨[], [], [0], [], 0⟩, ⟨[(100, 0)], [], [], [1], 1⟩, ⟨[(101, 1)], [], [], [0], 1⟩, ⟨[], [], [], [], 0⟩] (by kernel_rfl) rfl (by kernel_rfl) rfl rfl rfl fun KD hKD => ?_
   refine g ?_
   repeat' (first | refine st_ rfl (g ?_) | refine hold_ (g ?_) | exact trivial | refine cond_d (fun h => g ?_) (fun h => g ?_) | refine cond_ (fun h => g ?_) (fun h => g ?_) | (refine hKD _ _ ⟨rfl, g ?_⟩; clear hKD KD) | ((first | refine vops_ifd rfl rfl (fun h e => ?_) (fun h e => ?_) | refine vdraw_ifd rfl rfl (fun h e => ?_) (fun h e => ?_)) <;> simp only [e] <;> clear e <;> refine g ?_) | ((first | refine vops_if rfl rfl (fun h => ?_) (fun h => ?_) | refine vdraw_if rfl rfl (fun h => ?_) (fun h => ?_)) <;> simp only [h] <;> refine g ?_) | refine ix_ (by omega) (g ?_))
   exact Sub1.rfl_ _
  ·rw [if_neg h] at hR
   exact write_no hR.symm
  ·omega
end Go.Proofs.YtkphfdmelfhnoaaGreatDoor
namespace Go.Proofs.YtkphfdmelfhnoaaGreatDoor
open Go.ChangeShapes Go.WideShapes Go.ChangeAt Go.RowKit
attribute [local irreducible] AW AWY vops vopsY vop vopL vdraw callW qop binQ lenQ storeQ appendQ callQ ACalls AIter
attribute [local go_sem] enB_eq boI_eq boA_eq enW_eq wrI_eq wA_eq enZ_eq znI_eq vwA_eq storeQ_bp storeQ_rp
theorem span_nn (x y : Operand) (p q : Int) (w : World) : (do eqGuard .neq 78 x y (.agg #[.int .i64 p, .int .i64 q]) (.agg #[.int .i64 p, .int .i64 q]); binOp .neq 78 (.agg #[.int .i64 p, .int .i64 q]) (.agg #[.int .i64 p, .int .i64 q]) : Sem Value).run Tryz.prog w = .ok (.bool false) w := by
 go_simp
theorem write_nn (x y : Operand) (p q r : Int) (b : Bool) (w : World) : (do eqGuard .neq 55 x y (.agg #[.int .i64 p, .int .i64 q, .int .i64 r, .bool b]) (.agg #[.int .i64 p, .int .i64 q, .int .i64 r, .bool b]); binOp .neq 55 (.agg #[.int .i64 p, .int .i64 q, .int .i64 r, .bool b]) (.agg #[.int .i64 p, .int .i64 q, .int .i64 r, .bool b]) : Sem Value).run Tryz.prog w = .ok (.bool false) w := by
 go_simp
set_option maxRecDepth 100000 in
set_option maxHeartbeats 800000 in
theorem rbssame_call (l : List Body) : ACalls Tryz.prog TzTab 87 [.iv (boI l), .iv (boI l)] (.val (.bool true)) [] := by
 refine ACalls.of (n := 27) (rs := [.tmp 4]) Tryz.func87 rfl (by kernel_rfl) Tryz.ntmps87 (by kernel_rfl) (by simp) (fun _ _ => TzTab.later) ?_
 intro hok V w0
 have hlen : l.length ≤ 1073741824 := by simpa [boI] using hok.1.1
 refine g ?_
 repeat' (first | refine st_ rfl (g ?_) | refine hold_ (g ?_) | exact trivial | refine cond_d (fun h => g ?_) (fun h => g ?_) | refine cond_ (fun h => g ?_) (fun h => g ?_) | (refine hKD _ _ ⟨rfl, g ?_⟩; clear hKD KD) | ((first | refine vops_ifd rfl rfl (fun h e => ?_) (fun h e => ?_) | refine vdraw_ifd rfl rfl (fun h e => ?_) (fun h e => ?_)) <;> simp only [e] <;> clear e <;> refine g ?_) | ((first | refine vops_if rfl rfl (fun h => ?_) (fun h => ?_) | refine vdraw_if rfl rfl (fun h => ?_) (fun h => ?_)) <;> simp only [h] <;> refine g ?_) | refine ix_ (by omega) (g ?_))
 refine AW.loop (fun i : {i : Nat // i ≤ l.length} => ⟨[(0, .iv (boI l)), (1, .iv (boI l)), (5, .val (.int .i64 (i.1 : Nat)))], []⟩) (fun i => l.length - i.1) ⟨0, Nat.zero_le _⟩ id ⟨⟨rfl, rfl, rfl, trivial⟩, trivial, List.nodup_nil⟩ fun ⟨i, hi⟩ => ?_
 refine g ?_
 repeat' (first | refine st_ rfl (g ?_) | refine hold_ (g ?_) | exact trivial | refine cond_d (fun h => g ?_) (fun h => g ?_) | refine cond_ (fun h => g ?_) (fun h => g ?_) | (refine hKD _ _ ⟨rfl, g ?_⟩; clear hKD KD) | ((first | refine vops_ifd rfl rfl (fun h e => ?_) (fun h e => ?_) | refine vdraw_ifd rfl rfl (fun h e => ?_) (fun h e => ?_)) <;> simp only [e] <;> clear e <;> refine g ?_) | ((first | refine vops_if rfl rfl (fun h => ?_) (fun h => ?_) | refine vdraw_if rfl rfl (fun h => ?_) (fun h => ?_)) <;> simp only [h] <;> refine g ?_) | refine ix_ (by omega) (g ?_))
 have hlt : i < l.length := by omega
 have hg := get_map (f := enB) (List.getElem?_eq_getElem hlt)
 have hsame := rbosame_call l[i] l[i]
 rw [decide_eq_true rfl] at hsame
 refine AW.drawn (ds := [17, 18, 19, 20, 21, 22, 23, 24, 25, 26]) (fin := []) (bs := [0, 0, 0, 0, 0, 0, 0, 0, 0, 0]) [⟨[], [], [], [], 0⟩, ⟨[], [], [], [], 0⟩, ⟨[(17, 0), (18, 1)], [], [], [], 0⟩, ⟨[(19, 2)], [], [], [], 0⟩, ⟨[], [], [], [], 0⟩, ⟨[], [], [], [], 0⟩, ⟨[(21, 4), (22, 5)], [], [], [], 0⟩, ⟨[(23, 6)], [], [], [], 0⟩, ⟨[(20, 3), (24, 7)], [], [], [], 0⟩, ⟨[(25, 8)], [], [], [], 0⟩] (by kernel_rfl) rfl (by kernel_rfl) rfl rfl rfl fun KD hKD => ?_
 refine g ?_
 repeat' (first | refine st_ rfl (g ?_) | refine hold_ (g ?_) | exact trivial | refine cond_d (fun h => g ?_) (fun h => g ?_) | refine cond_ (fun h => g ?_) (fun h => g ?_) | (refine hKD _ _ ⟨rfl, g ?_⟩; clear hKD KD) | ((first | refine vops_ifd rfl rfl (fun h e => ?_) (fun h e => ?_) | refine vdraw_ifd rfl rfl (fun h e => ?_) (fun h e => ?_)) <;> simp only [e] <;> clear e <;> refine g ?_) | ((first | refine vops_if rfl rfl (fun h => ?_) (fun h => ?_) | refine vdraw_if rfl rfl (fun h => ?_) (fun h => ?_)) <;> simp only [h] <;> refine g ?_) | refine ix_ (by omega) (g ?_) | refine call_ (hsame) rfl (g ?_))
 exact ⟨⟨i + 1, hlt⟩, id, ⟨⟨rfl, rfl, rfl, trivial⟩, trivial, List.nodup_nil⟩, by show l.length - (i + 1) < l.length - i; omega⟩
set_option maxRecDepth 100000 in
set_option maxHeartbeats 800000 in
theorem rwsame_call (l : List Write) : ACalls Tryz.prog TzTab 86 [.iv (wrI l), .iv (wrI l)] (.val (.bool true)) [] := by
 refine ACalls.of (n := 26) (rs := [.tmp 4]) Tryz.func86 rfl (by kernel_rfl) Tryz.ntmps86 (by kernel_rfl) (by simp) (fun _ _ => TzTab.later) ?_
 intro hok V w0
 have hlen : l.length ≤ 1073741824 := by simpa [wrI] using hok.1.1
 refine g ?_
 repeat' (first | refine st_ rfl (g ?_) | refine hold_ (g ?_) | exact trivial | refine cond_d (fun h => g ?_) (fun h => g ?_) | refine cond_ (fun h => g ?_) (fun h => g ?_) | (refine hKD _ _ ⟨rfl, g ?_⟩; clear hKD KD) | ((first | refine vops_ifd rfl rfl (fun h e => ?_) (fun h e => ?_) | refine vdraw_ifd rfl rfl (fun h e => ?_) (fun h e => ?_)) <;> simp only [e] <;> clear e <;> refine g ?_) | ((first | refine vops_if rfl rfl (fun h => ?_) (fun h => ?_) | refine vdraw_if rfl rfl (fun h => ?_) (fun h => ?_)) <;> simp only [h] <;> refine g ?_) | refine ix_ (by omega) (g ?_))
 refine AW.loop (fun i : {i : Nat // i ≤ l.length} => ⟨[(0, .iv (wrI l)), (1, .iv (wrI l)), (5, .val (.int .i64 (i.1 : Nat)))], []⟩) (fun i => l.length - i.1) ⟨0, Nat.zero_le _⟩ id ⟨⟨rfl, rfl, rfl, trivial⟩, trivial, List.nodup_nil⟩ fun ⟨i, hi⟩ => ?_
 refine g ?_
 repeat' (first | refine st_ rfl (g ?_) | refine hold_ (g ?_) | exact trivial | refine cond_d (fun h => g ?_) (fun h => g ?_) | refine cond_ (fun h => g ?_) (fun h => g ?_) | (refine hKD _ _ ⟨rfl, g ?_⟩; clear hKD KD) | ((first | refine vops_ifd rfl rfl (fun h e => ?_) (fun h e => ?_) | refine vdraw_ifd rfl rfl (fun h e => ?_) (fun h e => ?_)) <;> simp only [e] <;> clear e <;> refine g ?_) | ((first | refine vops_if rfl rfl (fun h => ?_) (fun h => ?_) | refine vdraw_if rfl rfl (fun h => ?_) (fun h => ?_)) <;> simp only [h] <;> refine g ?_) | refine ix_ (by omega) (g ?_))
 have hlt : i < l.length := by omega
 have hg := get_map (f := enW) (List.getElem?_eq_getElem hlt)
 refine AW.drawn (ds := [17, 18, 19, 20, 21, 22, 23, 24, 25]) (fin := []) (bs := [0, 0, 0, 0, 0, 0, 0, 0, 0]) [⟨[], [], [], [], 0⟩, ⟨[], [], [], [], 0⟩, ⟨[(17, 0), (18, 1)], [], [], [], 0⟩, ⟨[(19, 2)], [], [], [], 0⟩, ⟨[], [], [], [], 0⟩, ⟨[], [], [], [], 0⟩, ⟨[(21, 4), (22, 5)], [], [], [], 0⟩, ⟨[(23, 6)], [], [], [], 0⟩, ⟨[(20, 3), (24, 7)], [], [], [], 0⟩] (by kernel_rfl) rfl (by kernel_rfl) rfl rfl rfl fun KD hKD => ?_
 refine g ?_
 repeat' (first | refine st_ rfl (g ?_) | refine hold_ (g ?_) | exact trivial | refine cond_d (fun h => g ?_) (fun h => g ?_) | refine cond_ (fun h => g ?_) (fun h => g ?_) | (refine hKD _ _ ⟨rfl, g ?_⟩; clear hKD KD) | ((first | refine vops_ifd rfl rfl (fun h e => ?_) (fun h e => ?_) | refine vdraw_ifd rfl rfl (fun h e => ?_) (fun h e => ?_)) <;> simp only [e] <;> clear e <;> refine g ?_) | ((first | refine vops_if rfl rfl (fun h => ?_) (fun h => ?_) | refine vdraw_if rfl rfl (fun h => ?_) (fun h => ?_)) <;> simp only [h] <;> refine g ?_) | refine ix_ (by omega) (g ?_))
 refine ⟨_, fun u => write_nn _ _ _ _ _ _ u, ?_⟩
 refine g ?_
 repeat' (first | refine st_ rfl (g ?_) | refine hold_ (g ?_) | exact trivial | refine cond_d (fun h => g ?_) (fun h => g ?_) | refine cond_ (fun h => g ?_) (fun h => g ?_) | (refine hKD _ _ ⟨rfl, g ?_⟩; clear hKD KD) | ((first | refine vops_ifd rfl rfl (fun h e => ?_) (fun h e => ?_) | refine vdraw_ifd rfl rfl (fun h e => ?_) (fun h e => ?_)) <;> simp only [e] <;> clear e <;> refine g ?_) | ((first | refine vops_if rfl rfl (fun h => ?_) (fun h => ?_) | refine vdraw_if rfl rfl (fun h => ?_) (fun h => ?_)) <;> simp only [h] <;> refine g ?_) | refine ix_ (by omega) (g ?_))
 exact ⟨⟨i + 1, hlt⟩, id, ⟨⟨rfl, rfl, rfl, trivial⟩, trivial, List.nodup_nil⟩, by show l.length - (i + 1) < l.length - i; omega⟩
set_option maxRecDepth 100000 in
set_option maxHeartbeats 800000 in
theorem rzsame_call (l : List Zone) : ACalls Tryz.prog TzTab 85 [.iv (znI l), .iv (znI l)] (.val (.bool true)) [] := by
 refine ACalls.of (n := 42) (rs := [.tmp 4]) Tryz.func85 rfl (by kernel_rfl) Tryz.ntmps85 (by kernel_rfl) (by simp) (fun _ _ => TzTab.later) ?_
 intro hok V w0
 have hlen : l.length ≤ 1073741824 := by simpa [znI] using hok.1.1
 refine g ?_
 repeat' (first | refine st_ rfl (g ?_) | refine hold_ (g ?_) | exact trivial | refine cond_d (fun h => g ?_) (fun h => g ?_) | refine cond_ (fun h => g ?_) (fun h => g ?_) | (refine hKD _ _ ⟨rfl, g ?_⟩; clear hKD KD) | ((first | refine vops_ifd rfl rfl (fun h e => ?_) (fun h e => ?_) | refine vdraw_ifd rfl rfl (fun h e => ?_) (fun h e => ?_)) <;> simp only [e] <;> clear e <;> refine g ?_) | ((first | refine vops_if rfl rfl (fun h => ?_) (fun h => ?_) | refine vdraw_if rfl rfl (fun h => ?_) (fun h => ?_)) <;> simp only [h] <;> refine g ?_) | refine ix_ (by omega) (g ?_))
 refine AW.loop (fun i : {i : Nat // i ≤ l.length} => ⟨[(0, .iv (znI l)), (1, .iv (znI l)), (5, .val (.int .i64 (i.1 : Nat)))], []⟩) (fun i => l.length - i.1) ⟨0, Nat.zero_le _⟩ id ⟨⟨rfl, rfl, rfl, trivial⟩, trivial, List.nodup_nil⟩ fun ⟨i, hi⟩ => ?_
 refine g ?_
 repeat' (first | refine st_ rfl (g ?_) | refine hold_ (g ?_) | exact trivial | refine cond_d (fun h => g ?_) (fun h => g ?_) | refine cond_ (fun h => g ?_) (fun h => g ?_) | (refine hKD _ _ ⟨rfl, g ?_⟩; clear hKD KD) | ((first | refine vops_ifd rfl rfl (fun h e => ?_) (fun h e => ?_) | refine vdraw_ifd rfl rfl (fun h e => ?_) (fun h e => ?_)) <;> simp only [e] <;> clear e <;> refine g ?_) | ((first | refine vops_if rfl rfl (fun h => ?_) (fun h => ?_) | refine vdraw_if rfl rfl (fun h => ?_) (fun h => ?_)) <;> simp only [h] <;> refine g ?_) | refine ix_ (by omega) (g ?_))
 have hlt : i < l.length := by omega
 have hg := get_map (f := enZ) (List.getElem?_eq_getElem hlt)
 have hsame := rvsame_call l[i].vec l[i].vec
 rw [decide_eq_true rfl] at hsame
 refine AW.drawn (ds := [17, 18, 19, 20, 21, 22, 23, 24, 25, 26, 27, 28, 29, 30, 31, 32, 33, 34, 35, 36, 37, 38, 39, 40, 41]) (fin := []) (bs := [0, 0, 0, 0, 0, 0, 0, 0, 0, 0, 0, 0, 0, 0, 0, 0, 0, 0, 0, 0, 0, 0, 0, 0, 0]) [⟨[], [], [], [], 0⟩, ⟨[], [], [], [], 0⟩, ⟨[(17, 0), (18, 1)], [], [], [], 0⟩, ⟨[(19, 2)], [], [], [], 0⟩, ⟨[(20, 3)], [], [], [], 0⟩, ⟨[], [], [], [], 0⟩, ⟨[], [], [], [], 0⟩, ⟨[(22, 5), (23, 6)], [], [], [], 0⟩, ⟨[(24, 7)], [], [], [], 0⟩, ⟨[(25, 8)], [], [], [], 0⟩, ⟨[(21, 4), (26, 9)], [], [], [], 0⟩, ⟨[(27, 10)], [], [], [], 0⟩, ⟨[], [], [], [], 0⟩, ⟨[], [], [], [], 0⟩, ⟨[(29, 12), (30, 13)], [], [], [], 0⟩, ⟨[(31, 14)], [], [], [], 0⟩, ⟨[(32, 15)], [], [], [], 0⟩, ⟨[], [], [], [], 0⟩, ⟨[], [], [], [], 0⟩, ⟨[(34, 17), (35, 18)], [], [], [], 0⟩, ⟨[(36, 19)], [], [], [], 0⟩, ⟨[(37, 20)], [], [], [], 0⟩, ⟨[(33, 16), (38, 21)], [], [], [], 0⟩, ⟨[(39, 22)], [], [], [], 0⟩, ⟨[(28, 11), (40, 23)], [], [], [], 0⟩] (by kernel_rfl) rfl (by kernel_rfl) rfl rfl rfl fun KD hKD => ?_
 refine g ?_
 repeat' (first | refine st_ rfl (g ?_) | refine hold_ (g ?_) | exact trivial | refine cond_d (fun h => g ?_) (fun h => g ?_) | refine cond_ (fun h => g ?_) (fun h => g ?_) | (refine hKD _ _ ⟨rfl, g ?_⟩; clear hKD KD) | ((first | refine vops_ifd rfl rfl (fun h e => ?_) (fun h e => ?_) | refine vdraw_ifd rfl rfl (fun h e => ?_) (fun h e => ?_)) <;> simp only [e] <;> clear e <;> refine g ?_) | ((first | refine vops_if rfl rfl (fun h => ?_) (fun h => ?_) | refine vdraw_if rfl rfl (fun h => ?_) (fun h => ?_)) <;> simp only [h] <;> refine g ?_) | refine ix_ (by omega) (g ?_) | refine call_ (hsame) rfl (g ?_))
 refine ⟨_, fun u => span_nn _ _ _ _ u, ?_⟩
 refine g ?_
 repeat' (first | refine st_ rfl (g ?_) | refine hold_ (g ?_) | exact trivial | refine cond_d (fun h => g ?_) (fun h => g ?_) | refine cond_ (fun h => g ?_) (fun h => g ?_) | (refine hKD _ _ ⟨rfl, g ?_⟩; clear hKD KD) | ((first | refine vops_ifd rfl rfl (fun h e => ?_) (fun h e => ?_) | refine vdraw_ifd rfl rfl (fun h e => ?_) (fun h e => ?_)) <;> simp only [e] <;> clear e <;> refine g ?_) | ((first | refine vops_if rfl rfl (fun h => ?_) (fun h => ?_) | refine vdraw_if rfl rfl (fun h => ?_) (fun h => ?_)) <;> simp only [h] <;> refine g ?_) | refine ix_ (by omega) (g ?_) | refine call_ (hsame) rfl (g ?_))
 exact ⟨⟨i + 1, hlt⟩, id, ⟨⟨rfl, rfl, rfl, trivial⟩, trivial, List.nodup_nil⟩, by show l.length - (i + 1) < l.length - i; omega⟩
set_option maxRecDepth 100000 in
set_option maxHeartbeats 800000 in
theorem rvwsame_call (v : View) (iR : I64 v.room) : ACalls Tryz.prog TzTab 20 [vwA v, vwA v] (.val (.bool true)) [] := by
 refine ACalls.of (n := 38) (rs := [.tmp 4]) Tryz.func20 rfl (by kernel_rfl) Tryz.ntmps20 (by kernel_rfl) (by simp) (fun _ _ => TzTab.later) ?_
 intro hok V w0
 have hs := rvsame_call v.known v.known
 rw [decide_eq_true rfl] at hs
 refine g ?_
 refine AW.seq ?_
 refine AW.reg rfl fun KK hKK => ?_
 refine g ?_
 repeat' (first | refine hold_ (g ?_) | (refine hKK _ (g ?_); clear hKK KK) | exact trivial)
 refine AW.freeze 300 _ rfl ⟨trivial, trivial, trivial, trivial, iR, trivial⟩ ?_
 simp only [go_sem, reduceIte, Nat.reduceEqDiff]
 refine AW.freeze 400 _ rfl ⟨trivial, trivial, trivial, trivial, iR, trivial⟩ ?_
 simp only [go_sem, reduceIte, Nat.reduceEqDiff]
 refine g ?_
 repeat' (first | refine st_ rfl (g ?_) | refine hold_ (g ?_) | exact trivial | refine cond_d (fun h => g ?_) (fun h => g ?_) | refine cond_ (fun h => g ?_) (fun h => g ?_) | (refine vops_ifd rfl rfl (fun h e => ?_) (fun h e => ?_) <;> simp only [e] <;> clear e <;> refine g ?_) | (refine vops_if rfl rfl (fun h => ?_) (fun h => ?_) <;> simp only [h] <;> refine g ?_) | refine ix_ (by omega) (g ?_) | refine call_ (hs) rfl (g ?_) | refine call_ (rzsame_call _) rfl (g ?_) | refine call_ (rwsame_call _) rfl (g ?_) | refine call_ (rbssame_call _) rfl (g ?_))
 exact decide_eq_true trivial
set_option maxRecDepth 100000 in
theorem rnew_call (room : Int) : ACalls Tryz.prog TzTab 60 [.val (.int .i64 room)] (.tup [vwA (newS room).1, .val (.int .i64 (newS room).2)]) [] := by
 refine ACalls.ofS (n := 13) (rs := [.cell 2 27, .tmp 3]) Tryz.func60 rfl (by kernel_rfl) Tryz.ntmps60 (by kernel_rfl) (by simp) (fun _ _ => TzTab.later) ?_
 intro hok V w0
 obtain ⟨R, hR⟩ : ∃ R, newS room = R := ⟨_, rfl⟩
 rw [hR]
 unfold newS roomB at hR
 refine g ?_
 repeat' (first | refine st_ rfl (g ?_) | refine hold_ (g ?_) | exact trivial | refine cond_d (fun h => g ?_) (fun h => g ?_) | refine cond_ (fun h => g ?_) (fun h => g ?_) | (refine vops_ifd rfl rfl (fun h e => ?_) (fun h e => ?_) <;> simp only [e] <;> clear e <;> refine g ?_) | (refine vops_if rfl rfl (fun h => ?_) (fun h => ?_) <;> simp only [h] <;> refine g ?_) | refine ix_ (by omega) (g ?_))
 ·rw [if_neg (by simp; omega)] at hR
  exact view_no hR.symm
 ·rw [if_neg (by simp; omega)] at hR
  exact view_no hR.symm
 ·rw [if_pos (by simp; omega)] at hR
  subst hR
  exact new_sub room
set_option maxRecDepth 100000 in
theorem rbycopyD (l : List Nat) : ACalls Tryz.prog TzTab 170 [.iv (byI l)] (.iv (byI l)) [] := by
 refine ACalls.ofS (n := 6) (rs := [.tmp 2]) Tryz.func170 rfl (by kernel_rfl) Tryz.ntmps170 (by kernel_rfl) (by simp) (fun _ _ => TzTab.later) ?_
 intro hok V w0
 have hlen : l.length ≤ 1073741824 := by simpa [byI] using hok.1.1
 refine g ?_
 repeat' (first | refine st_ rfl (g ?_) | refine hold_ (g ?_) | exact trivial | refine cond_d (fun h => g ?_) (fun h => g ?_) | refine cond_ (fun h => g ?_) (fun h => g ?_) | (refine vops_ifd rfl rfl (fun h e => ?_) (fun h e => ?_) <;> simp only [e] <;> clear e <;> refine g ?_) | (refine vops_if rfl rfl (fun h => ?_) (fun h => ?_) <;> simp only [h] <;> refine g ?_) | refine ix_ (by omega) (g ?_))
 refine bs0 (by omega) ?_
 refine g ?_
 repeat' (first | refine st_ rfl (g ?_) | refine hold_ (g ?_) | exact trivial | refine cond_d (fun h => g ?_) (fun h => g ?_) | refine cond_ (fun h => g ?_) (fun h => g ?_) | (refine vops_ifd rfl rfl (fun h e => ?_) (fun h e => ?_) <;> simp only [e] <;> clear e <;> refine g ?_) | (refine vops_if rfl rfl (fun h => ?_) (fun h => ?_) <;> simp only [h] <;> refine g ?_) | refine ix_ (by omega) (g ?_))
 refine append_own rfl (by kernel_rfl) (by omega) (by kernel_rfl) rfl (by simpa [byI] using hlen) ?_
 refine g ?_
 repeat' (first | refine hold_ (g ?_) | (refine hKK _ (g ?_); clear hKK KK) | exact trivial)
 refine AW.freeze 600 _ rfl trivial ?_
 simp only [go_sem, reduceIte, Nat.reduceEqDiff]
 refine g ?_
 repeat' (first | refine st_ rfl (g ?_) | refine hold_ (g ?_) | exact trivial | refine cond_d (fun h => g ?_) (fun h => g ?_) | refine cond_ (fun h => g ?_) (fun h => g ?_) | (refine vops_ifd rfl rfl (fun h e => ?_) (fun h e => ?_) <;> simp only [e] <;> clear e <;> refine g ?_) | (refine vops_if rfl rfl (fun h => ?_) (fun h => ?_) <;> simp only [h] <;> refine g ?_) | refine ix_ (by omega) (g ?_))
 exact Sub1.rfl_ _
set_option maxRecDepth 100000 in
theorem rbody_call (x : Body) (i0 : I64 x.object) (i1 : I64 x.stamp.count) (i2 : I64 x.stamp.node) : ACalls Tryz.prog TzTab 84 [boA x] (boA x) [] := by
 refine ACalls.of (n := 11) (rs := [.cell 2 51]) Tryz.func84 rfl (by kernel_rfl) Tryz.ntmps84 (by kernel_rfl) (by simp) (fun _ _ => TzTab.later) ?_
 intro hok V w0
 refine g ?_
 refine AW.seq ?_
 refine AW.reg rfl fun KK hKK => ?_
 refine g ?_
 repeat' (first | refine hold_ (g ?_) | (refine hKK _ (g ?_); clear hKK KK) | exact trivial)
 refine AW.freeze 200 _ rfl ⟨i0, i1, i2, trivial, trivial⟩ ?_
 simp only [go_sem, reduceIte, Nat.reduceEqDiff]
 refine g ?_
 repeat' (first | refine st_ rfl (g ?_) | refine hold_ (g ?_) | exact trivial | refine cond_d (fun h => g ?_) (fun h => g ?_) | refine cond_ (fun h => g ?_) (fun h => g ?_) | (refine hKD _ _ ⟨rfl, g ?_⟩; clear hKD KD) | ((first | refine vops_ifd rfl rfl (fun h e => ?_) (fun h e => ?_) | refine vdraw_ifd rfl rfl (fun h e => ?_) (fun h e => ?_)) <;> simp only [e] <;> clear e <;> refine g ?_) | ((first | refine vops_if rfl rfl (fun h => ?_) (fun h => ?_) | refine vdraw_if rfl rfl (fun h => ?_) (fun h => ?_)) <;> simp only [h] <;> refine g ?_) | refine ix_ (by omega) (g ?_))
 refine AW.drawn (ds := [3, 4, 5, 6, 7, 8, 9, 10]) (fin := [1]) (bs := [1, 1, 1, 1, 1, 1, 1, 1, 1]) [⟨[], [], [], [], 0⟩, ⟨[(3, 0)], [], [0], [], 0⟩, ⟨[], [], [], [], 0⟩, ⟨[(5, 2)], [], [0], [], 0⟩, ⟨[], [], [], [], 0⟩, ⟨[(7, 4)], [], [0], [], 0⟩, ⟨[(8, 5)], [], [0], [], 0⟩, ⟨[(4, 1), (6, 3), (9, 6)], [], [], [], 0⟩, ⟨[(10, 7)], [], [], [0], 1⟩] (by kernel_rfl) rfl (by kernel_rfl) rfl rfl rfl fun KD hKD => ?_
 refine g ?_
 repeat' (first | refine st_ rfl (g ?_) | refine hold_ (g ?_) | exact trivial | refine cond_d (fun h => g ?_) (fun h => g ?_) | refine cond_ (fun h => g ?_) (fun h => g ?_) | (refine hKD _ _ ⟨rfl, g ?_⟩; clear hKD KD) | ((first | refine vops_ifd rfl rfl (fun h e => ?_) (fun h e => ?_) | refine vdraw_ifd rfl rfl (fun h e => ?_) (fun h e => ?_)) <;> simp only [e] <;> clear e <;> refine g ?_) | ((first | refine vops_if rfl rfl (fun h => ?_) (fun h => ?_) | refine vdraw_if rfl rfl (fun h => ?_) (fun h => ?_)) <;> simp only [h] <;> refine g ?_) | refine ix_ (by omega) (g ?_) | refine call_ (rbycopyD _) rfl (g ?_))
end Go.Proofs.YtkphfdmelfhnoaaGreatDoor
namespace Go.Proofs.YtkphfdmelfhnoaaGreatDoor
open Go.ChangeShapes Go.WideShapes Go.ChangeAt Go.RowKit
attribute [local irreducible] AW AWY vops vopsY vop vopL vdraw callW qop binQ lenQ storeQ appendQ callQ ACalls AIter
attribute [local go_sem] enB_eq boI_eq boA_eq enW_eq wrI_eq wA_eq enZ_eq znI_eq vwA_eq storeQ_bp storeQ_rp
set_option maxRecDepth 100000 in
theorem rbscopy_call (l : List Body) : ACalls Tryz.prog TzTab 67 [.iv (boI l)] (.iv (boI l)) [] := by
 refine ACalls.of (n := 20) (rs := [.tmp 2]) Tryz.func67 rfl (by kernel_rfl) Tryz.ntmps67 (by kernel_rfl) (by simp) (fun _ _ => TzTab.later) ?_
 intro hok V w0
 have hlen : l.length ≤ 1073741824 := by simpa [boI] using hok.1.1
 refine g ?_
 repeat' (first | refine st_ rfl (g ?_) | refine hold_ (g ?_) | exact trivial | refine cond_d (fun h => g ?_) (fun h => g ?_) | refine cond_ (fun h => g ?_) (fun h => g ?_) | (refine vops_ifd rfl rfl (fun h e => ?_) (fun h e => ?_) <;> simp only [e] <;> clear e <;> refine g ?_) | (refine vops_if rfl rfl (fun h => ?_) (fun h => ?_) <;> simp only [h] <;> refine g ?_) | refine ix_ (by omega) (g ?_))
 refine AW.adopt 3 9900 51 4 rfl rfl ?_
 refine AW.loop (fun i : {i : Nat // i ≤ l.length} => ⟨[(0, .iv (boI l)), (3, .own 9900), (4, .val (.int .i64 (i.1 : Nat)))], [.row 9900 51 4 ((l.take i.1).map enB)]⟩) (fun i => l.length - i.1) ⟨0, Nat.zero_le _⟩ id ⟨⟨rfl, rfl, rfl, trivial⟩, ⟨rfl, trivial⟩, by simp [idsOf, BA.id]⟩ fun ⟨i, hi⟩ => ?_
 repeat (refine AW.seq ?_)
 refine AW.reg rfl fun KK hKK => ?_
 refine g ?_
 repeat' (first | refine hold_ (g ?_) | (refine hKK _ (g ?_); clear hKK KK) | exact trivial)
 repeat (refine AW.seq ?_)
 refine st_ rfl ?_
 refine g ?_
 refine cond_ (fun h => ?_) (fun h => ?_)
 ·have hlt : i < l.length := by have := of_decide_eq_true h; omega
  obtain ⟨-, o1, o2, o3, -⟩ := okR_mem (by simpa [boI] using hok.1.2) (enB l[i]) (List.mem_map_of_mem (List.getElem_mem hlt))
  refine g ?_
  repeat' (first | refine st_ rfl (g ?_) | refine hold_ (g ?_) | exact trivial | refine cond_ (fun h => g ?_) (fun h => g ?_))
  refine ⟨by omega, _, get_map (List.getElem?_eq_getElem hlt), ?_⟩
  refine g ?_
  repeat' (first | refine st_ rfl (g ?_) | refine hold_ (g ?_) | exact trivial | refine cond_ (fun h => g ?_) (fun h => g ?_))
  refine call_ (rbody_call l[i] o1 o2 o3) rfl ?_
  refine g ?_
  repeat' (first | refine st_ rfl (g ?_) | refine hold_ (g ?_) | exact trivial | refine cond_ (fun h => g ?_) (fun h => g ?_))
  refine bs1 (by omega) rfl rfl rfl ⟨o1, o2, o3, trivial, trivial⟩ ?_
  refine g ?_
  repeat' (first | refine st_ rfl (g ?_) | refine hold_ (g ?_) | exact trivial | refine cond_ (fun h => g ?_) (fun h => g ?_))
  refine append_own rfl (by kernel_rfl) (by omega) (by kernel_rfl) rfl (by simp; omega) ?_
  refine g ?_
  repeat' (first | refine st_ rfl (g ?_) | refine hold_ (g ?_) | exact trivial | refine cond_ (fun h => g ?_) (fun h => g ?_))
  refine ⟨⟨i + 1, hlt⟩, fun b => if b = 9900 then 1900 else b, ⟨⟨rfl, rfl, rfl, trivial⟩, ⟨?_, trivial⟩, by simp [idsOf, BA.id]⟩, by show l.length - (i + 1) < l.length - i; omega⟩
  show some (BA.row _ _ _ _) = some (BA.row _ _ _ ((l.take (i + 1)).map enB))
  rw [List.take_succ_eq_append_getElem hlt, List.map_append]
  rfl
 ·obtain rfl : i = l.length := by have := of_decide_eq_false h; omega
  refine AW.freeze 9900 _ rfl trivial ?_
  simp only [go_sem, reduceIte, Nat.reduceEqDiff]
  rw [List.take_length]
  refine g ?_
  repeat' (first | refine st_ rfl (g ?_) | refine hold_ (g ?_) | exact trivial | refine cond_d (fun h => g ?_) (fun h => g ?_) | refine cond_ (fun h => g ?_) (fun h => g ?_) | (refine vops_ifd rfl rfl (fun h e => ?_) (fun h e => ?_) <;> simp only [e] <;> clear e <;> refine g ?_) | (refine vops_if rfl rfl (fun h => ?_) (fun h => ?_) <;> simp only [h] <;> refine g ?_) | refine ix_ (by omega) (g ?_))
set_option maxRecDepth 100000 in
theorem rzcopy_call (l : List Zone) : ACalls Tryz.prog TzTab 66 [.iv (znI l)] (.iv (znI l)) [] := by
 refine ACalls.of (n := 27) (rs := [.tmp 2]) Tryz.func66 rfl (by kernel_rfl) Tryz.ntmps66 (by kernel_rfl) (by simp) (fun _ _ => TzTab.later) ?_
 intro hok V w0
 have hlen : l.length ≤ 1073741824 := by simpa [znI] using hok.1.1
 refine g ?_
 repeat' (first | refine st_ rfl (g ?_) | refine hold_ (g ?_) | exact trivial | refine cond_d (fun h => g ?_) (fun h => g ?_) | refine cond_ (fun h => g ?_) (fun h => g ?_) | (refine hKD _ _ ⟨rfl, g ?_⟩; clear hKD KD) | ((first | refine vops_ifd rfl rfl (fun h e => ?_) (fun h e => ?_) | refine vdraw_ifd rfl rfl (fun h e => ?_) (fun h e => ?_)) <;> simp only [e] <;> clear e <;> refine g ?_) | ((first | refine vops_if rfl rfl (fun h => ?_) (fun h => ?_) | refine vdraw_if rfl rfl (fun h => ?_) (fun h => ?_)) <;> simp only [h] <;> refine g ?_) | refine ix_ (by omega) (g ?_))
 refine AW.adopt 3 9900 147 3 rfl rfl ?_
 refine AW.loop (fun i : {i : Nat // i ≤ l.length} => ⟨[(0, .iv (znI l)), (3, .own 9900), (4, .val (.int .i64 (i.1 : Nat)))], [.row 9900 147 3 ((l.take i.1).map enZ)]⟩) (fun i => l.length - i.1) ⟨0, Nat.zero_le _⟩ id ⟨⟨rfl, rfl, rfl, trivial⟩, ⟨rfl, trivial⟩, by simp [idsOf, BA.id]⟩ fun ⟨i, hi⟩ => ?_
 repeat (refine AW.seq ?_)
 refine AW.reg rfl fun KK hKK => ?_
 refine g ?_
 repeat' (first | refine hold_ (g ?_) | (refine hKK _ (g ?_); clear hKK KK) | exact trivial)
 repeat (refine AW.seq ?_)
 refine st_ rfl ?_
 refine g ?_
 refine cond_ (fun h => ?_) (fun h => ?_)
 ·have hlt : i < l.length := by have := of_decide_eq_true h; omega
  obtain ⟨-, o1, o2, -⟩ := okR_mem (by simpa [znI] using hok.1.2) (enZ l[i]) (List.mem_map_of_mem (List.getElem_mem hlt))
  have hget := get_map (f := enZ) (List.getElem?_eq_getElem hlt)
  refine g ?_
  repeat' (first | refine st_ rfl (g ?_) | refine hold_ (g ?_) | exact trivial | refine cond_ (fun h => g ?_) (fun h => g ?_) | (refine hKD _ _ ⟨rfl, g ?_⟩; clear hKD KD))
  refine AW.drawn (ds := [11, 12, 13, 14, 15, 16, 17, 18, 19, 20, 21, 22, 23, 24, 25, 3]) (fin := [1, 2]) (bs := [1, 1, 1, 1, 1, 1, 1, 1, 1, 1, 1, 1, 1, 1, 2, 3]) [⟨[], [3], [], [], 0⟩, ⟨[], [], [], [], 0⟩, ⟨[], [], [], [], 0⟩, ⟨[(12, 1), (13, 2)], [], [0], [], 0⟩, ⟨[(14, 3)], [], [], [], 0⟩, ⟨[(15, 4)], [], [0], [], 0⟩, ⟨[], [], [], [], 0⟩, ⟨[], [], [], [], 0⟩, ⟨[(17, 6), (18, 7)], [], [0], [], 0⟩, ⟨[(19, 8)], [], [], [], 0⟩, ⟨[(20, 9)], [], [0], [], 0⟩, ⟨[(21, 10)], [], [0], [], 0⟩, ⟨[(16, 5), (22, 11)], [], [], [], 0⟩, ⟨[(23, 12)], [], [], [], 1⟩, ⟨[(11, 0), (24, 13)], [], [1], [0], 1⟩, ⟨[(25, 14)], [], [], [], 0⟩] (by kernel_rfl) rfl (by kernel_rfl) rfl rfl rfl fun KD hKD => ?_
  refine g ?_
  repeat' (first | refine st_ rfl (g ?_) | refine hold_ (g ?_) | exact trivial | refine cond_d (fun h => g ?_) (fun h => g ?_) | refine cond_ (fun h => g ?_) (fun h => g ?_) | (refine hKD _ _ ⟨rfl, g ?_⟩; clear hKD KD) | ((first | refine vops_ifd rfl rfl (fun h e => ?_) (fun h e => ?_) | refine vdraw_ifd rfl rfl (fun h e => ?_) (fun h e => ?_)) <;> simp only [e] <;> clear e <;> refine g ?_) | ((first | refine vops_if rfl rfl (fun h => ?_) (fun h => ?_) | refine vdraw_if rfl rfl (fun h => ?_) (fun h => ?_)) <;> simp only [h] <;> refine g ?_) | refine ix_ (by omega) (g ?_) | refine call_ (rvcopyD _) rfl (g ?_))
  refine bs1 (by omega) rfl rfl rfl ⟨o1, o2, trivial, trivial⟩ ?_
  refine g ?_
  repeat' (first | refine hold_ (g ?_) | (refine hKD _ _ ⟨rfl, g ?_⟩; clear hKD KD) | exact trivial)
  refine append_own rfl (by kernel_rfl) (by omega) (by kernel_rfl) rfl (by simp; omega) ?_
  refine g ?_
  repeat' (first | refine st_ rfl (g ?_) | refine hold_ (g ?_) | exact trivial | refine cond_d (fun h => g ?_) (fun h => g ?_) | refine cond_ (fun h => g ?_) (fun h => g ?_) | (refine hKD _ _ ⟨rfl, g ?_⟩; clear hKD KD) | ((first | refine vops_ifd rfl rfl (fun h e => ?_) (fun h e => ?_) | refine vdraw_ifd rfl rfl (fun h e => ?_) (fun h e => ?_)) <;> simp only [e] <;> clear e <;> refine g ?_) | ((first | refine vops_if rfl rfl (fun h => ?_) (fun h => ?_) | refine vdraw_if rfl rfl (fun h => ?_) (fun h => ?_)) <;> simp only [h] <;> refine g ?_) | refine ix_ (by omega) (g ?_))
  refine ⟨⟨i + 1, hlt⟩, fun b => if b = 9900 then 2600 else b, ⟨⟨rfl, rfl, rfl, trivial⟩, ⟨?_, trivial⟩, by simp [idsOf, BA.id]⟩, by show l.length - (i + 1) < l.length - i; omega⟩
  show some (BA.row _ _ _ _) = some (BA.row _ _ _ ((l.take (i + 1)).map enZ))
  rw [List.take_succ_eq_append_getElem hlt, List.map_append]
  rfl
 ·obtain rfl : i = l.length := by have := of_decide_eq_false h; omega
  refine AW.freeze 9900 _ rfl trivial ?_
  simp only [go_sem, reduceIte, Nat.reduceEqDiff]
  rw [List.take_length]
  refine g ?_
  repeat' (first | refine st_ rfl (g ?_) | refine hold_ (g ?_) | exact trivial | refine cond_d (fun h => g ?_) (fun h => g ?_) | refine cond_ (fun h => g ?_) (fun h => g ?_) | (refine hKD _ _ ⟨rfl, g ?_⟩; clear hKD KD) | ((first | refine vops_ifd rfl rfl (fun h e => ?_) (fun h e => ?_) | refine vdraw_ifd rfl rfl (fun h e => ?_) (fun h e => ?_)) <;> simp only [e] <;> clear e <;> refine g ?_) | ((first | refine vops_if rfl rfl (fun h => ?_) (fun h => ?_) | refine vdraw_if rfl rfl (fun h => ?_) (fun h => ?_)) <;> simp only [h] <;> refine g ?_) | refine ix_ (by omega) (g ?_))
set_option maxRecDepth 100000 in
set_option maxHeartbeats 800000 in
theorem rvwcopy_call (v : View) (iR : I64 v.room) : ACalls Tryz.prog TzTab 16 [vwA v] (vwA v) [] := by
 refine ACalls.ofS (n := 19) (rs := [.cell 2 27]) Tryz.func16 rfl (by kernel_rfl) Tryz.ntmps16 (by kernel_rfl) (by simp) (fun _ _ => TzTab.later) ?_
 intro hok V w0
 have hlen : v.held.length ≤ 1073741824 := by simpa [wrI] using hok.1.2.2.1.1
 refine g ?_
 refine AW.seq ?_
 refine AW.reg rfl fun KK hKK => ?_
 refine g ?_
 repeat' (first | refine hold_ (g ?_) | (refine hKK _ (g ?_); clear hKK KK) | exact trivial)
 refine AW.freeze 200 _ rfl ⟨trivial, trivial, trivial, trivial, iR, trivial⟩ ?_
 simp only [go_sem, reduceIte, Nat.reduceEqDiff]
 refine g ?_
 repeat' (first | refine st_ rfl (g ?_) | refine hold_ (g ?_) | exact trivial | refine cond_d (fun h => g ?_) (fun h => g ?_) | refine cond_ (fun h => g ?_) (fun h => g ?_) | (refine hKD _ _ ⟨rfl, g ?_⟩; clear hKD KD) | ((first | refine vops_ifd rfl rfl (fun h e => ?_) (fun h e => ?_) | refine vdraw_ifd rfl rfl (fun h e => ?_) (fun h e => ?_)) <;> simp only [e] <;> clear e <;> refine g ?_) | ((first | refine vops_if rfl rfl (fun h => ?_) (fun h => ?_) | refine vdraw_if rfl rfl (fun h => ?_) (fun h => ?_)) <;> simp only [h] <;> refine g ?_) | refine ix_ (by omega) (g ?_))
 refine AW.drawn (ds := [3, 4, 5, 6, 7, 8, 9, 10, 11, 12, 13, 14, 15, 16, 17, 18]) (fin := [2, 3]) (bs := [1, 1, 1, 1, 1, 1, 1, 2, 2, 2, 3, 3, 3, 3, 3, 3, 3]) [⟨[], [], [], [], 0⟩, ⟨[(3, 0)], [], [0], [], 0⟩, ⟨[(4, 1)], [], [0], [], 0⟩, ⟨[], [], [], [], 0⟩, ⟨[(6, 3)], [], [0], [], 0⟩, ⟨[(7, 4)], [], [0], [], 0⟩, ⟨[], [], [], [], 1⟩, ⟨[], [], [], [], 0⟩, ⟨[(10, 7)], [], [0], [], 0⟩, ⟨[(9, 6), (11, 8)], [], [0], [1], 1⟩, ⟨[], [], [], [], 0⟩, ⟨[(13, 10)], [], [0], [], 0⟩, ⟨[(14, 11)], [], [0, 2], [], 0⟩, ⟨[], [], [], [], 0⟩, ⟨[(16, 13)], [], [0], [], 0⟩, ⟨[(5, 2), (8, 5), (12, 9), (15, 12), (17, 14)], [], [], [], 0⟩, ⟨[(18, 15)], [], [], [0], 1⟩] (by kernel_rfl) rfl (by kernel_rfl) rfl rfl rfl fun KD hKD => ?_
 refine g ?_
 repeat' (first | refine st_ rfl (g ?_) | refine hold_ (g ?_) | exact trivial | refine cond_d (fun h => g ?_) (fun h => g ?_) | refine cond_ (fun h => g ?_) (fun h => g ?_) | (refine hKD _ _ ⟨rfl, g ?_⟩; clear hKD KD) | ((first | refine vops_ifd rfl rfl (fun h e => ?_) (fun h e => ?_) | refine vdraw_ifd rfl rfl (fun h e => ?_) (fun h e => ?_)) <;> simp only [e] <;> clear e <;> refine g ?_) | ((first | refine vops_if rfl rfl (fun h => ?_) (fun h => ?_) | refine vdraw_if rfl rfl (fun h => ?_) (fun h => ?_)) <;> simp only [h] <;> refine g ?_) | refine ix_ (by omega) (g ?_) | refine call_ (rvcopyD _) rfl (g ?_) | refine call_ (rzcopy_call _) rfl (g ?_))
 refine bs0 (by omega) ?_
 refine g ?_
 repeat' (first | refine hold_ (g ?_) | (refine hKD _ _ ⟨rfl, g ?_⟩; clear hKD KD) | exact trivial)
 refine append_own rfl (by kernel_rfl) (by omega) (by kernel_rfl) rfl (by simpa using hlen) ?_
 refine g ?_
 repeat' (first | refine hold_ (g ?_) | (refine hKD _ _ ⟨rfl, g ?_⟩; clear hKD KD) | exact trivial)
 refine call_ (rbscopy_call _) rfl ?_
 refine g ?_
 repeat' (first | refine hold_ (g ?_) | (refine hKD _ _ ⟨rfl, g ?_⟩; clear hKD KD) | exact trivial)
 refine AW.freeze 1300 _ rfl trivial ?_
 simp only [go_sem, reduceIte, Nat.reduceEqDiff]
 refine g ?_
 repeat' (first | refine st_ rfl (g ?_) | refine hold_ (g ?_) | exact trivial | refine cond_d (fun h => g ?_) (fun h => g ?_) | refine cond_ (fun h => g ?_) (fun h => g ?_) | (refine hKD _ _ ⟨rfl, g ?_⟩; clear hKD KD) | ((first | refine vops_ifd rfl rfl (fun h e => ?_) (fun h e => ?_) | refine vdraw_ifd rfl rfl (fun h e => ?_) (fun h e => ?_)) <;> simp only [e] <;> clear e <;> refine g ?_) | ((first | refine vops_if rfl rfl (fun h => ?_) (fun h => ?_) | refine vdraw_if rfl rfl (fun h => ?_) (fun h => ?_)) <;> simp only [h] <;> refine g ?_) | refine ix_ (by omega) (g ?_))
 exact Sub1.rfl_ _
end Go.Proofs.YtkphfdmelfhnoaaGreatDoor
namespace Go.Proofs.YtkphfdmelfhnoaaGreatDoor
open Go.ChangeShapes Go.WideShapes Go.ChangeAt Go.RowKit
attribute [local irreducible] AW AWY vops vopsY vop vopL vdraw callW qop binQ lenQ storeQ appendQ callQ ACalls AIter
attribute [local go_sem] enB_eq boI_eq boA_eq storeQ_bp storeQ_rp
set_option maxRecDepth 100000 in
theorem rforget_call (l : List Body) (o : Int) : ACalls Tryz.prog TzTab 219 [.iv (boI l), .val (.int .i64 o)] (.own 0) [.row 0 51 4 ((forgetB l o).map enB)] := by
 refine ACalls.ofS (n := 29) (rs := [.tmp 4]) Tryz.func219 rfl (by kernel_rfl) Tryz.ntmps219 (by kernel_rfl) (by simp) (fun _ _ => TzTab.later) ?_
 intro hok V w0
 have hlen : l.length ≤ 1073741824 := by simpa [boI] using hok.1.1
 refine g ?_
 repeat' (first | refine st_ rfl (g ?_) | refine hold_ (g ?_) | exact trivial | refine cond_d (fun h => g ?_) (fun h => g ?_) | refine cond_ (fun h => g ?_) (fun h => g ?_) | (refine vops_ifd rfl rfl (fun h e => ?_) (fun h e => ?_) <;> simp only [e] <;> clear e <;> refine g ?_) | (refine vops_if rfl rfl (fun h => ?_) (fun h => ?_) <;> simp only [h] <;> refine g ?_) | refine ix_ (by omega) (g ?_))
 refine AW.adopt 5 9900 51 4 rfl rfl ?_
 refine AW.loop (fun m : {m : Nat // m ≤ l.length} => ⟨[(0, .iv (boI l)), (1, .val (.int .i64 o)), (5, .own 9900), (6, .val (.int .i64 (m.1 : Nat)))], [.row 9900 51 4 ((forgetB (l.take m.1) o).map enB)]⟩) (fun m => l.length - m.1) ⟨0, Nat.zero_le _⟩ id ⟨⟨rfl, rfl, rfl, rfl, trivial⟩, ⟨rfl, trivial⟩, by simp [idsOf, BA.id]⟩ fun ⟨m, hm⟩ => ?_
 simp only
 have hfl : (forgetB (l.take m) o).length ≤ m := by
  have := List.length_filter_le (fun x : Body => !decide (x.object = o)) (l.take m)
  rw [List.length_take] at this
  unfold forgetB
  omega
 repeat (refine AW.seq ?_)
 refine AW.reg rfl fun KK hKK => ?_
 refine g ?_
 repeat' (first | refine hold_ (g ?_) | (refine hKK _ (g ?_); clear hKK KK) | exact trivial)
 repeat (refine AW.seq ?_)
 refine st_ rfl ?_
 refine g ?_
 refine cond_ (fun h => ?_) (fun h => ?_)
 ·have hlt : m < l.length := by have := of_decide_eq_true h; omega
  obtain ⟨-, o1, o2, o3, -⟩ := okR_mem (by simpa [boI] using hok.1.2) (enB l[m]) (List.mem_map_of_mem (List.getElem_mem hlt))
  have hs : forgetB (l.take (m + 1)) o = forgetB (l.take m) o ++ if l[m].object = o then [] else [l[m]] := by
   unfold forgetB
   rw [List.take_succ_eq_append_getElem hlt, List.filter_append]
   by_cases e : l[m].object = o <;> simp [e]
  refine g ?_
  repeat' (first | refine st_ rfl (g ?_) | refine hold_ (g ?_) | exact trivial | refine cond_d (fun h => g ?_) (fun h => g ?_) | refine cond_ (fun h => g ?_) (fun h => g ?_) | (refine vops_ifd rfl rfl (fun h e => ?_) (fun h e => ?_) <;> simp only [e] <;> clear e <;> refine g ?_) | (refine vops_if rfl rfl (fun h => ?_) (fun h => ?_) <;> simp only [h] <;> refine g ?_) | refine ix_ (by omega) (g ?_) | refine call_ (rbody_call l[m] o1 o2 o3) rfl (g ?_))
  ·refine bs1 (by omega) rfl rfl rfl ⟨o1, o2, o3, trivial, trivial⟩ ?_
   refine g ?_
   repeat' (first | refine st_ rfl (g ?_) | refine hold_ (g ?_) | exact trivial | refine cond_d (fun h => g ?_) (fun h => g ?_) | refine cond_ (fun h => g ?_) (fun h => g ?_) | (refine vops_ifd rfl rfl (fun h e => ?_) (fun h e => ?_) <;> simp only [e] <;> clear e <;> refine g ?_) | (refine vops_if rfl rfl (fun h => ?_) (fun h => ?_) <;> simp only [h] <;> refine g ?_) | refine ix_ (by omega) (g ?_))
   refine append_own rfl (by kernel_rfl) (by omega) (by kernel_rfl) rfl (by simp; omega) ?_
   refine g ?_
   repeat' (first | refine st_ rfl (g ?_) | refine hold_ (g ?_) | exact trivial | refine cond_d (fun h => g ?_) (fun h => g ?_) | refine cond_ (fun h => g ?_) (fun h => g ?_) | (refine vops_ifd rfl rfl (fun h e => ?_) (fun h e => ?_) <;> simp only [e] <;> clear e <;> refine g ?_) | (refine vops_if rfl rfl (fun h => ?_) (fun h => ?_) <;> simp only [h] <;> refine g ?_) | refine ix_ (by omega) (g ?_))
   refine ⟨⟨m + 1, hlt⟩, fun b => if b = 9900 then 2800 else b, ⟨⟨rfl, rfl, rfl, rfl, trivial⟩, ⟨?_, trivial⟩, by simp [idsOf, BA.id]⟩, by show l.length - (m + 1) < l.length - m; omega⟩
   rw [hs, if_neg h, List.map_append]
   rfl
  ·refine ⟨⟨m + 1, hlt⟩, id, ⟨⟨rfl, rfl, rfl, rfl, trivial⟩, ⟨?_, trivial⟩, by simp [idsOf, BA.id]⟩, by show l.length - (m + 1) < l.length - m; omega⟩
   rw [hs, if_pos (Decidable.of_not_not h), List.append_nil]
   rfl
 ·obtain rfl : m = l.length := by have := of_decide_eq_false h; omega
  rw [List.take_length]
  refine g ?_
  repeat' (first | refine st_ rfl (g ?_) | refine hold_ (g ?_) | exact trivial | refine cond_d (fun h => g ?_) (fun h => g ?_) | refine cond_ (fun h => g ?_) (fun h => g ?_) | (refine vops_ifd rfl rfl (fun h e => ?_) (fun h e => ?_) <;> simp only [e] <;> clear e <;> refine g ?_) | (refine vops_if rfl rfl (fun h => ?_) (fun h => ?_) <;> simp only [h] <;> refine g ?_) | refine ix_ (by omega) (g ?_))
  exact ⟨fun b => if b = 0 then 9900 else b, fun _ _ _ h => h, rfl, by simp⟩
theorem find_none_step {l : List Body} {m : Nat} {o : Int} {s : Stamp} (h : m < l.length) (ht : ∀ x ∈ l.take m, isB o s x = false) (hx : isB o s l[m] = false) : ∀ x ∈ l.take (m + 1), isB o s x = false := fun x hx2 => by
 rw [List.take_succ_eq_append_getElem h] at hx2
 rcases List.mem_append.1 hx2 with h1 | h1
 ·exact ht x h1
 ·rw [List.mem_singleton.1 h1]; exact hx
theorem find_take {l : List Body} {m : Nat} {o : Int} {s : Stamp} (h : m < l.length) (ht : ∀ x ∈ l.take m, isB o s x = false) (hx : isB o s l[m] = true) : l.find? (isB o s) = some l[m] := by
 conv => lhs; rw [← List.take_append_drop m l, List.drop_eq_getElem_cons h]
 rw [List.find?_append, List.find?_eq_none.2 fun x hx => by rw [ht x hx]; simp, Option.none_or]
 simp only [List.find?_cons, hx]
set_option maxRecDepth 100000 in
theorem rcget_call (l : List Body) (o : Int) (s : Stamp) (i1 : I64 s.count) (i2 : I64 s.node) : ACalls Tryz.prog TzTab 112 [.iv (boI l), .val (.int .i64 o), .agg [.val (.int .i64 s.count), .val (.int .i64 s.node)]] (.tup [.iv (byI (getB l o s).1), .val (.int .i64 (getB l o s).2)]) [] := by
 refine ACalls.ofS (n := 37) (rs := [.tmp 6, .tmp 7]) Tryz.func112 rfl (by kernel_rfl) Tryz.ntmps112 (by kernel_rfl) (by simp) (fun _ _ => TzTab.later) ?_
 intro hok V w0
 have hlen : l.length ≤ 1073741824 := by simpa [boI] using hok.1.1
 obtain ⟨R, hR⟩ : ∃ R, getB l o s = R := ⟨_, rfl⟩
 rw [hR]
 unfold getB at hR
 refine g ?_
 refine AW.seq ?_
 refine AW.reg rfl fun KK hKK => ?_
 refine g ?_
 repeat' (first | refine hold_ (g ?_) | (refine hKK _ (g ?_); clear hKK KK) | exact trivial)
 refine AW.freeze 600 _ rfl ⟨i1, i2, trivial⟩ ?_
 simp only [go_sem, reduceIte, Nat.reduceEqDiff]
 refine g ?_
 repeat' (first | refine st_ rfl (g ?_) | refine hold_ (g ?_) | exact trivial | refine cond_d (fun h => g ?_) (fun h => g ?_) | refine cond_ (fun h => g ?_) (fun h => g ?_) | (refine hKD _ _ ⟨rfl, g ?_⟩; clear hKD KD) | ((first | refine vops_ifd rfl rfl (fun h e => ?_) (fun h e => ?_) | refine vdraw_ifd rfl rfl (fun h e => ?_) (fun h e => ?_)) <;> simp only [e] <;> clear e <;> refine g ?_) | ((first | refine vops_if rfl rfl (fun h => ?_) (fun h => ?_) | refine vdraw_if rfl rfl (fun h => ?_) (fun h => ?_)) <;> simp only [h] <;> refine g ?_) | refine ix_ (by omega) (g ?_))
 refine AW.loop (fun m : {m : Nat // m ≤ l.length ∧ ∀ x ∈ l.take m, isB o s x = false} => ⟨[(0, .iv (boI l)), (1, .val (.int .i64 o)), (5, .ip [.val (.int .i64 s.count), .val (.int .i64 s.node)]), (8, .val (.int .i64 (m.1 : Nat)))], []⟩) (fun m => l.length - m.1) ⟨0, Nat.zero_le _, fun x hx => by simp at hx⟩ id ⟨⟨rfl, rfl, rfl, rfl, trivial⟩, trivial, List.nodup_nil⟩ fun ⟨m, hm, ht⟩ => ?_
 simp only
 repeat (refine AW.seq ?_)
 refine AW.reg rfl fun KK hKK => ?_
 refine g ?_
 repeat' (first | refine hold_ (g ?_) | (refine hKK _ (g ?_); clear hKK KK) | exact trivial)
 repeat (refine AW.seq ?_)
 refine st_ rfl ?_
 refine g ?_
 refine cond_ (fun h => ?_) (fun h => ?_)
 ·have hlt : m < l.length := by have := of_decide_eq_true h; omega
  refine g ?_
  repeat' (first | refine st_ rfl (g ?_) | refine hold_ (g ?_) | exact trivial | refine cond_d (fun h => g ?_) (fun h => g ?_) | refine cond_ (fun h => g ?_) (fun h => g ?_) | (refine hKD _ _ ⟨rfl, g ?_⟩; clear hKD KD) | ((first | refine vops_ifd rfl rfl (fun h e => ?_) (fun h e => ?_) | refine vdraw_ifd rfl rfl (fun h e => ?_) (fun h e => ?_)) <;> simp only [e] <;> clear e <;> refine g ?_) | ((first | refine vops_if rfl rfl (fun h => ?_) (fun h => ?_) | refine vdraw_if rfl rfl (fun h => ?_) (fun h => ?_)) <;> simp only [h] <;> refine g ?_) | refine ix_ (by omega) (g ?_))
  refine AW.drawn (ds := [15, 16, 17, 18, 19, 20, 21, 22, 23, 24, 25, 26, 27, 28, 29, 30]) (fin := []) (bs := [0, 0, 0, 0, 0, 0, 0, 0, 0, 0, 0, 0, 0, 0, 0, 0]) [⟨[], [], [], [], 0⟩, ⟨[], [], [], [], 0⟩, ⟨[(15, 0), (16, 1)], [], [], [], 0⟩, ⟨[(17, 2)], [], [], [], 0⟩, ⟨[(18, 3)], [], [], [], 0⟩, ⟨[], [], [], [], 0⟩, ⟨[(19, 4), (20, 5)], [], [], [], 0⟩, ⟨[(21, 6)], [], [], [], 0⟩, ⟨[], [], [], [], 0⟩, ⟨[], [], [], [], 0⟩, ⟨[(23, 8), (24, 9)], [], [], [], 0⟩, ⟨[(25, 10)], [], [], [], 0⟩, ⟨[(26, 11)], [], [], [], 0⟩, ⟨[], [], [], [], 0⟩, ⟨[(27, 12), (28, 13)], [], [], [], 0⟩, ⟨[(22, 7), (29, 14)], [], [], [], 0⟩] (by kernel_rfl) rfl (by kernel_rfl) rfl rfl rfl fun KD hKD => ?_
  refine g ?_
  repeat' (first | refine st_ rfl (g ?_) | refine hold_ (g ?_) | exact trivial | refine cond_d (fun h => g ?_) (fun h => g ?_) | refine cond_ (fun h => g ?_) (fun h => g ?_) | (refine hKD _ _ ⟨rfl, g ?_⟩; clear hKD KD) | ((first | refine vops_ifd rfl rfl (fun h e => ?_) (fun h e => ?_) | refine vdraw_ifd rfl rfl (fun h e => ?_) (fun h e => ?_)) <;> simp only [e] <;> clear e <;> refine g ?_) | ((first | refine vops_if rfl rfl (fun h => ?_) (fun h => ?_) | refine vdraw_if rfl rfl (fun h => ?_) (fun h => ?_)) <;> simp only [h] <;> refine g ?_) | refine ix_ (by omega) (g ?_))
  ·refine ⟨_, fun u => stamp_eq _ _ _ _ _ _ u, ?_⟩
   refine g ?_
   repeat' (first | refine st_ rfl (g ?_) | refine hold_ (g ?_) | exact trivial | refine cond_d (fun h => g ?_) (fun h => g ?_) | refine cond_ (fun h => g ?_) (fun h => g ?_) | (refine hKD _ _ ⟨rfl, g ?_⟩; clear hKD KD) | ((first | refine vops_ifd rfl rfl (fun h e => ?_) (fun h e => ?_) | refine vdraw_ifd rfl rfl (fun h e => ?_) (fun h e => ?_)) <;> simp only [e] <;> clear e <;> refine g ?_) | ((first | refine vops_if rfl rfl (fun h => ?_) (fun h => ?_) | refine vdraw_if rfl rfl (fun h => ?_) (fun h => ?_)) <;> simp only [h] <;> refine g ?_) | refine ix_ (by omega) (g ?_) | refine call_ (rbycopyD _) rfl (g ?_))
   ·rename_i ho
    have hb : isB o s l[m] = true := by unfold isB; rw [stamp_dec, ho, h]; simp
    rw [find_take hlt ht hb] at hR
    subst hR
    exact Sub1.rfl_ _
   ·rename_i ho
    have hb : isB o s l[m] = false := by unfold isB; rw [stamp_dec, h]; simp
    exact ⟨⟨m + 1, hlt, find_none_step hlt ht hb⟩, id, ⟨⟨rfl, rfl, rfl, rfl, trivial⟩, trivial, List.nodup_nil⟩, by show l.length - (m + 1) < l.length - m; omega⟩
  ·have hb : isB o s l[m] = false := by unfold isB; rw [decide_eq_false h]; rfl
   exact ⟨⟨m + 1, hlt, find_none_step hlt ht hb⟩, id, ⟨⟨rfl, rfl, rfl, rfl, trivial⟩, trivial, List.nodup_nil⟩, by show l.length - (m + 1) < l.length - m; omega⟩
 ·obtain rfl : m = l.length := by have := of_decide_eq_false h; omega
  rw [List.take_length] at ht
  rw [List.find?_eq_none.2 fun x hx => by rw [ht x hx]; simp] at hR
  subst hR
  refine g ?_
  repeat' (first | refine st_ rfl (g ?_) | refine hold_ (g ?_) | exact trivial | refine cond_d (fun h => g ?_) (fun h => g ?_) | refine cond_ (fun h => g ?_) (fun h => g ?_) | (refine hKD _ _ ⟨rfl, g ?_⟩; clear hKD KD) | ((first | refine vops_ifd rfl rfl (fun h e => ?_) (fun h e => ?_) | refine vdraw_ifd rfl rfl (fun h e => ?_) (fun h e => ?_)) <;> simp only [e] <;> clear e <;> refine g ?_) | ((first | refine vops_if rfl rfl (fun h => ?_) (fun h => ?_) | refine vdraw_if rfl rfl (fun h => ?_) (fun h => ?_)) <;> simp only [h] <;> refine g ?_) | refine ix_ (by omega) (g ?_))
  refine tup_sub rfl fun p hp => ?_
  simp only [List.zip_cons_cons, List.zip_nil_right, List.mem_cons, List.not_mem_nil, or_false] at hp
  rcases hp with rfl | rfl
  ·exact nil_sub 1
  ·exact Sub1.rfl_ _
set_option maxRecDepth 100000 in
set_option maxHeartbeats 1600000 in
theorem rcput_call (l : List Body) (room : Int) (x : Body) (iR : I64 room) (i0 : I64 x.object) (i1 : I64 x.stamp.count) (i2 : I64 x.stamp.node) : ACalls Tryz.prog TzTab 151 [.iv (boI l), .val (.int .i64 room), boA x] (.tup [.iv (boI (putB l room x).1), .val (.int .i64 (putB l room x).2)]) [] := by
 refine ACalls.ofS (n := 33) (rs := [.tmp 6, .tmp 7]) Tryz.func151 rfl (by kernel_rfl) Tryz.ntmps151 (by kernel_rfl) (by simp) (fun _ _ => TzTab.later) ?_
 intro hok V w0
 have hlen : l.length ≤ 1073741824 := by simpa [boI] using hok.1.1
 obtain ⟨R, hR⟩ : ∃ R, putB l room x = R := ⟨_, rfl⟩
 rw [hR]
 unfold putB at hR
 refine g ?_
 refine AW.seq ?_
 refine AW.reg rfl fun KK hKK => ?_
 refine g ?_
 repeat' (first | refine hold_ (g ?_) | (refine hKK _ (g ?_); clear hKK KK) | exact trivial)
 refine AW.freeze 600 _ rfl ⟨i0, i1, i2, trivial, trivial⟩ ?_
 simp only [go_sem, reduceIte, Nat.reduceEqDiff]
 have hno : ∀ {q : List Body × Int}, q = ([], 1) → Sub1 (.tup [.val (.slice none 0 0), .val (.int .i64 1)]) (.tup [.iv (boI q.1), .val (.int .i64 q.2)]) := fun {q} e => by
  subst e
  refine tup_sub rfl fun p hp => ?_
  simp only [List.zip_cons_cons, List.zip_nil_right, List.mem_cons, List.not_mem_nil, or_false] at hp
  rcases hp with rfl | rfl
  ·exact nil_sub 4
  ·exact Sub1.rfl_ _
 refine g ?_
 repeat' (first | refine st_ rfl (g ?_) | refine hold_ (g ?_) | exact trivial | refine cond_d (fun h => g ?_) (fun h => g ?_) | refine cond_ (fun h => g ?_) (fun h => g ?_) | (refine hKD _ _ ⟨rfl, g ?_⟩; clear hKD KD) | ((first | refine vops_ifd rfl rfl (fun h e => ?_) (fun h e => ?_) | refine vdraw_ifd rfl rfl (fun h e => ?_) (fun h e => ?_)) <;> simp only [e] <;> clear e <;> refine g ?_) | ((first | refine vops_if rfl rfl (fun h => ?_) (fun h => ?_) | refine vdraw_if rfl rfl (fun h => ?_) (fun h => ?_)) <;> simp only [h] <;> refine g ?_) | refine ix_ (by omega) (g ?_) | refine call_ (rcformed_call l room iR) rfl (g ?_) | refine call_ (rbright_call x) rfl (g ?_))
 ·rw [if_neg (by rintro ⟨a, _⟩; simp [a] at h)] at hR
  exact hno hR.symm
 ·rw [if_neg (by rintro ⟨_, a⟩; simp [a] at h)] at hR
  exact hno hR.symm
 rename_i h1
 have hc : cacheFormed l room = true := by simpa using h1
 have hb : rightBody x = true := by simpa using h
 rw [if_pos ⟨hc, hb⟩] at hR
 subst hR
 simp only [cacheFormed, roomB, Bool.and_eq_true, decide_eq_true_eq] at hc
 obtain ⟨⟨⟨⟨c1, c2⟩, c3⟩, c4⟩, c5⟩ := hc
 have hcv := once_right c4
 obtain ⟨O, hO⟩ : ∃ O, forgetB l x.object ++ [x] = O := ⟨_, rfl⟩
 have hfl : (forgetB l x.object).length ≤ 256 := Nat.le_trans (List.length_filter_le _ _) c3
 have hOl : O.length ≤ 257 := by rw [← hO]; simp; omega
 have hOv : ∀ y ∈ O, y.value.length ≤ 256 := fun y hy => by
  rw [← hO] at hy
  rcases List.mem_append.1 hy with hy | hy
  ·exact (rightBody_in (hcv y (List.mem_filter.1 hy).1)).2.2
  ·rw [List.mem_singleton.1 hy]; exact (rightBody_in hb).2.2
 refine AW.drawn (ds := [18, 19, 20, 21, 22, 23, 24, 25, 8]) (fin := [1, 2]) (bs := [0, 0, 0, 0, 1, 1, 1, 2, 3]) [⟨[], [], [], [], 0⟩, ⟨[], [], [], [], 0⟩, ⟨[(19, 1)], [], [], [], 0⟩, ⟨[(18, 0), (20, 2)], [], [], [], 1⟩, ⟨[], [], [], [], 0⟩, ⟨[(22, 4)], [], [0], [], 0⟩, ⟨[(23, 5)], [], [], [], 1⟩, ⟨[(21, 3), (24, 6)], [], [1], [0], 1⟩, ⟨[(25, 7)], [], [], [], 0⟩] (by kernel_rfl) rfl (by kernel_rfl) rfl rfl rfl fun KD hKD => ?_
 refine g ?_
 repeat' (first | refine st_ rfl (g ?_) | refine hold_ (g ?_) | exact trivial | refine cond_d (fun h => g ?_) (fun h => g ?_) | refine cond_ (fun h => g ?_) (fun h => g ?_) | (refine hKD _ _ ⟨rfl, g ?_⟩; clear hKD KD) | ((first | refine vops_ifd rfl rfl (fun h e => ?_) (fun h e => ?_) | refine vdraw_ifd rfl rfl (fun h e => ?_) (fun h e => ?_)) <;> simp only [e] <;> clear e <;> refine g ?_) | ((first | refine vops_if rfl rfl (fun h => ?_) (fun h => ?_) | refine vdraw_if rfl rfl (fun h => ?_) (fun h => ?_)) <;> simp only [h] <;> refine g ?_) | refine ix_ (by omega) (g ?_) | refine call_ (rforget_call l x.object) rfl (g ?_) | refine call_ (rbody_call x i0 i1 i2) rfl (g ?_))
 refine bs1 (by omega) rfl rfl rfl ⟨i0, i1, i2, trivial, trivial⟩ ?_
 refine g ?_
 repeat' (first | refine hold_ (g ?_) | (refine hKD _ _ ⟨rfl, g ?_⟩; clear hKD KD) | exact trivial)
 refine append_own rfl (by kernel_rfl) (by omega) (by kernel_rfl) rfl (by simp; omega) ?_
 refine g ?_
 repeat' (first | refine hold_ (g ?_) | (refine hKD _ _ ⟨rfl, g ?_⟩; clear hKD KD) | exact trivial)
 have eO : List.map enB (forgetB l x.object) ++ [[.val (.int .i64 x.object), .val (.int .i64 x.stamp.count), .val (.int .i64 x.stamp.node), byI x.value]] = O.map enB := by rw [← hO, List.map_append]; rfl
 rw [eO]
 refine AW.freeze 2600 _ rfl trivial ?_
 simp only [go_sem, reduceIte, Nat.reduceEqDiff]
 refine g ?_
 repeat' (first | refine st_ rfl (g ?_) | refine hold_ (g ?_) | exact trivial | refine cond_d (fun h => g ?_) (fun h => g ?_) | refine cond_ (fun h => g ?_) (fun h => g ?_) | (refine hKD _ _ ⟨rfl, g ?_⟩; clear hKD KD) | ((first | refine vops_ifd rfl rfl (fun h e => ?_) (fun h e => ?_) | refine vdraw_ifd rfl rfl (fun h e => ?_) (fun h e => ?_)) <;> simp only [e] <;> clear e <;> refine g ?_) | ((first | refine vops_if rfl rfl (fun h => ?_) (fun h => ?_) | refine vdraw_if rfl rfl (fun h => ?_) (fun h => ?_)) <;> simp only [h] <;> refine g ?_) | refine ix_ (by omega) (g ?_))
 refine AW.loop (fun m : {m : Nat // m ≤ O.length ∧ fitB room O = fitB room (O.drop m)} => ⟨[(1, .val (.int .i64 room)), (8, .iv (boI (O.drop m.1)))], []⟩) (fun m => O.length - m.1) ⟨0, Nat.zero_le _, rfl⟩ id ⟨⟨rfl, ?_, trivial⟩, trivial, List.nodup_nil⟩ fun ⟨m, hm, ht⟩ => ?_
 ·simp [AV.ren, look]
  rfl
 have hu2 := rused_call (O.drop m) (by simp; omega) fun x hx => hOv x (List.mem_of_mem_drop hx)
 refine g ?_
 repeat' (first | refine st_ rfl (g ?_) | refine hold_ (g ?_) | exact trivial | refine cond_d (fun h => g ?_) (fun h => g ?_) | refine cond_ (fun h => g ?_) (fun h => g ?_) | (refine hKD _ _ ⟨rfl, g ?_⟩; clear hKD KD) | ((first | refine vops_ifd rfl rfl (fun h e => ?_) (fun h e => ?_) | refine vdraw_ifd rfl rfl (fun h e => ?_) (fun h e => ?_)) <;> simp only [e] <;> clear e <;> refine g ?_) | ((first | refine vops_if rfl rfl (fun h => ?_) (fun h => ?_) | refine vdraw_if rfl rfl (fun h => ?_) (fun h => ?_)) <;> simp only [h] <;> refine g ?_) | refine ix_ (by omega) (g ?_) | refine call_ (hu2) rfl (g ?_))
 ·have hlt : m < O.length := by
   have : ¬ O.length ≤ m := fun hle => by
    rw [List.drop_eq_nil_of_le hle] at h
    simp only [usedS, List.map_nil, List.sum_nil] at h
    omega
   omega
  refine ⟨1, (O.drop m).length, rfl, rfl, by simp; omega, Nat.le_refl _, ?_⟩
  have eS : (((O.drop m).map enB).take (O.drop m).length).drop 1 = (O.drop (m + 1)).map enB := by
   rw [List.take_of_length_le (by simp), ← List.map_drop, List.drop_drop]
  rw [eS]
  refine g ?_
  repeat' (first | refine st_ rfl (g ?_) | refine hold_ (g ?_) | exact trivial | refine cond_d (fun h => g ?_) (fun h => g ?_) | refine cond_ (fun h => g ?_) (fun h => g ?_) | (refine hKD _ _ ⟨rfl, g ?_⟩; clear hKD KD) | ((first | refine vops_ifd rfl rfl (fun h e => ?_) (fun h e => ?_) | refine vdraw_ifd rfl rfl (fun h e => ?_) (fun h e => ?_)) <;> simp only [e] <;> clear e <;> refine g ?_) | ((first | refine vops_if rfl rfl (fun h => ?_) (fun h => ?_) | refine vdraw_if rfl rfl (fun h => ?_) (fun h => ?_)) <;> simp only [h] <;> refine g ?_) | refine ix_ (by omega) (g ?_))
  exact ⟨⟨m + 1, hlt, ht.trans (fit_step hlt (by omega))⟩, id, ⟨⟨rfl, rfl, trivial⟩, trivial, List.nodup_nil⟩, by show O.length - (m + 1) < O.length - m; omega⟩
 ·rw [hO, ht, fit_stop (by omega)]
  exact Sub1.rfl_ _
end Go.Proofs.YtkphfdmelfhnoaaGreatDoor
namespace Go.Proofs.YtkphfdmelfhnoaaGreatDoor
open Go.ChangeShapes Go.WideShapes Go.ChangeAt Go.RowKit
attribute [local irreducible] AW AWY vops vopsY vop vopL vdraw callW qop binQ lenQ storeQ appendQ callQ ACalls AIter
attribute [local go_sem] enB_eq boI_eq boA_eq enW_eq wrI_eq wA_eq enZ_eq znI_eq vwA_eq noteA_eq storeQ_bp storeQ_rp
set_option maxRecDepth 100000 in
set_option maxHeartbeats 3200000 in
theorem rvbody_call (v : View) (x : Body) (iR : I64 v.room) (i0 : I64 x.object) (i1 : I64 x.stamp.count) (i2 : I64 x.stamp.node) : ACalls Tryz.prog TzTab 63 [vwA v, boA x] (.tup [vwA (bodyV v x).1, .val (.int .i64 (bodyV v x).2)]) [] := by
 refine ACalls.ofS (n := 34) (rs := [.cell 4 27, .tmp 5]) Tryz.func63 rfl (by kernel_rfl) Tryz.ntmps63 (by kernel_rfl) (by simp) (fun _ _ => TzTab.later) ?_
 intro hok V w0
 obtain ⟨R, hR⟩ : ∃ R, bodyV v x = R := ⟨_, rfl⟩
 rw [hR]
 unfold bodyV at hR
 refine g ?_
 refine AW.seq ?_
 refine AW.reg rfl fun KK hKK => ?_
 refine g ?_
 repeat' (first | refine hold_ (g ?_) | (refine hKK _ (g ?_); clear hKK KK) | exact trivial)
 refine AW.freeze 300 _ rfl ⟨trivial, trivial, trivial, trivial, iR, trivial⟩ ?_
 simp only [go_sem, reduceIte, Nat.reduceEqDiff]
 refine AW.freeze 400 _ rfl ⟨i0, i1, i2, trivial, trivial⟩ ?_
 simp only [go_sem, reduceIte, Nat.reduceEqDiff]
 refine g ?_
 repeat' (first | refine st_ rfl (g ?_) | refine hold_ (g ?_) | exact trivial | refine cond_d (fun h => g ?_) (fun h => g ?_) | refine cond_ (fun h => g ?_) (fun h => g ?_) | (refine vops_ifd rfl rfl (fun h e => ?_) (fun h e => ?_) <;> simp only [e] <;> clear e <;> refine g ?_) | (refine vops_if rfl rfl (fun h => ?_) (fun h => ?_) <;> simp only [h] <;> refine g ?_) | refine ix_ (by omega) (g ?_) | refine call_ (rview_call v iR) rfl (g ?_) | refine call_ (rbright_call x) rfl (g ?_) | refine call_ (rwanted_call v x) rfl (g ?_))
 ·rw [if_neg (by rintro ⟨a, _⟩; simp [a] at h)] at hR
  exact view_no hR.symm
 ·rw [if_neg (by rintro ⟨_, a⟩; simp [a] at h)] at hR
  exact view_no hR.symm
 ·rename_i h1 h2
  rw [if_pos (by simp at h1 h2; exact ⟨h1, h2⟩), if_neg (by simpa using h)] at hR
  exact view_no hR.symm
 rename_i h1 h2
 have hF : viewFormed v = true := by simpa using h1
 have hr : rightBody x = true := by simpa using h2
 rw [if_pos ⟨hF, hr⟩, if_pos (by simpa using h)] at hR
 subst hR
 have hcf : cacheFormed v.bodies v.room = true := by
  simp only [viewFormed, partsB, Bool.and_eq_true] at hF
  exact hF.1.1.1.2
 have hput := rcput_call v.bodies v.room x iR i0 i1 i2
 unfold putB at hput
 rw [if_pos ⟨hcf, hr⟩] at hput
 refine g ?_
 repeat' (first | refine st_ rfl (g ?_) | refine hold_ (g ?_) | exact trivial | refine cond_d (fun h => g ?_) (fun h => g ?_) | refine cond_ (fun h => g ?_) (fun h => g ?_) | (refine vops_ifd rfl rfl (fun h e => ?_) (fun h e => ?_) <;> simp only [e] <;> clear e <;> refine g ?_) | (refine vops_if rfl rfl (fun h => ?_) (fun h => ?_) <;> simp only [h] <;> refine g ?_) | refine ix_ (by omega) (g ?_) | refine call_ (rvwcopy_call v iR) rfl (g ?_) | refine call_ (hput) rfl (g ?_))
 exact Sub1.rfl_ _
set_option maxRecDepth 100000 in
set_option maxHeartbeats 3200000 in
theorem rvread_call (v : View) (o : Int) (iR : I64 v.room) : ACalls Tryz.prog TzTab 64 [vwA v, .val (.int .i64 o)] (.tup [.iv (byI (readV v o).1), wA (readV v o).2.1, .val (.int .i64 (readV v o).2.2)]) [] := by
 refine ACalls.ofS (n := 54) (rs := [.tmp 4, .cell 5 55, .tmp 6]) Tryz.func64 rfl (by kernel_rfl) Tryz.ntmps64 (by kernel_rfl) (by simp) (fun _ _ => TzTab.later) ?_
 intro hok V w0
 obtain ⟨R, hR⟩ : ∃ R, readV v o = R := ⟨_, rfl⟩
 rw [hR]
 unfold readV at hR
 have hI : ∀ x ∈ v.held, I64 x.stamp.count ∧ I64 x.stamp.node ∧ I64 x.object := fun x hx => by
  obtain ⟨-, o1, o2, o3, -⟩ := okR_mem (by simpa [wrI] using hok.1.2.2.1.2) (enW x) (List.mem_map_of_mem hx)
  exact ⟨o1, o2, o3⟩
 refine g ?_
 refine AW.seq ?_
 refine AW.reg rfl fun KK hKK => ?_
 refine g ?_
 repeat' (first | refine hold_ (g ?_) | (refine hKK _ (g ?_); clear hKK KK) | exact trivial)
 refine AW.freeze 300 _ rfl ⟨trivial, trivial, trivial, trivial, iR, trivial⟩ ?_
 simp only [go_sem, reduceIte, Nat.reduceEqDiff]
 refine g ?_
 repeat' (first | refine st_ rfl (g ?_) | refine hold_ (g ?_) | exact trivial | refine cond_d (fun h => g ?_) (fun h => g ?_) | refine cond_ (fun h => g ?_) (fun h => g ?_) | (refine hKD _ _ ⟨rfl, g ?_⟩; clear hKD KD) | ((first | refine vops_ifd rfl rfl (fun h e => ?_) (fun h e => ?_) | refine vdraw_ifd rfl rfl (fun h e => ?_) (fun h e => ?_)) <;> simp only [e] <;> clear e <;> refine g ?_) | ((first | refine vops_if rfl rfl (fun h => ?_) (fun h => ?_) | refine vdraw_if rfl rfl (fun h => ?_) (fun h => ?_)) <;> simp only [h] <;> refine g ?_) | refine ix_ (by omega) (g ?_) | refine call_ (rview_call v iR) rfl (g ?_) | refine call_ (rzblur_call _) rfl (g ?_) | refine call_ (rshas_call _ _) rfl (g ?_))
 ·rw [if_neg (by rintro ⟨a, _⟩; simp [a] at h)] at hR
  exact read_no hR.symm
 ·rw [if_neg (by rintro ⟨_, a⟩; simp [rightO] at a; omega)] at hR
  exact read_no hR.symm
 ·rw [if_neg (by rintro ⟨_, a⟩; simp [rightO] at a; omega)] at hR
  exact read_no hR.symm
 ·rw [if_pos ⟨by simpa using (by assumption : (!viewFormed v) = false), by simp [rightO]; omega⟩, if_pos h] at hR
  exact read_no hR.symm
 rename_i h1 h2 h3
 have hF : viewFormed v = true := by simpa using h1
 have hO : rightO o = true := by simp [rightO]; omega
 rw [if_pos ⟨hF, hO⟩, if_neg (by simp [h])] at hR
 have hget := rat_call v.held o
 cases hg : getW v.held o with
 | none =>
  rw [hg] at hget hR
  simp only [Option.getD_none, Option.getD_some, Option.isSome_none, Option.isSome_some] at hget hR
  refine call_ hget rfl (g ?_)
  refine g ?_
  repeat' (first | refine hold_ (g ?_) | (refine hKK _ (g ?_); clear hKK KK) | exact trivial)
  refine AW.freeze 800 _ rfl ⟨rfl, rfl, rfl, trivial, trivial⟩ ?_
  simp only [go_sem, reduceIte, Nat.reduceEqDiff]
  refine g ?_
  repeat' (first | refine st_ rfl (g ?_) | refine hold_ (g ?_) | exact trivial | refine cond_d (fun h => g ?_) (fun h => g ?_) | refine cond_ (fun h => g ?_) (fun h => g ?_) | (refine hKD _ _ ⟨rfl, g ?_⟩; clear hKD KD) | ((first | refine vops_ifd rfl rfl (fun h e => ?_) (fun h e => ?_) | refine vdraw_ifd rfl rfl (fun h e => ?_) (fun h e => ?_)) <;> simp only [e] <;> clear e <;> refine g ?_) | ((first | refine vops_if rfl rfl (fun h => ?_) (fun h => ?_) | refine vdraw_if rfl rfl (fun h => ?_) (fun h => ?_)) <;> simp only [h] <;> refine g ?_) | refine ix_ (by omega) (g ?_))
  exact read_no hR.symm
 | some w =>
  rw [hg] at hget hR
  simp only [Option.getD_some, Option.isSome_some] at hget hR
  obtain ⟨w1, w2, w3⟩ := get_in hg hI
  refine call_ hget rfl (g ?_)
  refine g ?_
  repeat' (first | refine hold_ (g ?_) | (refine hKK _ (g ?_); clear hKK KK) | exact trivial)
  refine AW.freeze 800 _ rfl ⟨w1, w2, w3, trivial, trivial⟩ ?_
  simp only [go_sem, reduceIte, Nat.reduceEqDiff]
  refine g ?_
  repeat' (first | refine st_ rfl (g ?_) | refine hold_ (g ?_) | exact trivial | refine cond_d (fun h => g ?_) (fun h => g ?_) | refine cond_ (fun h => g ?_) (fun h => g ?_) | (refine hKD _ _ ⟨rfl, g ?_⟩; clear hKD KD) | ((first | refine vops_ifd rfl rfl (fun h e => ?_) (fun h e => ?_) | refine vdraw_ifd rfl rfl (fun h e => ?_) (fun h e => ?_)) <;> simp only [e] <;> clear e <;> refine g ?_) | ((first | refine vops_if rfl rfl (fun h => ?_) (fun h => ?_) | refine vdraw_if rfl rfl (fun h => ?_) (fun h => ?_)) <;> simp only [h] <;> refine g ?_) | refine ix_ (by omega) (g ?_) | refine call_ (rcget_call v.bodies o w.stamp w1 w2) rfl (g ?_))
  ·rw [if_pos h] at hR
   subst hR
   refine AW.drawn (ds := [41, 4, 6]) (fin := [1]) (bs := [1, 1, 1, 2]) [⟨[], [], [0], [], 0⟩, ⟨[], [], [], [], 0⟩, ⟨[(41, 0)], [], [], [0], 1⟩, ⟨[], [], [], [], 0⟩] (by kernel_rfl) rfl (by kernel_rfl) rfl rfl rfl fun KD hKD => ?_
   refine g ?_
   repeat' (first | refine st_ rfl (g ?_) | refine hold_ (g ?_) | exact trivial | refine cond_d (fun h => g ?_) (fun h => g ?_) | refine cond_ (fun h => g ?_) (fun h => g ?_) | (refine hKD _ _ ⟨rfl, g ?_⟩; clear hKD KD) | ((first | refine vops_ifd rfl rfl (fun h e => ?_) (fun h e => ?_) | refine vdraw_ifd rfl rfl (fun h e => ?_) (fun h e => ?_)) <;> simp only [e] <;> clear e <;> refine g ?_) | ((first | refine vops_if rfl rfl (fun h => ?_) (fun h => ?_) | refine vdraw_if rfl rfl (fun h => ?_) (fun h => ?_)) <;> simp only [h] <;> refine g ?_) | refine ix_ (by omega) (g ?_))
   refine tup_sub rfl fun p hp => ?_
   simp only [List.zip_cons_cons, List.zip_nil_right, List.mem_cons, List.not_mem_nil, or_false] at hp
   rcases hp with rfl | rfl | rfl
   ·exact nil_sub 1
   ·exact Sub1.rfl_ _
   ·exact Sub1.rfl_ _
  ·rw [if_neg (by simp [h])] at hR
   subst hR
   refine AW.drawn (ds := [51, 52, 53, 4, 6]) (fin := [1]) (bs := [1, 1, 1, 1, 1, 2]) [⟨[], [], [], [], 0⟩, ⟨[], [], [0], [], 0⟩, ⟨[], [], [], [], 0⟩, ⟨[(51, 0)], [], [], [], 0⟩, ⟨[(52, 1)], [], [], [0], 1⟩, ⟨[(53, 2)], [], [], [], 0⟩] (by kernel_rfl) rfl (by kernel_rfl) rfl rfl rfl fun KD hKD => ?_
   refine g ?_
   repeat' (first | refine st_ rfl (g ?_) | refine hold_ (g ?_) | exact trivial | refine cond_d (fun h => g ?_) (fun h => g ?_) | refine cond_ (fun h => g ?_) (fun h => g ?_) | (refine hKD _ _ ⟨rfl, g ?_⟩; clear hKD KD) | ((first | refine vops_ifd rfl rfl (fun h e => ?_) (fun h e => ?_) | refine vdraw_ifd rfl rfl (fun h e => ?_) (fun h e => ?_)) <;> simp only [e] <;> clear e <;> refine g ?_) | ((first | refine vops_if rfl rfl (fun h => ?_) (fun h => ?_) | refine vdraw_if rfl rfl (fun h => ?_) (fun h => ?_)) <;> simp only [h] <;> refine g ?_) | refine ix_ (by omega) (g ?_))
   exact Sub1.rfl_ _
end Go.Proofs.YtkphfdmelfhnoaaGreatDoor
namespace Go.Proofs.YtkphfdmelfhnoaaGreatDoor
theorem nodup_len : ∀ (n : Nat) (l : List Nat), l.Nodup → (∀ x ∈ l, x < n) → l.length ≤ n
 | 0, l, _, h => by
  cases l with
  | nil => simp
  | cons a l => exact absurd (h a (by simp)) (by omega)
 | n + 1, l, hd, h => by
  have h1 := nodup_len n (l.erase n) (hd.erase n) fun x hx => by
   have h2 := h x (List.mem_of_mem_erase hx)
   have h3 : x ≠ n := fun e => by subst e; exact hd.not_mem_erase hx
   omega
  rw [List.length_erase] at h1
  split at h1 <;> omega
theorem once_len {l : List Body} (h : onceB l = true) : l.length ≤ 256 := by
 have hr := once_right h
 simp only [onceB, Bool.and_eq_true, decide_eq_true_eq] at h
 have h2 := List.pairwise_map.1 h.2
 have h3 : (l.map (fun x => x.object.toNat)).Nodup := List.pairwise_map.2 (h2.imp_of_mem fun {a b} ha hb hne e => by
  have h4 := rightBody_in (hr a ha)
  have h5 := rightBody_in (hr b hb)
  exact hne (by omega))
 have := nodup_len 256 _ h3 fun x hx => by
  obtain ⟨y, hy, rfl⟩ := List.mem_map.1 hx
  have := rightBody_in (hr y hy)
  omega
 simpa using this
theorem fitB_suffix {room : Int} : ∀ (l : List Body), fitB room l <:+ l
 | [] => List.suffix_refl _
 | x :: l => by
  rw [fitB]
  split
  ·exact List.suffix_refl _
  ·exact (fitB_suffix l).trans (List.suffix_cons x l)
theorem fitB_used {room : Int} (h : 0 ≤ room) : ∀ (l : List Body), (usedS (fitB room l) : Int) ≤ room
 | [] => h
 | x :: l => by
  rw [fitB]
  split
  ·assumption
  ·exact fitB_used h l
theorem put_once {l : List Body} {x : Body} (h : onceB l = true) (hx : rightBody x = true) : onceB (forgetB l x.object ++ [x]) = true := by
 simp only [onceB, Bool.and_eq_true, decide_eq_true_eq, List.all_eq_true] at h ⊢
 refine ⟨fun y hy => ?_, ?_⟩
 ·rcases List.mem_append.1 hy with hy | hy
  ·exact h.1 y (List.mem_filter.1 hy).1
  ·rw [List.mem_singleton.1 hy]; exact hx
 ·rw [List.map_append, List.nodup_append]
  refine ⟨h.2.sublist (List.filter_sublist.map _), by simp, fun a ha b hb e => ?_⟩
  obtain ⟨y, hy, rfl⟩ := List.mem_map.1 ha
  have h1 := (List.mem_filter.1 hy).2
  simp only [List.map_cons, List.map_nil, List.mem_singleton] at hb
  simp [e, hb] at h1
theorem once_sub {l m : List Body} (h : onceB l = true) (hs : List.Sublist m l) : onceB m = true := by
 simp only [onceB, Bool.and_eq_true, decide_eq_true_eq, List.all_eq_true] at h ⊢
 exact ⟨fun y hy => h.1 y (hs.subset hy), h.2.sublist (hs.map _)⟩
theorem fit_formed {l : List Body} {room : Int} {x : Body} (h : cacheFormed l room = true) (hx : rightBody x = true) : cacheFormed (fitB room (forgetB l x.object ++ [x])) room = true := by
 simp only [cacheFormed, Bool.and_eq_true, decide_eq_true_eq] at h ⊢
 have h1 := once_sub (put_once h.1.2 hx) (fitB_suffix (room := room) (forgetB l x.object ++ [x])).sublist
 refine ⟨⟨⟨h.1.1.1, once_len h1⟩, h1⟩, fitB_used ?_ _⟩
 have := h.1.1.1
 simp only [roomB, Bool.and_eq_true, decide_eq_true_eq] at this
 exact this.1
theorem bodyV_formed {v : View} {x : Body} (h : (bodyV v x).2 = 0) : viewFormed (bodyV v x).1 = true := by
 unfold bodyV at h ⊢
 split at h
 ·rename_i hc
  rw [if_pos hc]
  split at h
  ·rename_i hw
   rw [if_pos hw]
   obtain ⟨hv, hx⟩ := hc
   simp only [viewFormed, partsB, Bool.and_eq_true, List.all_eq_true] at hv ⊢
   obtain ⟨⟨⟨⟨⟨⟨a1, a2⟩, a3⟩, a4⟩, a5⟩, a6⟩, a7⟩ := hv
   refine ⟨⟨⟨⟨⟨⟨a1, a2⟩, a3⟩, fit_formed a4 hx⟩, a5⟩, a6⟩, fun y hy => ?_⟩
   have hy2 := (fitB_suffix _).subset hy
   rcases List.mem_append.1 hy2 with hy2 | hy2
   ·exact a7 y (List.mem_filter.1 hy2).1
   ·rw [List.mem_singleton.1 hy2]; exact hw
  ·simp at h
 ·simp at h
end Go.Proofs.YtkphfdmelfhnoaaGreatDoor
namespace Go.Proofs.YtkphfdmelfhnoaaGreatDoor
open Go.ChangeShapes Go.WideShapes Go.ChangeAt Go.RowKit
theorem frz_heap {w : World} {g n : Nat} {e : TypeId} {C : Array Value} (hB : Blk w g e C) : (w.freeze ⟨g, n, none⟩ 1).heap.size = w.heap.size ∧ (∀ k, k ≠ g → (w.freeze ⟨g, n, none⟩ 1).heap[k]? = w.heap[k]?) ∧ (∀ p : Addr, (w.freeze ⟨g, n, none⟩ 1).cell? p = w.cell? p) := by
 have hsz : (w.freeze ⟨g, n, none⟩ 1).heap.size = w.heap.size := by simp [World.freeze]
 have hfar : ∀ k, k ≠ g → (w.freeze ⟨g, n, none⟩ 1).heap[k]? = w.heap[k]? := fun k hk => by
  simp [World.freeze, Array.getElem?_modify, Ne.symm hk]
 refine ⟨hsz, hfar, fun p => ?_⟩
 by_cases hp : p.block = g
 ·have h1 : (w.freeze ⟨g, n, none⟩ 1).heap[g]? = some (.cells C e (n, n + 1)) := by
   have := hB
   unfold Blk at this
   simp [World.freeze, Array.getElem?_modify, this]
  have h2 : w.heap[g]? = some (.cells C e (0, 0)) := hB
  unfold World.cell?
  rw [hp, h1, h2]
 ·exact World.cell?_of_block (hfar _ hp)
theorem frz_below {w0 w : World} {g n : Nat} {e : TypeId} {C : Array Value} (hB : Blk w g e C) (h : Below w0.heap.size w0 w) (hg : w0.heap.size ≤ g) : Below w0.heap.size w0 (w.freeze ⟨g, n, none⟩ 1) := by
 obtain ⟨h1, h2, _⟩ := frz_heap (n := n) hB
 refine ⟨?_, ?_, ?_, by rw [h1]; exact h.size, fun k hk => by rw [h2 k (by omega)]; exact h.block k hk⟩
 ·simpa [World.freeze] using h.os
 ·simpa [World.freeze] using h.tape
 ·simpa [World.freeze] using h.output
theorem run_mark {P : Program} {w : World} {t e e' : TypeId} {C : Array Value} {g n c : Nat} (ht : P.underlying t = some (.slice e)) (he : P.underlying e = some (.int .u8)) (hB : Blk w g e' C) :
  (convert t t (.slice (some ⟨g, 0, none⟩) n c)).run P w = .ok (.slice (some ⟨g, 0, none⟩) n c) (w.freeze ⟨g, C.size, none⟩ 1) := by
 have hsh : w.shape? g = some (e', C.size) := by
  unfold World.shape?
  rw [show w.heap[g]? = some (.cells C e' (0, 0)) from hB]
 simp [convert, run_underlying ht, run_underlying he, markStringish, hsh]
theorem list_step1 {P : Program} {ro : Option Nat} {ops : Array Oper} {o : Oper} {rest : List Oper} {Q : Exit → Act → World → Prop} {a : Act} {w w' : World} {v : Value} (hg : o.guard = none) (hd : ∀ c, o.op ≠ .defer c) (hx : (execOp a.eval o).run P w = .ok (.value v) w') (h : wpListIn (FW ro) 0 P ops Q rest (a.put o.dst v) w') : wpListIn (FW ro) 0 P ops Q (o :: rest) a w := by
 refine wpListIn_step fun K' hK' => ?_
 rw [if_pos (by unfold Region.wanted; rw [hg])]
 refine wp_wpIn hd ?_
 unfold Oper.wp
 rw [hx, Oper.upon_value]
 exact hK' _ _ h
section
variable {P : Program} {G : World → Prop} {V w0 : World} {n : Fm} {ro : Option Nat}
theorem vops_run2 {ops : List Oper} {Q : Exit → Act → World → Prop} {rest2 : List Oper} (hG : ∀ w', Below w0.heap.size w0 w' → G w') : ∀ (l : List Oper) (σ : AState) (K : AState → Prop) (E : Env) (a : Act) (w : World), dstsOk n.nd l = true → vops P G ops l σ K → St V w0 n E σ a w →
  (∀ (E' : Env) (σ' : AState) (a' : Act) (w' : World), K σ' → St V w0 n E' σ' a' w' → wpListIn (FW ro) 0 P ops.toArray Q rest2 a' w') → wpListIn (FW ro) 0 P ops.toArray Q (l ++ rest2) a w := by
 intro l
 induction l with
 | nil => exact fun σ K E a w _ h hs hQ => hQ E σ a w h hs
 | cons o rest ih =>
  intro σ K E a w hd h hs hQ
  simp only [dstsOk, Bool.and_eq_true] at hd
  have hdst : ∀ d, o.dst = some d → d < n.nd.n ∧ d ∉ n.nd.fx := fun d e => by
   have := hd.1
   rw [e] at this
   simp only [Bool.and_eq_true, Bool.not_eq_true'] at this
   exact ⟨blt_iff.1 this.1, memN_iff this.2⟩
  refine wpListIn_step fun K' hK' => ?_
  rcases guard_run hs h with ⟨hw, hr⟩ | ⟨hw, hr⟩
  ·rw [if_pos hw]
   obtain ⟨r, bk', hK, hu⟩ := vop_run hr
   refine hu V w0 n E a w hs hG K' Q (fun v w' E' hs' hv => hK' _ _ (ih ⟨putF o.dst r σ.fr, bk'⟩ K E' (a.put o.dst v) w' hd.2 hK (hs'.put hdst hv) hQ)) ro
  ·rw [if_neg (by rw [hw]; simp)]
   refine ⟨fun _ _ => trivial, hK' _ _ (ih ⟨putF o.dst (.val undef) σ.fr, σ.bk⟩ K E (a.put o.dst undef) w hd.2 hr (hs.put hdst .val) hQ)⟩
end
theorem dstsOk_append {n : Nd} : ∀ (l m : List Oper), dstsOk n (l ++ m) = (dstsOk n l && dstsOk n m)
 | [], m => rfl
 | o :: l, m => by rw [List.cons_append, dstsOk, dstsOk, dstsOk_append l m, Bool.and_assoc]
section
variable {P : Program} {G : World → Prop} {σ : AState} {V w0 : World} {n : Nd} {ro : Option Nat} {K : Exit → AState → Prop}
theorem AW.markR {id : Nat} {l1 l2 : List Oper} {t e : TypeId} {d s : Nat} {y : TypeId} {p : String} {ar : Array Edge} {L : List Oper} (hL : L = l1 ++ ⟨some d, .convert t t (.tmp s), y, p, ar, none⟩ :: l2)
  (hd : dstsOk n L = true) (ht : P.underlying t = some (.slice e)) (he : P.underlying e = some (.int .u8))
  (h : vops P G L l1 σ fun σ1 => ∃ b e' l, look σ1.fr s = .own b ∧ findB b σ1.bk = some (.row b e' 1 l) ∧ l ≠ [] ∧ vops P G L l2 ⟨putF (some d) (.iv (.sl 1 l)) σ1.fr, replB b [] σ1.bk⟩ fun σ' => K .normal σ') :
  AW P G ro V w0 n (.region id L.toArray false) σ K := fun hG m E a w hn hs => by
 rw [hL, dstsOk_append, Bool.and_eq_true] at hd
 obtain ⟨hd1, hd2⟩ := hd
 simp only [dstsOk, Bool.and_eq_true] at hd2
 refine wpIn_region_lit ?_
 suffices H : wpListIn (FW ro) 0 P L.toArray (Arr V w0 m K) (l1 ++ ⟨some d, .convert t t (.tmp s), y, p, ar, none⟩ :: l2) a w by rwa [← hL] at H
 refine vops_run2 hG l1 σ _ E a w (by rw [hn]; exact hd1) h hs fun E1 σ1 a1 w1 ⟨b, e', l, q1, q2, q3, hK⟩ hs1 => ?_
 have s1 := hs1.slots s
 rw [q1] at s1
 obtain ⟨pre, post, e1, e2, e3⟩ := findB_split q2
 obtain ⟨fr, bk⟩ := σ1
 simp only at e1 e3 hK hs1 q1 q2 s1
 have e4 := e3 []
 subst e1
 rw [e4] at hK
 obtain ⟨hO, hB⟩ := hs1.holds (.row b e' 1 l) (by simp)
 obtain ⟨v, hv⟩ : ∃ v, a1.tmps.getD s undef = v := ⟨_, rfl⟩
 rw [hv] at s1
 have hfz := St.frz_rep hs1 (x := .row b e' 1 l) trivial s1
 rw [frzA_own_row, if_pos rfl] at hfz
 have hev : v = E1.row b := by
  cases s1 with
  | own h => exact h.symm
 rcases hO.forms with ⟨_, h0⟩ | ⟨g, c, hvv, hg1, hg2⟩
 ·exact absurd h0 q3
 rw [hvv] at hO
 obtain ⟨cur, _, _, hBk, _⟩ := hO.open_
 obtain ⟨f1, f2, f3⟩ := frz_heap (n := cur.size) hBk
 have hgm : owns E1 [.row b e' 1 l] = [g] := by simp [owns, BA.owned, hvv, Value.ownBlock]
 have hsw := St.swap (E' := E1) (nb := []) (mid := [.row b e' 1 l]) (lo := 0) (hi := 0) (w' := w1.freeze ⟨g, cur.size, none⟩ 1) hs1 (fun k hk _ => f2 k (fun h => hk (by rw [hgm, h]; simp))) (by rw [f1]; exact Nat.le_refl _) (frz_below hBk hs1.low hg1) (Env.same_refl 0 0 E1) (offF_none _) (offB_none _) (by simp [owns]) (by simp [owns]) (by simp)
 refine list_step1 rfl (fun _ h => by cases h) (v := v) (w' := w1.freeze ⟨g, cur.size, none⟩ 1) ?_ ?_
 ·have : a1.eval (.tmp s) = v := hv
  simp only [execOp, this]
  refine run_v ?_
  rw [hev, hvv]
  exact run_mark ht he hBk
 ·refine vops_run hG l2 _ _ E1 _ _ (by rw [hn]; exact hd2.2) hK (hsw.put (fun d' hd' => ?_) (hfz.mono (vis_ext (by rw [f1]; exact Nat.le_refl _) fun p u _ _ h3 h4 => ⟨h3, by rw [f3]; exact h4⟩))) fun E' σ' a' w' hK hs' => ⟨m, E', σ', Fm.le.refl m, hK, hs'⟩
  cases hd'
  have := hd2.1
  simp only [Bool.and_eq_true, Bool.not_eq_true'] at this
  rw [hn]
  exact ⟨blt_iff.1 this.1, memN_iff this.2⟩
theorem AW.mark {id : Nat} {l1 l2 : List Oper} {t e : TypeId} {d s : Nat} {y : TypeId} {p : String} {ar : Array Edge} {L : List Oper} (hL : L = l1 ++ ⟨some d, .convert t t (.tmp s), y, p, ar, none⟩ :: l2)
  (hd : dstsOk n L = true) (ht : P.underlying t = some (.slice e)) (he : P.underlying e = some (.int .u8))
  (h : ∀ KK : AState → Prop, (∀ σ1 b e' l, look σ1.fr s = .own b → findB b σ1.bk = some (.row b e' 1 l) → l ≠ [] → (∀ K2 : AState → Prop, (∀ σ', K .normal σ' → K2 σ') → vops P G L l2 ⟨putF (some d) (.iv (.sl 1 l)) σ1.fr, replB b [] σ1.bk⟩ K2) → KK σ1) → vops P G L l1 σ KK) :
  AW P G ro V w0 n (.region id L.toArray false) σ K := AW.markR hL hd ht he (h _ fun σ1 b e' l h1 h2 h3 h4 => ⟨b, e', l, h1, h2, h3, h4 _ fun _ h => h⟩)
end
attribute [local irreducible] AW AWY vops vopsY vop vopL vdraw callW qop binQ lenQ storeQ appendQ callQ ACalls AIter
attribute [local go_sem] byI_eq enW_eq wrI_eq wA_eq enB_eq boI_eq enZ_eq znI_eq vwA_eq noteA_eq storeQ_bp storeQ_rp
def aliveV : View := ⟨[⟨1, 0⟩], [], [⟨⟨1, 0⟩, 3, false⟩], [⟨3, ⟨1, 0⟩, [104, 105]⟩], 9⟩
def aliveN : Note := ⟨[], [⟨1, 0⟩], [], [⟨⟨1, 0⟩, 3, false⟩]⟩
theorem alive13a : newS 9 = (⟨[], [], [], [], 9⟩, 0) := by kernel_rfl
theorem alive13b : writeV ⟨[], [], [], [], 9⟩ 0 3 0 [104, 105] false = ⟨aliveV, aliveN, 0⟩ := by kernel_rfl
theorem alive13c : readV aliveV 3 = ([104, 105], ⟨⟨1, 0⟩, 3, false⟩, 0) := by kernel_rfl
set_option maxRecDepth 100000 in
set_option maxHeartbeats 3200000 in
theorem alive13_call : ACalls Tryz.prog TzTab 15 [] (.val (.bool true)) [] := by
 refine ACalls.of (n := 53) (rs := [.tmp 0]) Tryz.func15 rfl (by kernel_rfl) Tryz.ntmps15 (by kernel_rfl) (by simp) (fun _ _ => TzTab.later) ?_
 intro hok V w0
 have hn := new_call 9 rfl
 rw [alive13a] at hn
 have hw := vwrite_call ⟨[], [], [], [], 9⟩ 0 3 0 [104, 105] false rfl rfl rfl rfl
 rw [alive13b] at hw
 have hr := vread_call aliveV 3 rfl rfl
 rw [alive13c] at hr
 simp only [aliveV, aliveN] at hw hr
 refine g ?_
 refine AW.seq ?_
 refine AW.reg rfl fun KK hKK => ?_
 refine g ?_
 repeat' (first | refine hold_ (g ?_) | (refine hKK _ (g ?_); clear hKK KK) | exact trivial)
 refine AW.seq ?_
 refine AW.reg rfl fun KK hKK => ?_
 refine g ?_
 repeat' (first | refine hold_ (g ?_) | (refine hKK _ (g ?_); clear hKK KK) | exact trivial)
 refine call_ hn rfl (g ?_)
 refine g ?_
 repeat' (first | refine hold_ (g ?_) | (refine hKK _ (g ?_); clear hKK KK) | exact trivial)
 refine AW.seq ?_
 refine AW.mark (l1 := [_, _]) rfl rfl Tryz.underlying45 Tryz.underlying5 fun KK hKK => ?_
 refine g ?_
 repeat' (first | refine hold_ (g ?_) | (refine hKK _ (g ?_); clear hKK KK) | exact trivial)
 refine bs2 (by omega) rfl rfl rfl ⟨rfl, trivial⟩ rfl rfl rfl ⟨rfl, trivial⟩ ?_
 refine g ?_
 repeat' (first | refine hold_ (g ?_) | (refine hKK _ (g ?_); clear hKK KK) | exact trivial)
 refine hKK _ 1500 _ _ rfl rfl (by simp) ?_
 clear hKK KK
 intro KK hKK
 refine g ?_
 repeat' (first | refine hold_ (g ?_) | (refine hKK _ (g ?_); clear hKK KK) | exact trivial)
 refine call_ hw rfl (g ?_)
 refine g ?_
 repeat' (first | refine hold_ (g ?_) | (refine hKK _ (g ?_); clear hKK KK) | exact trivial)
 refine g ?_
 repeat' (first | refine st_ rfl (g ?_) | refine hold_ (g ?_) | exact trivial | refine cond_d (fun h => g ?_) (fun h => g ?_) | refine cond_ (fun h => g ?_) (fun h => g ?_) | (refine vops_ifd rfl rfl (fun h e => ?_) (fun h e => ?_) <;> simp only [e] <;> clear e <;> refine g ?_) | (refine vops_if rfl rfl (fun h => ?_) (fun h => ?_) <;> simp only [h] <;> refine g ?_) | refine ix_ (by omega) (g ?_) | refine call_ (hr) rfl (g ?_))
 simp only [decide_true]
 refine ⟨[104, 105], rfl, ?_⟩
 refine g ?_
 repeat' (first | refine st_ rfl (g ?_) | refine hold_ (g ?_) | exact trivial | refine cond_d (fun h => g ?_) (fun h => g ?_) | refine cond_ (fun h => g ?_) (fun h => g ?_) | (refine vops_ifd rfl rfl (fun h e => ?_) (fun h e => ?_) <;> simp only [e] <;> clear e <;> refine g ?_) | (refine vops_if rfl rfl (fun h => ?_) (fun h => ?_) <;> simp only [h] <;> refine g ?_) | refine ix_ (by omega) (g ?_))
 have hs : strOf [104, 105] = ⟨#[104, 105]⟩ := by kernel_rfl
 rw [hs]
 refine str_eq (g ?_)
 refine ⟨_, fun u => stamp_eq _ _ _ _ _ _ u, ?_⟩
 refine g ?_
 repeat' (first | refine st_ rfl (g ?_) | refine hold_ (g ?_) | exact trivial | refine cond_d (fun h => g ?_) (fun h => g ?_) | refine cond_ (fun h => g ?_) (fun h => g ?_) | (refine vops_ifd rfl rfl (fun h e => ?_) (fun h e => ?_) <;> simp only [e] <;> clear e <;> refine g ?_) | (refine vops_if rfl rfl (fun h => ?_) (fun h => ?_) <;> simp only [h] <;> refine g ?_) | refine ix_ (by omega) (g ?_))
 exact decide_eq_true trivial
end Go.Proofs.YtkphfdmelfhnoaaGreatDoor
namespace Go.Proofs.YtkphfdmelfhnoaaGreatDoor
open Go.ChangeShapes Go.WideShapes Go.ChangeAt Go.RowKit
attribute [local irreducible] AW AWY vops vopsY vop vopL vdraw callW qop binQ lenQ storeQ appendQ callQ ACalls AIter
attribute [local go_sem] wA_eq boA_eq vwA_eq storeQ_bp storeQ_rp
theorem write_ee (x y : Operand) (p q r : Int) (b : Bool) (w : World) : (do eqGuard .eql 55 x y (.agg #[.int .i64 p, .int .i64 q, .int .i64 r, .bool b]) (.agg #[.int .i64 p, .int .i64 q, .int .i64 r, .bool b]); binOp .eql 55 (.agg #[.int .i64 p, .int .i64 q, .int .i64 r, .bool b]) (.agg #[.int .i64 p, .int .i64 q, .int .i64 r, .bool b]) : Sem Value).run Tryz.prog w = .ok (.bool true) w := by
 go_simp
theorem read_in {v : View} {o : Int} (hI : ∀ x ∈ v.held, I64 x.stamp.count ∧ I64 x.stamp.node ∧ I64 x.object) : I64 (readV v o).2.1.stamp.count ∧ I64 (readV v o).2.1.stamp.node ∧ I64 (readV v o).2.1.object := by
 have h0 : I64 noW.stamp.count ∧ I64 noW.stamp.node ∧ I64 noW.object := ⟨rfl, rfl, rfl⟩
 unfold readV
 split
 ·split
  ·exact h0
  ·cases hg : getW v.held o with
   | none => exact h0
   | some w =>
    simp only
    split
    ·exact get_in hg hI
    ·exact get_in hg hI
 ·exact h0
set_option maxRecDepth 100000 in
set_option maxHeartbeats 3200000 in
theorem lawBodies (v : View) (x : Body) (o : Int) (iR : I64 v.room) (i0 : I64 x.object) (i1 : I64 x.stamp.count) (i2 : I64 x.stamp.node) (iO : I64 o) : ACalls Tryz.prog TzTab 14 [vwA v, boA x, .val (.int .i64 o)] (.val (.bool true)) [] := by
 refine ACalls.of (n := 84) (rs := [.tmp 6]) Tryz.func14 rfl (by kernel_rfl) Tryz.ntmps14 (by kernel_rfl) (by simp) (fun _ _ => TzTab.later) ?_
 intro hok V w0
 have hI : ∀ x ∈ v.held, I64 x.stamp.count ∧ I64 x.stamp.node ∧ I64 x.object := fun x hx => by
  obtain ⟨-, o1, o2, o3, -⟩ := okR_mem (by simpa [wrI] using hok.1.2.2.1.2) (enW x) (List.mem_map_of_mem hx)
  exact ⟨o1, o2, o3⟩
 have hb := vbody_call v x iR i0 i1 i2
 have hrb := rvbody_call v x iR i0 i1 i2
 have hf := bodyV_formed (v := v) (x := x)
 have hyr := body_room v x iR
 have hr := vread_call v o iR iO
 have hrr := rvread_call v o iR
 obtain ⟨w1, w2, w3⟩ := read_in (o := o) hI
 generalize bodyV v x = Y at hb hrb hf hyr
 obtain ⟨y, e⟩ := Y
 generalize readV v o = Q at hr hrr w1 w2 w3
 obtain ⟨b, w, q⟩ := Q
 simp only at hb hrb hf hyr hr hrr w1 w2 w3
 have hs := rbysame_call b b
 rw [decide_eq_true rfl] at hs
 refine g ?_
 refine AW.seq ?_
 refine AW.reg rfl fun KK hKK => ?_
 refine g ?_
 repeat' (first | refine hold_ (g ?_) | (refine hKK _ (g ?_); clear hKK KK) | exact trivial)
 refine AW.freeze 400 _ rfl ⟨trivial, trivial, trivial, trivial, iR, trivial⟩ ?_
 simp only [go_sem, reduceIte, Nat.reduceEqDiff]
 refine AW.freeze 500 _ rfl ⟨i0, i1, i2, trivial, trivial⟩ ?_
 simp only [go_sem, reduceIte, Nat.reduceEqDiff]
 refine g ?_
 repeat' (first | refine st_ rfl (g ?_) | refine hold_ (g ?_) | exact trivial | refine cond_d (fun h => g ?_) (fun h => g ?_) | refine cond_ (fun h => g ?_) (fun h => g ?_) | (refine vops_ifd rfl rfl (fun h e => ?_) (fun h e => ?_) <;> simp only [e] <;> clear e <;> refine g ?_) | (refine vops_if rfl rfl (fun h => ?_) (fun h => ?_) <;> simp only [h] <;> refine g ?_) | refine ix_ (by omega) (g ?_) | refine call_ (alive13_call) rfl (g ?_) | refine call_ (rvwcopy_call v iR) rfl (g ?_) | refine call_ (hb) rfl (g ?_) | refine call_ (hrb) rfl (g ?_) | refine call_ (hr) rfl (g ?_) | refine call_ (hrr) rfl (g ?_) | refine call_ (rvwsame_call y hyr) rfl (g ?_) | refine call_ (hs) rfl (g ?_) | refine call_ (rvwsame_call v iR) rfl (g ?_) | refine call_ (vform_call y hyr) rfl (g ?_))
 simp only [decide_true]
 refine ⟨_, fun u => write_ee _ _ _ _ _ _ u, ?_⟩
 refine g ?_
 repeat' (first | refine st_ rfl (g ?_) | refine hold_ (g ?_) | exact trivial | refine cond_d (fun h => g ?_) (fun h => g ?_) | refine cond_ (fun h => g ?_) (fun h => g ?_) | (refine vops_ifd rfl rfl (fun h e => ?_) (fun h e => ?_) <;> simp only [e] <;> clear e <;> refine g ?_) | (refine vops_if rfl rfl (fun h => ?_) (fun h => ?_) <;> simp only [h] <;> refine g ?_) | refine ix_ (by omega) (g ?_) | refine call_ (rvwsame_call v iR) rfl (g ?_) | refine call_ (vform_call y hyr) rfl (g ?_))
 exact hf (Decidable.of_not_not h)
end Go.Proofs.YtkphfdmelfhnoaaGreatDoor
namespace Go.Proofs.YtkphfdmelfhnoaaGreatDoor
open Go.ChangeShapes Go.WideShapes Go.ChangeAt Go.RowKit
def laying (cs : Array Value) : Obj → Obj
 | .cells _ t frozen => .cells cs t frozen
 | o => o
def tzCells : Array Value := #[.int .u8 0, .int .u8 1, .int .u8 56, .int .u8 2, .int .u8 57, .int .u8 49, .int .u8 28, .int .u8 3, .int .u8 61, .int .u8 58, .int .u8 42, .int .u8 50, .int .u8 38, .int .u8 29, .int .u8 17, .int .u8 4, .int .u8 62, .int .u8 47, .int .u8 59, .int .u8 36, .int .u8 45, .int .u8 43, .int .u8 51, .int .u8 22, .int .u8 53, .int .u8 39, .int .u8 33, .int .u8 30, .int .u8 24, .int .u8 18, .int .u8 12, .int .u8 5, .int .u8 63, .int .u8 55, .int .u8 48, .int .u8 27, .int .u8 60, .int .u8 41, .int .u8 37, .int .u8 16, .int .u8 46, .int .u8 35, .int .u8 44, .int .u8 21, .int .u8 52, .int .u8 32, .int .u8 23, .int .u8 11, .int .u8 54, .int .u8 26, .int .u8 40, .int .u8 15, .int .u8 34, .int .u8 20, .int .u8 31, .int .u8 10, .int .u8 25, .int .u8 14, .int .u8 19, .int .u8 9, .int .u8 13, .int .u8 8, .int .u8 7, .int .u8 6]
noncomputable def tzWorld (os : Os) : World :=
 { World.holding Tryz.prog os ⟨#[], #[], []⟩ with heap := (World.holding Tryz.prog os ⟨#[], #[], []⟩).heap.modify 0 (laying tzCells) }
theorem tzName : Tryz.prog.globalNamed "math/bits.deBruijn64tab" = some 0 := by kernel_rfl
theorem tzType : (Tryz.prog.globals[0]?).map (·.type) = some 280 := by kernel_rfl
theorem tz_of_laid {laid : List (String × DataW Unit)} {W : World} (e : (laid.filter fun x => x.1 == "math/bits.deBruijn64tab") = [("math/bits.deBruijn64tab", Lib.tabData .u8 (Lib.deBruijn64tab.map Int.ofNat))]) (h : laidMetH Tryz.prog laid W) : TzTab W := by
 have h1 := h.filter (fun x => x.1 == "math/bits.deBruijn64tab")
 rw [e] at h1
 have h2 := Lib.tabIs_of_head (rest := []) tzName tzType Tryz.underlying280 Tryz.underlying5 (by kernel_rfl) (by kernel_rfl) h1
 intro j hj
 have h3 := h2.cell tzName j (by simpa using hj)
 rw [h3]
 simp [List.getD, hj]
theorem small_part {H : Type} {l : List (DataW H)} (h : Rows.uptoSmall H l = true) : ∀ d, d ∈ l → Rows.uptoBulk d ≤ 1048576 := by
 have h2 : Rows.uptoBulkAll l ≤ 1048576 := of_decide_eq_true h
 intro d hd
 have := bulk_part hd
 omega
namespace cViewBodies
set_option maxRecDepth 100000 in
theorem contract (H : Type) (enc : TypeId × Value → H) (W : World) (base : Nat) (args : Array Value) (ds gs : List (DataW H)) (before : List MemPlace)
    (hval : ∀ (j : Nat) t v, Tryz.f14.params[j]? = some t → args[j]? = some v → Value.okWide Tryz.prog W .any base t v)
    (hW : DataW.Whole enc Tryz.prog Tryz.f14.params.toList Rows.viewBodiesSpec.vars false W args.toList ds gs before) (hk : Rows.uptoSmall H (ds ++ gs) = true) (hL : laidMetH Tryz.prog Rows.viewBodiesRow.laid W) :
    Calls Tryz.prog 14 args W fun e W' => ∃ v, e = .returned v ∧ Rows.viewBodiesSpec.post enc Tryz.prog Tryz.f14 false true false false W args v W' := by
  have hW' := hW
  obtain ⟨p, q, hA0, hV, rfl, hfz, hnd⟩ := hW
  have hA : DataW.TrodAll enc Tryz.prog W 0 (fun _ => true) true Tryz.f14.params.toList args.toList ds p := hA0
  rw [Tryz.params14] at hA hval
  obtain ⟨v0, vs0, d0, ds0, p0, q0, hargs, rfl, rfl, h0, r0⟩ := trodAll_cons hA
  obtain ⟨v1, vs1, d1, ds1, p1, q1, rfl, rfl, rfl, h1, r1⟩ := trodAll_cons r0
  obtain ⟨v2, vs2, d2, ds2, p2, q2, rfl, rfl, rfl, h2, r2⟩ := trodAll_cons r1
  obtain ⟨rfl, rfl, rfl⟩ := trodAll_nil r2
  obtain rfl : args = #[v0, v1, v2] := by cases args; simp_all
  obtain ⟨rfl, rfl⟩ := trodVars_none hV
  have hpart := small_part hk
  obtain ⟨cs0, rfl, hs0⟩ := okWide_struct Tryz.underlying27 (hval 0 _ v0 rfl rfl)
  obtain ⟨n0, hn0⟩ := h0
  obtain ⟨_, x0, va, vb, vc, vd, e0, hK, hZ, hH, hB, iR⟩ := opens_view (w := W) H enc n0 _ _ ⟨hn0, hpart d0 (by simp)⟩
  obtain rfl : cs0 = #[va, vb, vc, vd, .int .i64 x0.room] := Array.toList_inj.1 (by simpa only [Value.cells] using e0)
  obtain ⟨cs1, rfl, hs1⟩ := okWide_struct Tryz.underlying51 (hval 1 _ v1 rfl rfl)
  obtain ⟨n1, hn1⟩ := h1
  obtain ⟨_, x1, ve, e1, j0, j1, j2, hE⟩ := opens_body (w := W) H enc n1 _ _ ⟨hn1, hpart d1 (by simp)⟩
  obtain rfl : cs1 = #[.int .i64 x1.object, .int .i64 x1.stamp.count, .int .i64 x1.stamp.node, ve] := Array.toList_inj.1 (by simpa only [Value.cells] using e1)
  obtain ⟨a2, rfl, rfl, rfl, w2⟩ := open_int Tryz.underlying3 (hval 2 _ v2 rfl rfl) h2
  have hT : TzTab W := tz_of_laid (by kernel_rfl) hL
  clear hA0
  refine ((lawBodies x0 x1 a2 iR j0 j1 j2 w2).law hT (RepAs.cons (view_rep hK hZ hH hB) (RepAs.cons (body_rep hE) (RepAs.cons .val RepAs.nil)))).mono fun e W' ⟨he, hb⟩ => ?_
  subst he
  exact ⟨_, rfl, law_post laidOut (by kernel_rfl) (by kernel_rfl) Tryz.underlying4 rfl rfl rfl rfl hW' hb⟩
theorem laid_met (os : Os) : laidMet Tryz.prog Rows.viewBodiesRow.laid ((tzWorld os).forCall (fun _ _ => 0) ⟨#[], #[.agg #[.slice none 0 0, .slice none 0 0, .slice none 0 0, .slice none 0 0, .int .i64 0], .agg #[.int .i64 0, .int .i64 0, .int .i64 0, .slice none 0 0], .int .i64 0], []⟩).memory :=
  laidMet_of_run' 8 (by kernel_rfl) (by kernel_rfl)
theorem reads (os : Os) {H : Type} (enc : TypeId × Value → H) : ∃ places, DataW.whole enc Tryz.prog ((tzWorld os).forCall (fun _ _ => 0) ⟨#[], #[.agg #[.slice none 0 0, .slice none 0 0, .slice none 0 0, .slice none 0 0, .int .i64 0], .agg #[.int .i64 0, .int .i64 0, .int .i64 0, .slice none 0 0], .int .i64 0], []⟩).memory Tryz.f14.params.toList Rows.viewBodiesSpec.vars false (#[.agg #[.slice none 0 0, .slice none 0 0, .slice none 0 0, .slice none 0 0, .int .i64 0], .agg #[.int .i64 0, .int .i64 0, .int .i64 0, .slice none 0 0], .int .i64 0] : Array Value).toList 8 = some ([.agg [.nil, .nil, .nil, .nil, .lit (.int .i64 0)], .agg [.lit (.int .i64 0), .agg [.lit (.int .i64 0), .lit (.int .i64 0)], .nil], .lit (.int .i64 0)], [], places) :=
  ⟨[], by kernel_rfl⟩
set_option maxRecDepth 100000 in
theorem lifted (os : Os) (started : os.Started) (H : Type) (enc : TypeId × Value → H) (F : Stop.Interp) :
    ReturnsInHanded {} Tryz.checked os 14 .any ((Rows.OpenSpec.upto Rows.viewBodiesSpec).preRow enc Tryz.prog Tryz.f14 Rows.viewBodiesUptoRow.domain false Rows.viewBodiesUptoRow.laid) (((Rows.OpenSpec.upto Rows.viewBodiesSpec).at F).post enc Tryz.prog Tryz.f14 false true false false) := by
  obtain ⟨places, hx⟩ := reads os enc
  refine returnsInHanded_of_row (C := Tryz.checked) (s := Rows.OpenSpec.upto Rows.viewBodiesSpec) own started (by kernel_rfl) Tryz.func14
    (witness_row_at (enc := enc) (C := Tryz.checked) false (tzWorld os) #[.agg #[.slice none 0 0, .slice none 0 0, .slice none 0 0, .slice none 0 0, .int .i64 0], .agg #[.int .i64 0, .int .i64 0, .int .i64 0, .slice none 0 0], .int .i64 0] rfl (by kernel_rfl) (by kernel_rfl) (by kernel_rfl)
      (OpenSpec.preRow_of_cond 8 hx (by kernel_rfl) (fun k hk => by cases hk; kernel_rfl) (by kernel_rfl) (laid_met os))) ?_
  intro W base args ds gs before hval hW _ hcond _ hL _ _
  exact contract H enc W base args ds gs before hval hW (hcond _ rfl) hL
theorem c1 : laidOutB Tryz.pinned.checked.prog = true := by kernel_rfl
theorem c2 : mapsRowed Tryz.pinned.checked.prog = true := by kernel_rfl
theorem c3 : (Rows.viewBodiesUptoRow.inPlace == Tryz.pinned.checked.prog.inPlace 14) = true := by kernel_rfl
theorem c4 : (Rows.viewBodiesUptoRow.unfollowed == Tryz.pinned.checked.prog.unfollowed 14) = true := by kernel_rfl
theorem c5 : (Rows.viewBodiesUptoRow.recurses == Tryz.pinned.checked.prog.recurses 14) = true := by kernel_rfl
theorem c6 : (Rows.viewBodiesUptoRow.named == Tryz.pinned.checked.prog.varsNamed 14) = true := by kernel_rfl
theorem closed : joinedFacts Tryz.pinned.checked.prog 14 Tryz.f14 (Rows.OpenSpec.upto Rows.viewBodiesSpec).bare Rows.viewBodiesUptoRow = true := by
  unfold joinedFacts
  rw [c1, c2, c3, c4, c5, c6]
  kernel_rfl
theorem said : Rows.ViewBodiesUptoSaid :=
  OpenClaim.holds_of_cond 14 Tryz.f14 rfl rfl rfl rfl rfl rfl rfl ⟨rfl, rfl, rfl, rfl, rfl⟩ rfl rfl rfl rfl rfl (by kernel_rfl) Tryz.func14 closed
    (of_decide_eq_true (by kernel_rfl)) (by unfold Func.isWrapper; first | (rw [if_pos (by decide +kernel)]; kernel_rfl) | (rw [if_neg (by decide +kernel)]; exact ⟨rfl, rfl⟩))
    (fun os started H enc _ F => by rw [OpenClaim.pre_eq_preRow]; exact lifted os started H enc F)
theorem plain (f : FuncId) (fn : Func) (hf : Tryz.pinned.checked.prog.funcNamed "telltale/telltalelaw13.ViewBodies" = some f) (hfn : Tryz.pinned.checked.prog.funcs[f]? = some fn) :
    false = Tryz.pinned.checked.prog.looks [] ∧ ∀ (j : Nat) t, fn.params[j]? = some t → Tryz.pinned.checked.prog.wantsStandIn t = false := by
  obtain rfl : f = 14 := Option.some.inj ((show Tryz.prog.funcNamed "telltale/telltalelaw13.ViewBodies" = some 14 by kernel_rfl).symm.trans hf) |>.symm
  obtain rfl : fn = Tryz.f14 := (Option.some.inj (Tryz.func14.symm.trans hfn)).symm
  refine ⟨by kernel_rfl, fun j t ht => ?_⟩
  rw [Tryz.params14] at ht
  have hm := Array.mem_of_getElem? ht
  simp at hm
  rcases hm with rfl | rfl | rfl
  · exact (show Tryz.prog.wantsStandIn 27 = false by kernel_rfl)
  · exact (show Tryz.prog.wantsStandIn 51 = false by kernel_rfl)
  · exact (show Tryz.prog.wantsStandIn 3 = false by kernel_rfl)
theorem card : Rows.ViewBodiesUptoCardSaid :=
  Claim7.holds_tied_plain_at .later [] _ _ _ _ said (fun _ h => by cases h) (by as_aux_lemma => kernel_rfl) (fun _ h => by cases h) viewBodiesUpto_row_tie rfl ⟨rfl, rfl⟩ (by as_aux_lemma => kernel_rfl) rfl plain (by as_aux_lemma => kernel_rfl)
#print axioms card
end cViewBodies
end Go.Proofs.YtkphfdmelfhnoaaGreatDoor
