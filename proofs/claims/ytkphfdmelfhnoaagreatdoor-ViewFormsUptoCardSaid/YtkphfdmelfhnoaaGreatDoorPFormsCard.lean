/- The law ViewForms: whether any view is formed, what a new one is, and up to where an interest is known sharply, are the reference's. The card (second form: of bulk at most 1048576). -/
import Derived.Test.YtkphfdmelfhnoaaGreatDoorPRefThr
import Derived.Test.YtkphfdmelfhnoaaGreatDoorPViewEnc
import Derived.OpenShut
import Derived.Test.YtkphfdmelfhnoaaGreatDoorPCache
import Derived.Test.YtkphfdmelfhnoaaGreatDoorPPlace
import Derived.Test.YtkphfdmelfhnoaaGreatDoorPReached
import Derived.Test.YtkphfdmelfhnoaaGreatDoorPViewWrite
import Derived.Test.YtkphfdmelfhnoaaGreatDoorPAbsFrz
import Derived.Test.YtkphfdmelfhnoaaGreatDoorPConcatSpan
import Derived.Test.YtkphfdmelfhnoaaGreatDoorPRefTouch
import Derived.Test.YtkphfdmelfhnoaaGreatDoorPRead
import Derived.Test.YtkphfdmelfhnoaaGreatDoorCards
import Derived.Test.YtkphfdmelfhnoaaGreatDoorTie
import Derived.Lib.LaidTab
import Derived.Deep.DeepWitnessRowRef
import Derived.Lib.SmallJoins
set_option linter.all false
set_option linter.unnecessarySimpa false
set_option linter.unusedSimpArgs false
set_option linter.unusedVariables false
namespace Go.Proofs.YtkphfdmelfhnoaaGreatDoor
open Go.ChangeShapes Go.WideShapes Go.ChangeAt Go.RowKit
def ZoneR (w : World) (B : Nat) (cs : List Value) (z : Zone) : Prop := ∃ v, cs = [.int .i64 z.span.lo, .int .i64 z.span.hi, v] ∧ I64 z.span.lo ∧ I64 z.span.hi ∧ Stamps w B v z.vec
theorem opens_zone {w : World} : Opens Tryz.prog w 147 3 (ZoneR w w.heap.size) := by
 intro H enc fuel cs x h
 obtain ⟨hl, n, hf⟩ := struct_pieces Tryz.underlying147 h
 have hk : Tryz.prog.cellsOf 147 = 3 := by kernel_rfl
 have hs : Tryz.prog.cellsOf 78 = 2 := by kernel_rfl
 have hv : Tryz.prog.cellsOf 22 = 1 := by kernel_rfl
 rw [hk] at hl
 refine ⟨hl, ?_⟩
 match cs, hl with
 | [v0, v1, v2], _ =>
  obtain ⟨y0, h0⟩ := hf 0 78 0 2 rfl hs
  obtain ⟨y1, h1⟩ := hf 1 22 2 1 rfl hv
  obtain ⟨_, a, e0, i0, i1⟩ := opens_span (w := w) H enc n _ _ h0
  obtain ⟨_, b, _, e1, s1⟩ := opens_stamps (w := w) H enc n _ _ h1
  simp at e0 e1
  obtain ⟨rfl, rfl⟩ := e0
  subst e1
  exact ⟨⟨a, b⟩, _, rfl, i0, i1, s1⟩
abbrev Zones (w : World) (B : Nat) (v : Value) (l : List Zone) : Prop := Sl (ZoneR w B) 3 w B v l
theorem opens_zones {w : World} : Opens Tryz.prog w 23 1 (fun cs l => ∃ v, cs = [v] ∧ Zones w w.heap.size v l) :=
 opens_slice Tryz.underlying23 (by kernel_rfl) (by omega) opens_zone
abbrev Bodies (w : World) (B : Nat) (v : Value) (l : List Body) : Prop := Sl (BodyR w B) 4 w B v l
theorem opens_bodies {w : World} : Opens Tryz.prog w 25 1 (fun cs l => ∃ v, cs = [v] ∧ Bodies w w.heap.size v l) :=
 opens_slice Tryz.underlying25 (by kernel_rfl) (by omega) opens_body
def ViewR (w : World) (B : Nat) (cs : List Value) (x : View) : Prop := ∃ v0 v1 v2 v3, cs = [v0, v1, v2, v3, .int .i64 x.room] ∧ Stamps w B v0 x.known ∧ Zones w B v1 x.zones ∧ Writes w B v2 x.held ∧ Bodies w B v3 x.bodies ∧ I64 x.room
theorem opens_view {w : World} : Opens Tryz.prog w 27 5 (ViewR w w.heap.size) := by
 intro H enc fuel cs x h
 obtain ⟨hl, n, hf⟩ := struct_pieces Tryz.underlying27 h
 have hk : Tryz.prog.cellsOf 27 = 5 := by kernel_rfl
 have q0 : Tryz.prog.cellsOf 22 = 1 := by kernel_rfl
 have q1 : Tryz.prog.cellsOf 23 = 1 := by kernel_rfl
 have q2 : Tryz.prog.cellsOf 24 = 1 := by kernel_rfl
 have q3 : Tryz.prog.cellsOf 25 = 1 := by kernel_rfl
 have q4 : Tryz.prog.cellsOf 3 = 1 := by kernel_rfl
 rw [hk] at hl
 refine ⟨hl, ?_⟩
 match cs, hl with
 | [v0, v1, v2, v3, v4], _ =>
  obtain ⟨y0, h0⟩ := hf 0 22 0 1 rfl q0
  obtain ⟨y1, h1⟩ := hf 1 23 1 1 rfl q1
  obtain ⟨y2, h2⟩ := hf 2 24 2 1 rfl q2
  obtain ⟨y3, h3⟩ := hf 3 25 3 1 rfl q3
  obtain ⟨y4, h4⟩ := hf 4 3 4 1 rfl q4
  obtain ⟨_, a, _, e0, s0⟩ := opens_stamps (w := w) H enc n _ _ h0
  obtain ⟨_, b, _, e1, s1⟩ := opens_zones (w := w) H enc n _ _ h1
  obtain ⟨_, c, _, e2, s2⟩ := opens_writes (w := w) H enc n _ _ h2
  obtain ⟨_, d, _, e3, s3⟩ := opens_bodies (w := w) H enc n _ _ h3
  obtain ⟨_, r, e4, i4⟩ := opens_int (w := w) Tryz.underlying3 H enc n _ _ h4
  simp at e0 e1 e2 e3 e4
  subst e0 e1 e2 e3 e4
  exact ⟨⟨a, b, c, d, r⟩, _, _, _, _, rfl, s0, s1, s2, s3, i4⟩
theorem z_rep {X : World} {cs : List Value} {x : Zone} (h : ZoneR X X.heap.size cs x) : RepVs X cs (enZ x) := by
 obtain ⟨v0, rfl, h1, h2, h⟩ := h
 exact ⟨.val h1, .val h2, stamps_rep h (Nat.le_refl _), trivial⟩
theorem zones_rep {X : World} {v : Value} {l : List Zone} (h : Zones X X.heap.size v l) : RepV X v (znI l) := RepV.of_typed (fun _ _ h => z_rep h) h (Nat.le_refl _)
theorem bytes_rep {X : World} {v : Value} {l : List Nat} (h : Bytes X X.heap.size v l) : RepV X v (byI l) := RepV.of_typed (enc := fun (b : Nat) => [.val (.int .u8 b)]) (fun cs x h => by
 obtain ⟨rfl, h1⟩ := h
 refine ⟨.val ?_, trivial⟩
 simp [okV, Lit.wf, IntKind.max, IntKind.min, IntKind.signed, IntKind.bits]
 omega) h (Nat.le_refl _)
theorem b_rep {X : World} {cs : List Value} {x : Body} (h : BodyR X X.heap.size cs x) : RepVs X cs (enB x) := by
 obtain ⟨v0, rfl, h1, h2, h3, h⟩ := h
 exact ⟨.val h1, .val h2, .val h3, bytes_rep h, trivial⟩
theorem bodies_rep {X : World} {v : Value} {l : List Body} (h : Bodies X X.heap.size v l) : RepV X v (boI l) := RepV.of_typed (fun _ _ h => b_rep h) h (Nat.le_refl _)
theorem view_rep {E : Env} {X : World} {v0 v1 v2 v3 : Value} {x : View} (h0 : Stamps X X.heap.size v0 x.known) (h1 : Zones X X.heap.size v1 x.zones) (h2 : Writes X X.heap.size v2 x.held) (h3 : Bodies X X.heap.size v3 x.bodies) : RepA E X (.agg #[v0, v1, v2, v3, .int .i64 x.room]) (vwA x) :=
 .agg rfl fun j v c a b => by
  match j, a, b with
  | 0, a, b => simp at a b; subst a b; exact .iv (stamps_rep h0 (Nat.le_refl _))
  | 1, a, b => simp at a b; subst a b; exact .iv (zones_rep h1)
  | 2, a, b => simp at a b; subst a b; exact .iv (writes_rep h2 (Nat.le_refl _))
  | 3, a, b => simp at a b; subst a b; exact .iv (bodies_rep h3)
  | 4, a, b => simp at a b; subst a b; exact .val
  | j + 5, a, b => simp at a
theorem str_eq {t : TypeId} {x y : Operand} {a b : ByteArray} {K : AV → Prop} (h : K (.val (.bool (decide (a = b))))) : binQ Tryz.prog .eql t x y (.val (.string a)) (.val (.string b)) K := ⟨_, fun w => by
 go_simp
 rw [ByteArray.toList_eq, ByteArray.toList_eq]
 by_cases e : a = b
 ·simp [e]
 ·rw [decide_eq_false e, beq_eq_false_iff_ne]
  exact fun h => e (bytes_inj h), h⟩
theorem strOf_inj : ∀ {a b : List Nat}, (∀ x ∈ a, x < 256) → (∀ x ∈ b, x < 256) → (strOf a = strOf b ↔ a = b) := fun {a b} ha hb => by
 refine ⟨fun h => ?_, fun h => h ▸ rfl⟩
 unfold strOf strOfNums at h
 injection h with h
 have h := congrArg Array.toList h
 simp only [List.map_map] at h
 have key : ∀ {a b : List Nat}, (∀ x ∈ a, x < 256) → (∀ x ∈ b, x < 256) → a.map (fun n => UInt8.ofNat n) = b.map (fun n => UInt8.ofNat n) → a = b := by
  intro a
  induction a with
  | nil => intro b _ _ h; cases b with
   | nil => rfl
   | cons _ _ => cases h
  | cons x a ih => intro b ha hb h; cases b with
   | nil => cases h
   | cons y b =>
    injection h with h1 h2
    have e := congrArg UInt8.toNat h1
    have p := ha x (by simp)
    have q := hb y (by simp)
    simp only [UInt8.toNat_ofNat'] at e
    rw [ih (fun z hz => ha z (by simp [hz])) (fun z hz => hb z (by simp [hz])) h2]
    congr 1
    omega
 exact key ha hb (by simpa [Function.comp_def] using h)
attribute [local irreducible] AW AWY vops vopsY vop vopL vdraw callW qop binQ lenQ storeQ appendQ callQ ACalls AIter setI
attribute [local go_sem] boA_eq byI_eq storeQ_bp storeQ_rp
theorem by_lt {a : List Nat} (h : AV.okd (.iv (byI a))) : ∀ x ∈ a, x < 256 := fun x hx => by
 have h2 := okR_mem (by simpa [byI] using h.2) [IV.val (.int .u8 x)] (List.mem_map_of_mem (f := fun (b : Nat) => [IV.val (.int .u8 (b : Int))]) hx)
 have h3 : (Lit.int .u8 (x : Int)).wf = true := h2.2.1
 simp [Lit.wf, IntKind.max, IntKind.min, IntKind.signed, IntKind.bits] at h3
 omega
set_option maxRecDepth 100000 in
theorem rbysame_call (a b : List Nat) : ACalls Tryz.prog TzTab 65 [.iv (byI a), .iv (byI b)] (.val (.bool (decide (a = b)))) [] := by
 refine ACalls.of (n := 10) (rs := [.tmp 4]) Tryz.func65 rfl (by kernel_rfl) Tryz.ntmps65 (by kernel_rfl) (by simp) (fun _ _ => TzTab.later) ?_
 intro hok V w0
 obtain ⟨B, hB⟩ : ∃ B, decide (a = b) = B := ⟨_, rfl⟩
 rw [hB]
 refine g ?_
 repeat' (first | refine st_ rfl (g ?_) | refine hold_ (g ?_) | exact trivial | refine cond_d (fun h => g ?_) (fun h => g ?_) | refine cond_ (fun h => g ?_) (fun h => g ?_) | (refine vops_ifd rfl rfl (fun h e => ?_) (fun h e => ?_) <;> simp only [e] <;> clear e <;> refine g ?_) | (refine vops_if rfl rfl (fun h => ?_) (fun h => ?_) <;> simp only [h] <;> refine g ?_) | refine ix_ (by omega) (g ?_))
 refine ⟨a, rfl, hold_ ?_⟩
 refine g ?_
 repeat' (first | refine st_ rfl (g ?_) | refine hold_ (g ?_) | exact trivial | refine cond_d (fun h => g ?_) (fun h => g ?_) | refine cond_ (fun h => g ?_) (fun h => g ?_) | (refine vops_ifd rfl rfl (fun h e => ?_) (fun h e => ?_) <;> simp only [e] <;> clear e <;> refine g ?_) | (refine vops_if rfl rfl (fun h => ?_) (fun h => ?_) <;> simp only [h] <;> refine g ?_) | refine ix_ (by omega) (g ?_))
 refine ⟨b, rfl, hold_ ?_⟩
 refine g ?_
 repeat' (first | refine st_ rfl (g ?_) | refine hold_ (g ?_) | exact trivial | refine cond_d (fun h => g ?_) (fun h => g ?_) | refine cond_ (fun h => g ?_) (fun h => g ?_) | (refine vops_ifd rfl rfl (fun h e => ?_) (fun h e => ?_) <;> simp only [e] <;> clear e <;> refine g ?_) | (refine vops_if rfl rfl (fun h => ?_) (fun h => ?_) <;> simp only [h] <;> refine g ?_) | refine ix_ (by omega) (g ?_))
 refine str_eq ?_
 refine g ?_
 repeat' (first | refine st_ rfl (g ?_) | refine hold_ (g ?_) | exact trivial | refine cond_d (fun h => g ?_) (fun h => g ?_) | refine cond_ (fun h => g ?_) (fun h => g ?_) | (refine vops_ifd rfl rfl (fun h e => ?_) (fun h e => ?_) <;> simp only [e] <;> clear e <;> refine g ?_) | (refine vops_if rfl rfl (fun h => ?_) (fun h => ?_) <;> simp only [h] <;> refine g ?_) | refine ix_ (by omega) (g ?_))
 rw [← hB]
 exact decide_eq_decide.2 (strOf_inj (by_lt hok.1) (by_lt hok.2.1))
set_option maxRecDepth 100000 in
theorem rbosame_call (x y : Body) : ACalls Tryz.prog TzTab 30 [boA x, boA y] (.val (.bool (decide (x = y)))) [] := by
 refine ACalls.of (n := 24) (rs := [.tmp 4]) Tryz.func30 rfl (by kernel_rfl) Tryz.ntmps30 (by kernel_rfl) (by simp) (fun _ _ => TzTab.later) ?_
 intro hok V w0
 obtain ⟨B, hB⟩ : ∃ B, decide (x = y) = B := ⟨_, rfl⟩
 rw [hB]
 obtain ⟨xo, ⟨xc, xn⟩, xv⟩ := x
 obtain ⟨yo, ⟨yc, yn⟩, yv⟩ := y
 refine g ?_
 repeat' (first | refine st_ rfl (g ?_) | refine hold_ (g ?_) | exact trivial | refine cond_d (fun h => g ?_) (fun h => g ?_) | refine cond_ (fun h => g ?_) (fun h => g ?_) | (refine vops_ifd rfl rfl (fun h e => ?_) (fun h e => ?_) <;> simp only [e] <;> clear e <;> refine g ?_) | (refine vops_if rfl rfl (fun h => ?_) (fun h => ?_) <;> simp only [h] <;> refine g ?_) | refine ix_ (by omega) (g ?_) | refine call_ (rbysame_call _ _) rfl (g ?_))
 ·refine ⟨_, fun u => stamp_eq _ _ _ _ _ _ u, ?_⟩
  refine g ?_
  repeat' (first | refine st_ rfl (g ?_) | refine hold_ (g ?_) | exact trivial | refine cond_d (fun h => g ?_) (fun h => g ?_) | refine cond_ (fun h => g ?_) (fun h => g ?_) | (refine vops_ifd rfl rfl (fun h e => ?_) (fun h e => ?_) <;> simp only [e] <;> clear e <;> refine g ?_) | (refine vops_if rfl rfl (fun h => ?_) (fun h => ?_) <;> simp only [h] <;> refine g ?_) | refine ix_ (by omega) (g ?_) | refine call_ (rbysame_call _ _) rfl (g ?_))
  ·rw [← hB]
   have h3 : xc = yc ∧ xn = yn := by simpa using h
   rename_i h1
   rw [h1, h3.1, h3.2]
   simp
  ·rw [← hB]
   refine (decide_eq_false ?_).symm
   intro e
   injection e with e1 e2 e3
   injection e2 with e4 e5
   simp [e4, e5] at h
 ·rw [← hB]
  refine (decide_eq_false ?_).symm
  intro e
  injection e with e1
  exact h e1
end Go.Proofs.YtkphfdmelfhnoaaGreatDoor
namespace Go.Proofs.YtkphfdmelfhnoaaGreatDoor
open Go.ChangeShapes Go.WideShapes Go.ChangeAt Go.RowKit
attribute [local irreducible] AW AWY vops vopsY vop vopL vdraw callW qop binQ lenQ storeQ appendQ callQ ACalls AIter
attribute [local go_sem] enB_eq boI_eq boA_eq enW_eq wrI_eq wA_eq enZ_eq znI_eq vwA_eq storeQ_bp storeQ_rp
theorem span_nn (x y : Operand) (p q : Int) (w : World) : (do eqGuard .neq 78 x y (.agg #[.int .i64 p, .int .i64 q]) (.agg #[.int .i64 p, .int .i64 q]); binOp .neq 78 (.agg #[.int .i64 p, .int .i64 q]) (.agg #[.int .i64 p, .int .i64 q]) : Sem Value).run Tryz.prog w = .ok (.bool false) w := by
 go_simp
theorem write_nn (x y : Operand) (p q r : Int) (b : Bool) (w : World) : (do eqGuard .neq 55 x y (.agg #[.int .i64 p, .int .i64 q, .int .i64 r, .bool b]) (.agg #[.int .i64 p, .int .i64 q, .int .i64 r, .bool b]); binOp .neq 55 (.agg #[.int .i64 p, .int .i64 q, .int .i64 r, .bool b]) (.agg #[.int .i64 p, .int .i64 q, .int .i64 r, .bool b]) : Sem Value).run Tryz.prog w = .ok (.bool false) w := by
 go_simp
set_option maxRecDepth 100000 in
set_option maxHeartbeats 800000 in
theorem rbssame_call (l : List Body) : ACalls Tryz.prog TzTab 87 [.iv (boI l), .iv (boI l)] (.val (.bool true)) [] := by
 refine ACalls.of (n := 27) (rs := [.tmp 4]) Tryz.func87 rfl (by kernel_rfl) Tryz.ntmps87 (by kernel_rfl) (by simp) (fun _ _ => TzTab.later) ?_
 intro hok V w0
 have hlen : l.length ≤ 1073741824 := by simpa [boI] using hok.1.1
 refine g ?_
 repeat' (first | refine st_ rfl (g ?_) | refine hold_ (g ?_) | exact trivial | refine cond_d (fun h => g ?_) (fun h => g ?_) | refine cond_ (fun h => g ?_) (fun h => g ?_) | (refine hKD _ _ ⟨rfl, g ?_⟩; clear hKD KD) | ((first | refine vops_ifd rfl rfl (fun h e => ?_) (fun h e => ?_) | refine vdraw_ifd rfl rfl (fun h e => ?_) (fun h e => ?_)) <;> simp only [e] <;> clear e <;> refine g ?_) | ((first | refine vops_if rfl rfl (fun h => ?_) (fun h => ?_) | refine vdraw_if rfl rfl (fun h => ?_) (fun h => ?_)) <;> simp only [h] <;> refine g ?_) | refine ix_ (by omega) (g ?_))
 refine AW.loop (fun i : {i : Nat // i ≤ l.length} => ⟨[(0, .iv (boI l)), (1, .iv (boI l)), (5, .val (.int .i64 (i.1 : Nat)))], []⟩) (fun i => l.length - i.1) ⟨0, Nat.zero_le _⟩ id ⟨⟨rfl, rfl, rfl, trivial⟩, trivial, List.nodup_nil⟩ fun ⟨i, hi⟩ => ?_
 refine g ?_
 repeat' (first | refine st_ rfl (g ?_) | refine hold_ (g ?_) | exact trivial | refine cond_d (fun h => g ?_) (fun h => g ?_) | refine cond_ (fun h => g ?_) (fun h => g ?_) | (refine hKD _ _ ⟨rfl, g ?_⟩; clear hKD KD) | ((first | refine vops_ifd rfl rfl (fun h e => ?_) (fun h e => ?_) | refine vdraw_ifd rfl rfl (fun h e => ?_) (fun h e => ?_)) <;> simp only [e] <;> clear e <;> refine g ?_) | ((first | refine vops_if rfl rfl (fun h => ?_) (fun h => ?_) | refine vdraw_if rfl rfl (fun h => ?_) (fun h => ?_)) <;> simp only [h] <;> refine g ?_) | refine ix_ (by omega) (g ?_))
 have hlt : i < l.length := by omega
 have hg := get_map (f := enB) (List.getElem?_eq_getElem hlt)
 have hsame := rbosame_call l[i] l[i]
 rw [decide_eq_true rfl] at hsame
 refine AW.drawn (ds := [17, 18, 19, 20, 21, 22, 23, 24, 25, 26]) (fin := []) (bs := [0, 0, 0, 0, 0, 0, 0, 0, 0, 0]) [⟨[], [], [], [], 0⟩, ⟨[], [], [], [], 0⟩, ⟨[(17, 0), (18, 1)], [], [], [], 0⟩, ⟨[(19, 2)], [], [], [], 0⟩, ⟨[], [], [], [], 0⟩, ⟨[], [], [], [], 0⟩, ⟨[(21, 4), (22, 5)], [], [], [], 0⟩, ⟨[(23, 6)], [], [], [], 0⟩, ⟨[(20, 3), (24, 7)], [], [], [], 0⟩, ⟨[(25, 8)], [], [], [], 0⟩] (by kernel_rfl) rfl (by kernel_rfl) rfl rfl rfl fun KD hKD => ?_
 refine g ?_
 repeat' (first | refine st_ rfl (g ?_) | refine hold_ (g ?_) | exact trivial | refine cond_d (fun h => g ?_) (fun h => g ?_) | refine cond_ (fun h => g ?_) (fun h => g ?_) | (refine hKD _ _ ⟨rfl, g ?_⟩; clear hKD KD) | ((first | refine vops_ifd rfl rfl (fun h e => ?_) (fun h e => ?_) | refine vdraw_ifd rfl rfl (fun h e => ?_) (fun h e => ?_)) <;> simp only [e] <;> clear e <;> refine g ?_) | ((first | refine vops_if rfl rfl (fun h => ?_) (fun h => ?_) | refine vdraw_if rfl rfl (fun h => ?_) (fun h => ?_)) <;> simp only [h] <;> refine g ?_) | refine ix_ (by omega) (g ?_) | refine call_ (hsame) rfl (g ?_))
 exact ⟨⟨i + 1, hlt⟩, id, ⟨⟨rfl, rfl, rfl, trivial⟩, trivial, List.nodup_nil⟩, by show l.length - (i + 1) < l.length - i; omega⟩
set_option maxRecDepth 100000 in
set_option maxHeartbeats 800000 in
theorem rwsame_call (l : List Write) : ACalls Tryz.prog TzTab 86 [.iv (wrI l), .iv (wrI l)] (.val (.bool true)) [] := by
 refine ACalls.of (n := 26) (rs := [.tmp 4]) Tryz.func86 rfl (by kernel_rfl) Tryz.ntmps86 (by kernel_rfl) (by simp) (fun _ _ => TzTab.later) ?_
 intro hok V w0
 have hlen : l.length ≤ 1073741824 := by simpa [wrI] using hok.1.1
 refine g ?_
 repeat' (first | refine st_ rfl (g ?_) | refine hold_ (g ?_) | exact trivial | refine cond_d (fun h => g ?_) (fun h => g ?_) | refine cond_ (fun h => g ?_) (fun h => g ?_) | (refine hKD _ _ ⟨rfl, g ?_⟩; clear hKD KD) | ((first | refine vops_ifd rfl rfl (fun h e => ?_) (fun h e => ?_) | refine vdraw_ifd rfl rfl (fun h e => ?_) (fun h e => ?_)) <;> simp only [e] <;> clear e <;> refine g ?_) | ((first | refine vops_if rfl rfl (fun h => ?_) (fun h => ?_) | refine vdraw_if rfl rfl (fun h => ?_) (fun h => ?_)) <;> simp only [h] <;> refine g ?_) | refine ix_ (by omega) (g ?_))
 refine AW.loop (fun i : {i : Nat // i ≤ l.length} => ⟨[(0, .iv (wrI l)), (1, .iv (wrI l)), (5, .val (.int .i64 (i.1 : Nat)))], []⟩) (fun i => l.length - i.1) ⟨0, Nat.zero_le _⟩ id ⟨⟨rfl, rfl, rfl, trivial⟩, trivial, List.nodup_nil⟩ fun ⟨i, hi⟩ => ?_
 refine g ?_
 repeat' (first | refine st_ rfl (g ?_) | refine hold_ (g ?_) | exact trivial | refine cond_d (fun h => g ?_) (fun h => g ?_) | refine cond_ (fun h => g ?_) (fun h => g ?_) | (refine hKD _ _ ⟨rfl, g ?_⟩; clear hKD KD) | ((first | refine vops_ifd rfl rfl (fun h e => ?_) (fun h e => ?_) | refine vdraw_ifd rfl rfl (fun h e => ?_) (fun h e => ?_)) <;> simp only [e] <;> clear e <;> refine g ?_) | ((first | refine vops_if rfl rfl (fun h => ?_) (fun h => ?_) | refine vdraw_if rfl rfl (fun h => ?_) (fun h => ?_)) <;> simp only [h] <;> refine g ?_) | refine ix_ (by omega) (g ?_))
 have hlt : i < l.length := by omega
 have hg := get_map (f := enW) (List.getElem?_eq_getElem hlt)
 refine AW.drawn (ds := [17, 18, 19, 20, 21, 22, 23, 24, 25]) (fin := []) (bs := [0, 0, 0, 0, 0, 0, 0, 0, 0]) [⟨[], [], [], [], 0⟩, ⟨[], [], [], [], 0⟩, ⟨[(17, 0), (18, 1)], [], [], [], 0⟩, ⟨[(19, 2)], [], [], [], 0⟩, ⟨[], [], [], [], 0⟩, ⟨[], [], [], [], 0⟩, ⟨[(21, 4), (22, 5)], [], [], [], 0⟩, ⟨[(23, 6)], [], [], [], 0⟩, ⟨[(20, 3), (24, 7)], [], [], [], 0⟩] (by kernel_rfl) rfl (by kernel_rfl) rfl rfl rfl fun KD hKD => ?_
 refine g ?_
 repeat' (first | refine st_ rfl (g ?_) | refine hold_ (g ?_) | exact trivial | refine cond_d (fun h => g ?_) (fun h => g ?_) | refine cond_ (fun h => g ?_) (fun h => g ?_) | (refine hKD _ _ ⟨rfl, g ?_⟩; clear hKD KD) | ((first | refine vops_ifd rfl rfl (fun h e => ?_) (fun h e => ?_) | refine vdraw_ifd rfl rfl (fun h e => ?_) (fun h e => ?_)) <;> simp only [e] <;> clear e <;> refine g ?_) | ((first | refine vops_if rfl rfl (fun h => ?_) (fun h => ?_) | refine vdraw_if rfl rfl (fun h => ?_) (fun h => ?_)) <;> simp only [h] <;> refine g ?_) | refine ix_ (by omega) (g ?_))
 refine ⟨_, fun u => write_nn _ _ _ _ _ _ u, ?_⟩
 refine g ?_
 repeat' (first | refine st_ rfl (g ?_) | refine hold_ (g ?_) | exact trivial | refine cond_d (fun h => g ?_) (fun h => g ?_) | refine cond_ (fun h => g ?_) (fun h => g ?_) | (refine hKD _ _ ⟨rfl, g ?_⟩; clear hKD KD) | ((first | refine vops_ifd rfl rfl (fun h e => ?_) (fun h e => ?_) | refine vdraw_ifd rfl rfl (fun h e => ?_) (fun h e => ?_)) <;> simp only [e] <;> clear e <;> refine g ?_) | ((first | refine vops_if rfl rfl (fun h => ?_) (fun h => ?_) | refine vdraw_if rfl rfl (fun h => ?_) (fun h => ?_)) <;> simp only [h] <;> refine g ?_) | refine ix_ (by omega) (g ?_))
 exact ⟨⟨i + 1, hlt⟩, id, ⟨⟨rfl, rfl, rfl, trivial⟩, trivial, List.nodup_nil⟩, by show l.length - (i + 1) < l.length - i; omega⟩
set_option maxRecDepth 100000 in
set_option maxHeartbeats 800000 in
theorem rzsame_call (l : List Zone) : ACalls Tryz.prog TzTab 85 [.iv (znI l), .iv (znI l)] (.val (.bool true)) [] := by
 refine ACalls.of (n := 42) (rs := [.tmp 4]) Tryz.func85 rfl (by kernel_rfl) Tryz.ntmps85 (by kernel_rfl) (by simp) (fun _ _ => TzTab.later) ?_
 intro hok V w0
 have hlen : l.length ≤ 1073741824 := by simpa [znI] using hok.1.1
 refine g ?_
 repeat' (first | refine st_ rfl (g ?_) | refine hold_ (g ?_) | exact trivial | refine cond_d (fun h => g ?_) (fun h => g ?_) | refine cond_ (fun h => g ?_) (fun h => g ?_) | (refine hKD _ _ ⟨rfl, g ?_⟩; clear hKD KD) | ((first | refine vops_ifd rfl rfl (fun h e => ?_) (fun h e => ?_) | refine vdraw_ifd rfl rfl (fun h e => ?_) (fun h e => ?_)) <;> simp only [e] <;> clear e <;> refine g ?_) | ((first | refine vops_if rfl rfl (fun h => ?_) (fun h => ?_) | refine vdraw_if rfl rfl (fun h => ?_) (fun h => ?_)) <;> simp only [h] <;> refine g ?_) | refine ix_ (by omega) (g ?_))
 refine AW.loop (fun i : {i : Nat // i ≤ l.length} => ⟨[(0, .iv (znI l)), (1, .iv (znI l)), (5, .val (.int .i64 (i.1 : Nat)))], []⟩) (fun i => l.length - i.1) ⟨0, Nat.zero_le _⟩ id ⟨⟨rfl, rfl, rfl, trivial⟩, trivial, List.nodup_nil⟩ fun ⟨i, hi⟩ => ?_
 refine g ?_
 repeat' (first | refine st_ rfl (g ?_) | refine hold_ (g ?_) | exact trivial | refine cond_d (fun h => g ?_) (fun h => g ?_) | refine cond_ (fun h => g ?_) (fun h => g ?_) | (refine hKD _ _ ⟨rfl, g ?_⟩; clear hKD KD) | ((first | refine vops_ifd rfl rfl (fun h e => ?_) (fun h e => ?_) | refine vdraw_ifd rfl rfl (fun h e => ?_) (fun h e => ?_)) <;> simp only [e] <;> clear e <;> refine g ?_) | ((first | refine vops_if rfl rfl (fun h => ?_) (fun h => ?_) | refine vdraw_if rfl rfl (fun h => ?_) (fun h => ?_)) <;> simp only [h] <;> refine g ?_) | refine ix_ (by omega) (g ?_))
 have hlt : i < l.length := by omega
 have hg := get_map (f := enZ) (List.getElem?_eq_getElem hlt)
 have hsame := rvsame_call l[i].vec l[i].vec
 rw [decide_eq_true rfl] at hsame
 refine AW.drawn (ds := [17, 18, 19, 20, 21, 22, 23, 24, 25, 26, 27, 28, 29, 30, 31, 32, 33, 34, 35, 36, 37, 38, 39, 40, 41]) (fin := []) (bs := [0, 0, 0, 0, 0, 0, 0, 0, 0, 0, 0, 0, 0, 0, 0, 0, 0, 0, 0, 0, 0, 0, 0, 0, 0]) [⟨[], [], [], [], 0⟩, ⟨[], [], [], [], 0⟩, ⟨[(17, 0), (18, 1)], [], [], [], 0⟩, ⟨[(19, 2)], [], [], [], 0⟩, ⟨[(20, 3)], [], [], [], 0⟩, ⟨[], [], [], [], 0⟩, ⟨[], [], [], [], 0⟩, ⟨[(22, 5), (23, 6)], [], [], [], 0⟩, ⟨[(24, 7)], [], [], [], 0⟩, ⟨[(25, 8)], [], [], [], 0⟩, ⟨[(21, 4), (26, 9)], [], [], [], 0⟩, ⟨[(27, 10)], [], [], [], 0⟩, ⟨[], [], [], [], 0⟩, ⟨[], [], [], [], 0⟩, ⟨[(29, 12), (30, 13)], [], [], [], 0⟩, ⟨[(31, 14)], [], [], [], 0⟩, ⟨[(32, 15)], [], [], [], 0⟩, ⟨[], [], [], [], 0⟩, ⟨[], [], [], [], 0⟩, ⟨[(34, 17), (35, 18)], [], [], [], 0⟩, ⟨[(36, 19)], [], [], [], 0⟩, ⟨[(37, 20)], [], [], [], 0⟩, ⟨[(33, 16), (38, 21)], [], [], [], 0⟩, ⟨[(39, 22)], [], [], [], 0⟩, ⟨[(28, 11), (40, 23)], [], [], [], 0⟩] (by kernel_rfl) rfl (by kernel_rfl) rfl rfl rfl fun KD hKD => ?_
 refine g ?_
 repeat' (first | refine st_ rfl (g ?_) | refine hold_ (g ?_) | exact trivial | refine cond_d (fun h => g ?_) (fun h => g ?_) | refine cond_ (fun h => g ?_) (fun h => g ?_) | (refine hKD _ _ ⟨rfl, g ?_⟩; clear hKD KD) | ((first | refine vops_ifd rfl rfl (fun h e => ?_) (fun h e => ?_) | refine vdraw_ifd rfl rfl (fun h e => ?_) (fun h e => ?_)) <;> simp only [e] <;> clear e <;> refine g ?_) | ((first | refine vops_if rfl rfl (fun h => ?_) (fun h => ?_) | refine vdraw_if rfl rfl (fun h => ?_) (fun h => ?_)) <;> simp only [h] <;> refine g ?_) | refine ix_ (by omega) (g ?_) | refine call_ (hsame) rfl (g ?_))
 refine ⟨_, fun u => span_nn _ _ _ _ u, ?_⟩
 refine g ?_
 repeat' (first | refine st_ rfl (g ?_) | refine hold_ (g ?_) | exact trivial | refine cond_d (fun h => g ?_) (fun h => g ?_) | refine cond_ (fun h => g ?_) (fun h => g ?_) | (refine hKD _ _ ⟨rfl, g ?_⟩; clear hKD KD) | ((first | refine vops_ifd rfl rfl (fun h e => ?_) (fun h e => ?_) | refine vdraw_ifd rfl rfl (fun h e => ?_) (fun h e => ?_)) <;> simp only [e] <;> clear e <;> refine g ?_) | ((first | refine vops_if rfl rfl (fun h => ?_) (fun h => ?_) | refine vdraw_if rfl rfl (fun h => ?_) (fun h => ?_)) <;> simp only [h] <;> refine g ?_) | refine ix_ (by omega) (g ?_) | refine call_ (hsame) rfl (g ?_))
 exact ⟨⟨i + 1, hlt⟩, id, ⟨⟨rfl, rfl, rfl, trivial⟩, trivial, List.nodup_nil⟩, by show l.length - (i + 1) < l.length - i; omega⟩
set_option maxRecDepth 100000 in
set_option maxHeartbeats 800000 in
theorem rvwsame_call (v : View) (iR : I64 v.room) : ACalls Tryz.prog TzTab 20 [vwA v, vwA v] (.val (.bool true)) [] := by
 refine ACalls.of (n := 38) (rs := [.tmp 4]) Tryz.func20 rfl (by kernel_rfl) Tryz.ntmps20 (by kernel_rfl) (by simp) (fun _ _ => TzTab.later) ?_
 intro hok V w0
 have hs := rvsame_call v.known v.known
 rw [decide_eq_true rfl] at hs
 refine g ?_
 refine AW.seq ?_
 refine AW.reg rfl fun KK hKK => ?_
 refine g ?_
 repeat' (first | refine hold_ (g ?_) | (refine hKK _ (g ?_); clear hKK KK) | exact trivial)
 refine AW.freeze 300 _ rfl ⟨trivial, trivial, trivial, trivial, iR, trivial⟩ ?_
 simp only [go_sem, reduceIte, Nat.reduceEqDiff]
 refine AW.freeze 400 _ rfl ⟨trivial, trivial, trivial, trivial, iR, trivial⟩ ?_
 simp only [go_sem, reduceIte, Nat.reduceEqDiff]
 refine g ?_
 repeat' (first | refine st_ rfl (g ?_) | refine hold_ (g ?_) | exact trivial | refine cond_d (fun h => g ?_) (fun h => g ?_) | refine cond_ (fun h => g ?_) (fun h => g ?_) | (refine vops_ifd rfl rfl (fun h e => ?_) (fun h e => ?_) <;> simp only [e] <;> clear e <;> refine g ?_) | (refine vops_if rfl rfl (fun h => ?_) (fun h => ?_) <;> simp only [h] <;> refine g ?_) | refine ix_ (by omega) (g ?_) | refine call_ (hs) rfl (g ?_) | refine call_ (rzsame_call _) rfl (g ?_) | refine call_ (rwsame_call _) rfl (g ?_) | refine call_ (rbssame_call _) rfl (g ?_))
 exact decide_eq_true trivial
set_option maxRecDepth 100000 in
theorem rnew_call (room : Int) : ACalls Tryz.prog TzTab 60 [.val (.int .i64 room)] (.tup [vwA (newS room).1, .val (.int .i64 (newS room).2)]) [] := by
 refine ACalls.ofS (n := 13) (rs := [.cell 2 27, .tmp 3]) Tryz.func60 rfl (by kernel_rfl) Tryz.ntmps60 (by kernel_rfl) (by simp) (fun _ _ => TzTab.later) ?_
 intro hok V w0
 obtain ⟨R, hR⟩ : ∃ R, newS room = R := ⟨_, rfl⟩
 rw [hR]
 unfold newS roomB at hR
 refine g ?_
 repeat' (first | refine st_ rfl (g ?_) | refine hold_ (g ?_) | exact trivial | refine cond_d (fun h => g ?_) (fun h => g ?_) | refine cond_ (fun h => g ?_) (fun h => g ?_) | (refine vops_ifd rfl rfl (fun h e => ?_) (fun h e => ?_) <;> simp only [e] <;> clear e <;> refine g ?_) | (refine vops_if rfl rfl (fun h => ?_) (fun h => ?_) <;> simp only [h] <;> refine g ?_) | refine ix_ (by omega) (g ?_))
 ·rw [if_neg (by simp; omega)] at hR
  exact view_no hR.symm
 ·rw [if_neg (by simp; omega)] at hR
  exact view_no hR.symm
 ·rw [if_pos (by simp; omega)] at hR
  subst hR
  exact new_sub room
set_option maxRecDepth 100000 in
theorem rbycopyD (l : List Nat) : ACalls Tryz.prog TzTab 170 [.iv (byI l)] (.iv (byI l)) [] := by
 refine ACalls.ofS (n := 6) (rs := [.tmp 2]) Tryz.func170 rfl (by kernel_rfl) Tryz.ntmps170 (by kernel_rfl) (by simp) (fun _ _ => TzTab.later) ?_
 intro hok V w0
 have hlen : l.length ≤ 1073741824 := by simpa [byI] using hok.1.1
 refine g ?_
 repeat' (first | refine st_ rfl (g ?_) | refine hold_ (g ?_) | exact trivial | refine cond_d (fun h => g ?_) (fun h => g ?_) | refine cond_ (fun h => g ?_) (fun h => g ?_) | (refine vops_ifd rfl rfl (fun h e => ?_) (fun h e => ?_) <;> simp only [e] <;> clear e <;> refine g ?_) | (refine vops_if rfl rfl (fun h => ?_) (fun h => ?_) <;> simp only [h] <;> refine g ?_) | refine ix_ (by omega) (g ?_))
 refine bs0 (by omega) ?_
 refine g ?_
 repeat' (first | refine st_ rfl (g ?_) | refine hold_ (g ?_) | exact trivial | refine cond_d (fun h => g ?_) (fun h => g ?_) | refine cond_ (fun h => g ?_) (fun h => g ?_) | (refine vops_ifd rfl rfl (fun h e => ?_) (fun h e => ?_) <;> simp only [e] <;> clear e <;> refine g ?_) | (refine vops_if rfl rfl (fun h => ?_) (fun h => ?_) <;> simp only [h] <;> refine g ?_) | refine ix_ (by omega) (g ?_))
 refine append_own rfl (by kernel_rfl) (by omega) (by kernel_rfl) rfl (by simpa [byI] using hlen) ?_
 refine g ?_
 repeat' (first | refine hold_ (g ?_) | (refine hKK _ (g ?_); clear hKK KK) | exact trivial)
 refine AW.freeze 600 _ rfl trivial ?_
 simp only [go_sem, reduceIte, Nat.reduceEqDiff]
 refine g ?_
 repeat' (first | refine st_ rfl (g ?_) | refine hold_ (g ?_) | exact trivial | refine cond_d (fun h => g ?_) (fun h => g ?_) | refine cond_ (fun h => g ?_) (fun h => g ?_) | (refine vops_ifd rfl rfl (fun h e => ?_) (fun h e => ?_) <;> simp only [e] <;> clear e <;> refine g ?_) | (refine vops_if rfl rfl (fun h => ?_) (fun h => ?_) <;> simp only [h] <;> refine g ?_) | refine ix_ (by omega) (g ?_))
 exact Sub1.rfl_ _
set_option maxRecDepth 100000 in
theorem rbody_call (x : Body) (i0 : I64 x.object) (i1 : I64 x.stamp.count) (i2 : I64 x.stamp.node) : ACalls Tryz.prog TzTab 84 [boA x] (boA x) [] := by
 refine ACalls.of (n := 11) (rs := [.cell 2 51]) Tryz.func84 rfl (by kernel_rfl) Tryz.ntmps84 (by kernel_rfl) (by simp) (fun _ _ => TzTab.later) ?_
 intro hok V w0
 refine g ?_
 refine AW.seq ?_
 refine AW.reg rfl fun KK hKK => ?_
 refine g ?_
 repeat' (first | refine hold_ (g ?_) | (refine hKK _ (g ?_); clear hKK KK) | exact trivial)
 refine AW.freeze 200 _ rfl ⟨i0, i1, i2, trivial, trivial⟩ ?_
 simp only [go_sem, reduceIte, Nat.reduceEqDiff]
 refine g ?_
 repeat' (first | refine st_ rfl (g ?_) | refine hold_ (g ?_) | exact trivial | refine cond_d (fun h => g ?_) (fun h => g ?_) | refine cond_ (fun h => g ?_) (fun h => g ?_) | (refine hKD _ _ ⟨rfl, g ?_⟩; clear hKD KD) | ((first | refine vops_ifd rfl rfl (fun h e => ?_) (fun h e => ?_) | refine vdraw_ifd rfl rfl (fun h e => ?_) (fun h e => ?_)) <;> simp only [e] <;> clear e <;> refine g ?_) | ((first | refine vops_if rfl rfl (fun h => ?_) (fun h => ?_) | refine vdraw_if rfl rfl (fun h => ?_) (fun h => ?_)) <;> simp only [h] <;> refine g ?_) | refine ix_ (by omega) (g ?_))
 refine AW.drawn (ds := [3, 4, 5, 6, 7, 8, 9, 10]) (fin := [1]) (bs := [1, 1, 1, 1, 1, 1, 1, 1, 1]) [⟨[], [], [], [], 0⟩, ⟨[(3, 0)], [], [0], [], 0⟩, ⟨[], [], [], [], 0⟩, ⟨[(5, 2)], [], [0], [], 0⟩, ⟨[], [], [], [], 0⟩, ⟨[(7, 4)], [], [0], [], 0⟩, ⟨[(8, 5)], [], [0], [], 0⟩, ⟨[(4, 1), (6, 3), (9, 6)], [], [], [], 0⟩, ⟨[(10, 7)], [], [], [0], 1⟩] (by kernel_rfl) rfl (by kernel_rfl) rfl rfl rfl fun KD hKD => ?_
 refine g ?_
 repeat' (first | refine st_ rfl (g ?_) | refine hold_ (g ?_) | exact trivial | refine cond_d (fun h => g ?_) (fun h => g ?_) | refine cond_ (fun h => g ?_) (fun h => g ?_) | (refine hKD _ _ ⟨rfl, g ?_⟩; clear hKD KD) | ((first | refine vops_ifd rfl rfl (fun h e => ?_) (fun h e => ?_) | refine vdraw_ifd rfl rfl (fun h e => ?_) (fun h e => ?_)) <;> simp only [e] <;> clear e <;> refine g ?_) | ((first | refine vops_if rfl rfl (fun h => ?_) (fun h => ?_) | refine vdraw_if rfl rfl (fun h => ?_) (fun h => ?_)) <;> simp only [h] <;> refine g ?_) | refine ix_ (by omega) (g ?_) | refine call_ (rbycopyD _) rfl (g ?_))
end Go.Proofs.YtkphfdmelfhnoaaGreatDoor
namespace Go.Proofs.YtkphfdmelfhnoaaGreatDoor
open Go.ChangeShapes Go.WideShapes Go.ChangeAt Go.RowKit
attribute [local irreducible] AW AWY vops vopsY vop vopL vdraw callW qop binQ lenQ storeQ appendQ callQ ACalls AIter
attribute [local go_sem] enB_eq boI_eq boA_eq enW_eq wrI_eq wA_eq enZ_eq znI_eq vwA_eq storeQ_bp storeQ_rp
set_option maxRecDepth 100000 in
theorem rbscopy_call (l : List Body) : ACalls Tryz.prog TzTab 67 [.iv (boI l)] (.iv (boI l)) [] := by
 refine ACalls.of (n := 20) (rs := [.tmp 2]) Tryz.func67 rfl (by kernel_rfl) Tryz.ntmps67 (by kernel_rfl) (by simp) (fun _ _ => TzTab.later) ?_
 intro hok V w0
 have hlen : l.length ≤ 1073741824 := by simpa [boI] using hok.1.1
 refine g ?_
 repeat' (first | refine st_ rfl (g ?_) | refine hold_ (g ?_) | exact trivial | refine cond_d (fun h => g ?_) (fun h => g ?_) | refine cond_ (fun h => g ?_) (fun h => g ?_) | (refine vops_ifd rfl rfl (fun h e => ?_) (fun h e => ?_) <;> simp only [e] <;> clear e <;> refine g ?_) | (refine vops_if rfl rfl (fun h => ?_) (fun h => ?_) <;> simp only [h] <;> refine g ?_) | refine ix_ (by omega) (g ?_))
 refine AW.adopt 3 9900 51 4 rfl rfl ?_
 refine AW.loop (fun i : {i : Nat // i ≤ l.length} => ⟨[(0, .iv (boI l)), (3, .own 9900), (4, .val (.int .i64 (i.1 : Nat)))], [.row 9900 51 4 ((l.take i.1).map enB)]⟩) (fun i => l.length - i.1) ⟨0, Nat.zero_le _⟩ id ⟨⟨rfl, rfl, rfl, trivial⟩, ⟨rfl, trivial⟩, by simp [idsOf, BA.id]⟩ fun ⟨i, hi⟩ => ?_
 repeat (refine AW.seq ?_)
 refine AW.reg rfl fun KK hKK => ?_
 refine g ?_
 repeat' (first | refine hold_ (g ?_) | (refine hKK _ (g ?_); clear hKK KK) | exact trivial)
 repeat (refine AW.seq ?_)
 refine st_ rfl ?_
 refine g ?_
 refine cond_ (fun h => ?_) (fun h => ?_)
 ·have hlt : i < l.length := by have := of_decide_eq_true h; omega
  obtain ⟨-, o1, o2, o3, -⟩ := okR_mem (by simpa [boI] using hok.1.2) (enB l[i]) (List.mem_map_of_mem (List.getElem_mem hlt))
  refine g ?_
  repeat' (first | refine st_ rfl (g ?_) | refine hold_ (g ?_) | exact trivial | refine cond_ (fun h => g ?_) (fun h => g ?_))
  refine ⟨by omega, _, get_map (List.getElem?_eq_getElem hlt), ?_⟩
  refine g ?_
  repeat' (first | refine st_ rfl (g ?_) | refine hold_ (g ?_) | exact trivial | refine cond_ (fun h => g ?_) (fun h => g ?_))
  refine call_ (rbody_call l[i] o1 o2 o3) rfl ?_
  refine g ?_
  repeat' (first | refine st_ rfl (g ?_) | refine hold_ (g ?_) | exact trivial | refine cond_ (fun h => g ?_) (fun h => g ?_))
  refine bs1 (by omega) rfl rfl rfl ⟨o1, o2, o3, trivial, trivial⟩ ?_
  refine g ?_
  repeat' (first | refine st_ rfl (g ?_) | refine hold_ (g ?_) | exact trivial | refine cond_ (fun h => g ?_) (fun h => g ?_))
  refine append_own rfl (by kernel_rfl) (by omega) (by kernel_rfl) rfl (by simp; omega) ?_
  refine g ?_
  repeat' (first | refine st_ rfl (g ?_) | refine hold_ (g ?_) | exact trivial | refine cond_ (fun h => g ?_) (fun h => g ?_))
  refine ⟨⟨i + 1, hlt⟩, fun b => if b = 9900 then 1900 else b, ⟨⟨rfl, rfl, rfl, trivial⟩, ⟨?_, trivial⟩, by simp [idsOf, BA.id]⟩, by show l.length - (i + 1) < l.length - i; omega⟩
  show some (BA.row _ _ _ _) = some (BA.row _ _ _ ((l.take (i + 1)).map enB))
  rw [List.take_succ_eq_append_getElem hlt, List.map_append]
  rfl
 ·obtain rfl : i = l.length := by have := of_decide_eq_false h; omega
  refine AW.freeze 9900 _ rfl trivial ?_
  simp only [go_sem, reduceIte, Nat.reduceEqDiff]
  rw [List.take_length]
  refine g ?_
  repeat' (first | refine st_ rfl (g ?_) | refine hold_ (g ?_) | exact trivial | refine cond_d (fun h => g ?_) (fun h => g ?_) | refine cond_ (fun h => g ?_) (fun h => g ?_) | (refine vops_ifd rfl rfl (fun h e => ?_) (fun h e => ?_) <;> simp only [e] <;> clear e <;> refine g ?_) | (refine vops_if rfl rfl (fun h => ?_) (fun h => ?_) <;> simp only [h] <;> refine g ?_) | refine ix_ (by omega) (g ?_))
set_option maxRecDepth 100000 in
theorem rzcopy_call (l : List Zone) : ACalls Tryz.prog TzTab 66 [.iv (znI l)] (.iv (znI l)) [] := by
 refine ACalls.of (n := 27) (rs := [.tmp 2]) Tryz.func66 rfl (by kernel_rfl) Tryz.ntmps66 (by kernel_rfl) (by simp) (fun _ _ => TzTab.later) ?_
 intro hok V w0
 have hlen : l.length ≤ 1073741824 := by simpa [znI] using hok.1.1
 refine g ?_
 repeat' (first | refine st_ rfl (g ?_) | refine hold_ (g ?_) | exact trivial | refine cond_d (fun h => g ?_) (fun h => g ?_) | refine cond_ (fun h => g ?_) (fun h => g ?_) | (refine hKD _ _ ⟨rfl, g ?_⟩; clear hKD KD) | ((first | refine vops_ifd rfl rfl (fun h e => ?_) (fun h e => ?_) | refine vdraw_ifd rfl rfl (fun h e => ?_) (fun h e => ?_)) <;> simp only [e] <;> clear e <;> refine g ?_) | ((first | refine vops_if rfl rfl (fun h => ?_) (fun h => ?_) | refine vdraw_if rfl rfl (fun h => ?_) (fun h => ?_)) <;> simp only [h] <;> refine g ?_) | refine ix_ (by omega) (g ?_))
 refine AW.adopt 3 9900 147 3 rfl rfl ?_
 refine AW.loop (fun i : {i : Nat // i ≤ l.length} => ⟨[(0, .iv (znI l)), (3, .own 9900), (4, .val (.int .i64 (i.1 : Nat)))], [.row 9900 147 3 ((l.take i.1).map enZ)]⟩) (fun i => l.length - i.1) ⟨0, Nat.zero_le _⟩ id ⟨⟨rfl, rfl, rfl, trivial⟩, ⟨rfl, trivial⟩, by simp [idsOf, BA.id]⟩ fun ⟨i, hi⟩ => ?_
 repeat (refine AW.seq ?_)
 refine AW.reg rfl fun KK hKK => ?_
 refine g ?_
 repeat' (first | refine hold_ (g ?_) | (refine hKK _ (g ?_); clear hKK KK) | exact trivial)
 repeat (refine AW.seq ?_)
 refine st_ rfl ?_
 refine g ?_
 refine cond_ (fun h => ?_) (fun h => ?_)
 ·have hlt : i < l.length := by have := of_decide_eq_true h; omega
  obtain ⟨-, o1, o2, -⟩ := okR_mem (by simpa [znI] using hok.1.2) (enZ l[i]) (List.mem_map_of_mem (List.getElem_mem hlt))
  have hget := get_map (f := enZ) (List.getElem?_eq_getElem hlt)
  refine g ?_
  repeat' (first | refine st_ rfl (g ?_) | refine hold_ (g ?_) | exact trivial | refine cond_ (fun h => g ?_) (fun h => g ?_) | (refine hKD _ _ ⟨rfl, g ?_⟩; clear hKD KD))
  refine AW.drawn (ds := [11, 12, 13, 14, 15, 16, 17, 18, 19, 20, 21, 22, 23, 24, 25, 3]) (fin := [1, 2]) (bs := [1, 1, 1, 1, 1, 1, 1, 1, 1, 1, 1, 1, 1, 1, 2, 3]) [⟨[], [3], [], [], 0⟩, ⟨[], [], [], [], 0⟩, ⟨[], [], [], [], 0⟩, ⟨[(12, 1), (13, 2)], [], [0], [], 0⟩, ⟨[(14, 3)], [], [], [], 0⟩, ⟨[(15, 4)], [], [0], [], 0⟩, ⟨[], [], [], [], 0⟩, ⟨[], [], [], [], 0⟩, ⟨[(17, 6), (18, 7)], [], [0], [], 0⟩, ⟨[(19, 8)], [], [], [], 0⟩, ⟨[(20, 9)], [], [0], [], 0⟩, ⟨[(21, 10)], [], [0], [], 0⟩, ⟨[(16, 5), (22, 11)], [], [], [], 0⟩, ⟨[(23, 12)], [], [], [], 1⟩, ⟨[(11, 0), (24, 13)], [], [1], [0], 1⟩, ⟨[(25, 14)], [], [], [], 0⟩] (by kernel_rfl) rfl (by kernel_rfl) rfl rfl rfl fun KD hKD => ?_
  refine g ?_
  repeat' (first | refine st_ rfl (g ?_) | refine hold_ (g ?_) | exact trivial | refine cond_d (fun h => g ?_) (fun h => g ?_) | refine cond_ (fun h => g ?_) (fun h => g ?_) | (refine hKD _ _ ⟨rfl, g ?_⟩; clear hKD KD) | ((first | refine vops_ifd rfl rfl (fun h e => ?_) (fun h e => ?_) | refine vdraw_ifd rfl rfl (fun h e => ?_) (fun h e => ?_)) <;> simp only [e] <;> clear e <;> refine g ?_) | ((first | refine vops_if rfl rfl (fun h => ?_) (fun h => ?_) | refine vdraw_if rfl rfl (fun h => ?_) (fun h => ?_)) <;> simp only [h] <;> refine g ?_) | refine ix_ (by omega) (g ?_) | refine call_ (rvcopyD _) rfl (g ?_))
  refine bs1 (by omega) rfl rfl rfl ⟨o1, o2, trivial, trivial⟩ ?_
  refine g ?_
  repeat' (first | refine hold_ (g ?_) | (refine hKD _ _ ⟨rfl, g ?_⟩; clear hKD KD) | exact trivial)
  refine append_own rfl (by kernel_rfl) (by omega) (by kernel_rfl) rfl (by simp; omega) ?_
  refine g ?_
  repeat' (first | refine st_ rfl (g ?_) | refine hold_ (g ?_) | exact trivial | refine cond_d (fun h => g ?_) (fun h => g ?_) | refine cond_ (fun h => g ?_) (fun h => g ?_) | (refine hKD _ _ ⟨rfl, g ?_⟩; clear hKD KD) | ((first | refine vops_ifd rfl rfl (fun h e => ?_) (fun h e => ?_) | refine vdraw_ifd rfl rfl (fun h e => ?_) (fun h e => ?_)) <;> simp only [e] <;> clear e <;> refine g ?_) | ((first | refine vops_if rfl rfl (fun h => ?_) (fun h => ?_) | refine vdraw_if rfl rfl (fun h => ?_) (fun h => ?_)) <;> simp only [h] <;> refine g ?_) | refine ix_ (by omega) (g ?_))
  refine ⟨⟨i + 1, hlt⟩, fun b => if b = 9900 then 2600 else b, ⟨⟨rfl, rfl, rfl, trivial⟩, ⟨?_, trivial⟩, by simp [idsOf, BA.id]⟩, by show l.length - (i + 1) < l.length - i; omega⟩
  show some (BA.row _ _ _ _) = some (BA.row _ _ _ ((l.take (i + 1)).map enZ))
  rw [List.take_succ_eq_append_getElem hlt, List.map_append]
  rfl
 ·obtain rfl : i = l.length := by have := of_decide_eq_false h; omega
  refine AW.freeze 9900 _ rfl trivial ?_
  simp only [go_sem, reduceIte, Nat.reduceEqDiff]
  rw [List.take_length]
  refine g ?_
  repeat' (first | refine st_ rfl (g ?_) | refine hold_ (g ?_) | exact trivial | refine cond_d (fun h => g ?_) (fun h => g ?_) | refine cond_ (fun h => g ?_) (fun h => g ?_) | (refine hKD _ _ ⟨rfl, g ?_⟩; clear hKD KD) | ((first | refine vops_ifd rfl rfl (fun h e => ?_) (fun h e => ?_) | refine vdraw_ifd rfl rfl (fun h e => ?_) (fun h e => ?_)) <;> simp only [e] <;> clear e <;> refine g ?_) | ((first | refine vops_if rfl rfl (fun h => ?_) (fun h => ?_) | refine vdraw_if rfl rfl (fun h => ?_) (fun h => ?_)) <;> simp only [h] <;> refine g ?_) | refine ix_ (by omega) (g ?_))
set_option maxRecDepth 100000 in
set_option maxHeartbeats 800000 in
theorem rvwcopy_call (v : View) (iR : I64 v.room) : ACalls Tryz.prog TzTab 16 [vwA v] (vwA v) [] := by
 refine ACalls.ofS (n := 19) (rs := [.cell 2 27]) Tryz.func16 rfl (by kernel_rfl) Tryz.ntmps16 (by kernel_rfl) (by simp) (fun _ _ => TzTab.later) ?_
 intro hok V w0
 have hlen : v.held.length ≤ 1073741824 := by simpa [wrI] using hok.1.2.2.1.1
 refine g ?_
 refine AW.seq ?_
 refine AW.reg rfl fun KK hKK => ?_
 refine g ?_
 repeat' (first | refine hold_ (g ?_) | (refine hKK _ (g ?_); clear hKK KK) | exact trivial)
 refine AW.freeze 200 _ rfl ⟨trivial, trivial, trivial, trivial, iR, trivial⟩ ?_
 simp only [go_sem, reduceIte, Nat.reduceEqDiff]
 refine g ?_
 repeat' (first | refine st_ rfl (g ?_) | refine hold_ (g ?_) | exact trivial | refine cond_d (fun h => g ?_) (fun h => g ?_) | refine cond_ (fun h => g ?_) (fun h => g ?_) | (refine hKD _ _ ⟨rfl, g ?_⟩; clear hKD KD) | ((first | refine vops_ifd rfl rfl (fun h e => ?_) (fun h e => ?_) | refine vdraw_ifd rfl rfl (fun h e => ?_) (fun h e => ?_)) <;> simp only [e] <;> clear e <;> refine g ?_) | ((first | refine vops_if rfl rfl (fun h => ?_) (fun h => ?_) | refine vdraw_if rfl rfl (fun h => ?_) (fun h => ?_)) <;> simp only [h] <;> refine g ?_) | refine ix_ (by omega) (g ?_))
 refine AW.drawn (ds := [3, 4, 5, 6, 7, 8, 9, 10, 11, 12, 13, 14, 15, 16, 17, 18]) (fin := [2, 3]) (bs := [1, 1, 1, 1, 1, 1, 1, 2, 2, 2, 3, 3, 3, 3, 3, 3, 3]) [⟨[], [], [], [], 0⟩, ⟨[(3, 0)], [], [0], [], 0⟩, ⟨[(4, 1)], [], [0], [], 0⟩, ⟨[], [], [], [], 0⟩, ⟨[(6, 3)], [], [0], [], 0⟩, ⟨[(7, 4)], [], [0], [], 0⟩, ⟨[], [], [], [], 1⟩, ⟨[], [], [], [], 0⟩, ⟨[(10, 7)], [], [0], [], 0⟩, ⟨[(9, 6), (11, 8)], [], [0], [1], 1⟩, ⟨[], [], [], [], 0⟩, ⟨[(13, 10)], [], [0], [], 0⟩, ⟨[(14, 11)], [], [0, 2], [], 0⟩, ⟨[], [], [], [], 0⟩, ⟨[(16, 13)], [], [0], [], 0⟩, ⟨[(5, 2), (8, 5), (12, 9), (15, 12), (17, 14)], [], [], [], 0⟩, ⟨[(18, 15)], [], [], [0], 1⟩] (by kernel_rfl) rfl (by kernel_rfl) rfl rfl rfl fun KD hKD => ?_
 refine g ?_
 repeat' (first | refine st_ rfl (g ?_) | refine hold_ (g ?_) | exact trivial | refine cond_d (fun h => g ?_) (fun h => g ?_) | refine cond_ (fun h => g ?_) (fun h => g ?_) | (refine hKD _ _ ⟨rfl, g ?_⟩; clear hKD KD) | ((first | refine vops_ifd rfl rfl (fun h e => ?_) (fun h e => ?_) | refine vdraw_ifd rfl rfl (fun h e => ?_) (fun h e => ?_)) <;> simp only [e] <;> clear e <;> refine g ?_) | ((first | refine vops_if rfl rfl (fun h => ?_) (fun h => ?_) | refine vdraw_if rfl rfl (fun h => ?_) (fun h => ?_)) <;> simp only [h] <;> refine g ?_) | refine ix_ (by omega) (g ?_) | refine call_ (rvcopyD _) rfl (g ?_) | refine call_ (rzcopy_call _) rfl (g ?_))
 refine bs0 (by omega) ?_
 refine g ?_
 repeat' (first | refine hold_ (g ?_) | (refine hKD _ _ ⟨rfl, g ?_⟩; clear hKD KD) | exact trivial)
 refine append_own rfl (by kernel_rfl) (by omega) (by kernel_rfl) rfl (by simpa using hlen) ?_
 refine g ?_
 repeat' (first | refine hold_ (g ?_) | (refine hKD _ _ ⟨rfl, g ?_⟩; clear hKD KD) | exact trivial)
 refine call_ (rbscopy_call _) rfl ?_
 refine g ?_
 repeat' (first | refine hold_ (g ?_) | (refine hKD _ _ ⟨rfl, g ?_⟩; clear hKD KD) | exact trivial)
 refine AW.freeze 1300 _ rfl trivial ?_
 simp only [go_sem, reduceIte, Nat.reduceEqDiff]
 refine g ?_
 repeat' (first | refine st_ rfl (g ?_) | refine hold_ (g ?_) | exact trivial | refine cond_d (fun h => g ?_) (fun h => g ?_) | refine cond_ (fun h => g ?_) (fun h => g ?_) | (refine hKD _ _ ⟨rfl, g ?_⟩; clear hKD KD) | ((first | refine vops_ifd rfl rfl (fun h e => ?_) (fun h e => ?_) | refine vdraw_ifd rfl rfl (fun h e => ?_) (fun h e => ?_)) <;> simp only [e] <;> clear e <;> refine g ?_) | ((first | refine vops_if rfl rfl (fun h => ?_) (fun h => ?_) | refine vdraw_if rfl rfl (fun h => ?_) (fun h => ?_)) <;> simp only [h] <;> refine g ?_) | refine ix_ (by omega) (g ?_))
 exact Sub1.rfl_ _
end Go.Proofs.YtkphfdmelfhnoaaGreatDoor
namespace Go.Proofs.YtkphfdmelfhnoaaGreatDoor
open Go.ChangeShapes Go.WideShapes Go.ChangeAt Go.RowKit
theorem frz_heap {w : World} {g n : Nat} {e : TypeId} {C : Array Value} (hB : Blk w g e C) : (w.freeze ⟨g, n, none⟩ 1).heap.size = w.heap.size ∧ (∀ k, k ≠ g → (w.freeze ⟨g, n, none⟩ 1).heap[k]? = w.heap[k]?) ∧ (∀ p : Addr, (w.freeze ⟨g, n, none⟩ 1).cell? p = w.cell? p) := by
 have hsz : (w.freeze ⟨g, n, none⟩ 1).heap.size = w.heap.size := by simp [World.freeze]
 have hfar : ∀ k, k ≠ g → (w.freeze ⟨g, n, none⟩ 1).heap[k]? = w.heap[k]? := fun k hk => by
  simp [World.freeze, Array.getElem?_modify, Ne.symm hk]
 refine ⟨hsz, hfar, fun p => ?_⟩
 by_cases hp : p.block = g
 ·have h1 : (w.freeze ⟨g, n, none⟩ 1).heap[g]? = some (.cells C e (n, n + 1)) := by
   have := hB
   unfold Blk at this
   simp [World.freeze, Array.getElem?_modify, this]
  have h2 : w.heap[g]? = some (.cells C e (0, 0)) := hB
  unfold World.cell?
  rw [hp, h1, h2]
 ·exact World.cell?_of_block (hfar _ hp)
theorem frz_below {w0 w : World} {g n : Nat} {e : TypeId} {C : Array Value} (hB : Blk w g e C) (h : Below w0.heap.size w0 w) (hg : w0.heap.size ≤ g) : Below w0.heap.size w0 (w.freeze ⟨g, n, none⟩ 1) := by
 obtain ⟨h1, h2, _⟩ := frz_heap (n := n) hB
 refine ⟨?_, ?_, ?_, by rw [h1]; exact h.size, fun k hk => by rw [h2 k (by omega)]; exact h.block k hk⟩
 ·simpa [World.freeze] using h.os
 ·simpa [World.freeze] using h.tape
 ·simpa [World.freeze] using h.output
theorem run_mark {P : Program} {w : World} {t e e' : TypeId} {C : Array Value} {g n c : Nat} (ht : P.underlying t = some (.slice e)) (he : P.underlying e = some (.int .u8)) (hB : Blk w g e' C) :
  (convert t t (.slice (some ⟨g, 0, none⟩) n c)).run P w = .ok (.slice (some ⟨g, 0, none⟩) n c) (w.freeze ⟨g, C.size, none⟩ 1) := by
 have hsh : w.shape? g = some (e', C.size) := by
  unfold World.shape?
  rw [show w.heap[g]? = some (.cells C e' (0, 0)) from hB]
 simp [convert, run_underlying ht, run_underlying he, markStringish, hsh]
theorem list_step1 {P : Program} {ro : Option Nat} {ops : Array Oper} {o : Oper} {rest : List Oper} {Q : Exit → Act → World → Prop} {a : Act} {w w' : World} {v : Value} (hg : o.guard = none) (hd : ∀ c, o.op ≠ .defer c) (hx : (execOp a.eval o).run P w = .ok (.value v) w') (h : wpListIn (FW ro) 0 P ops Q rest (a.put o.dst v) w') : wpListIn (FW ro) 0 P ops Q (o :: rest) a w := by
 refine wpListIn_step fun K' hK' => ?_
 rw [if_pos (by unfold Region.wanted; rw [hg])]
 refine wp_wpIn hd ?_
 unfold Oper.wp
 rw [hx, Oper.upon_value]
 exact hK' _ _ h
section
variable {P : Program} {G : World → Prop} {V w0 : World} {n : Fm} {ro : Option Nat}
theorem vops_run2 {ops : List Oper} {Q : Exit → Act → World → Prop} {rest2 : List Oper} (hG : ∀ w', Below w0.heap.size w0 w' → G w') : ∀ (l : List Oper) (σ : AState) (K : AState → Prop) (E : Env) (a : Act) (w : World), dstsOk n.nd l = true → vops P G ops l σ K → St V w0 n E σ a w →
  (∀ (E' : Env) (σ' : AState) (a' : Act) (w' : World), K σ' → St V w0 n E' σ' a' w' → wpListIn (FW ro) 0 P ops.toArray Q rest2 a' w') → wpListIn (FW ro) 0 P ops.toArray Q (l ++ rest2) a w := by
 intro l
 induction l with
 | nil => exact fun σ K E a w _ h hs hQ => hQ E σ a w h hs
 | cons o rest ih =>
  intro σ K E a w hd h hs hQ
  simp only [dstsOk, Bool.and_eq_true] at hd
  have hdst : ∀ d, o.dst = some d → d < n.nd.n ∧ d ∉ n.nd.fx := fun d e => by
   have := hd.1
   rw [e] at this
   simp only [Bool.and_eq_true, Bool.not_eq_true'] at this
   exact ⟨blt_iff.1 this.1, memN_iff this.2⟩
  refine wpListIn_step fun K' hK' => ?_
  rcases guard_run hs h with ⟨hw, hr⟩ | ⟨hw, hr⟩
  ·rw [if_pos hw]
   obtain ⟨r, bk', hK, hu⟩ := vop_run hr
   refine hu V w0 n E a w hs hG K' Q (fun v w' E' hs' hv => hK' _ _ (ih ⟨putF o.dst r σ.fr, bk'⟩ K E' (a.put o.dst v) w' hd.2 hK (hs'.put hdst hv) hQ)) ro
  ·rw [if_neg (by rw [hw]; simp)]
   refine ⟨fun _ _ => trivial, hK' _ _ (ih ⟨putF o.dst (.val undef) σ.fr, σ.bk⟩ K E (a.put o.dst undef) w hd.2 hr (hs.put hdst .val) hQ)⟩
end
theorem dstsOk_append {n : Nd} : ∀ (l m : List Oper), dstsOk n (l ++ m) = (dstsOk n l && dstsOk n m)
 | [], m => rfl
 | o :: l, m => by rw [List.cons_append, dstsOk, dstsOk, dstsOk_append l m, Bool.and_assoc]
section
variable {P : Program} {G : World → Prop} {σ : AState} {V w0 : World} {n : Nd} {ro : Option Nat} {K : Exit → AState → Prop}
theorem AW.markR {id : Nat} {l1 l2 : List Oper} {t e : TypeId} {d s : Nat} {y : TypeId} {p : String} {ar : Array Edge} {L : List Oper} (hL : L = l1 ++ ⟨some d, .convert t t (.tmp s), y, p, ar, none⟩ :: l2)
  (hd : dstsOk n L = true) (ht : P.underlying t = some (.slice e)) (he : P.underlying e = some (.int .u8))
  (h : vops P G L l1 σ fun σ1 => ∃ b e' l, look σ1.fr s = .own b ∧ findB b σ1.bk = some (.row b e' 1 l) ∧ l ≠ [] ∧ vops P G L l2 ⟨putF (some d) (.iv (.sl 1 l)) σ1.fr, replB b [] σ1.bk⟩ fun σ' => K .normal σ') :
  AW P G ro V w0 n (.region id L.toArray false) σ K := fun hG m E a w hn hs => by
 rw [hL, dstsOk_append, Bool.and_eq_true] at hd
 obtain ⟨hd1, hd2⟩ := hd
 simp only [dstsOk, Bool.and_eq_true] at hd2
 refine wpIn_region_lit ?_
 suffices H : wpListIn (FW ro) 0 P L.toArray (Arr V w0 m K) (l1 ++ ⟨some d, .convert t t (.tmp s), y, p, ar, none⟩ :: l2) a w by rwa [← hL] at H
 refine vops_run2 hG l1 σ _ E a w (by rw [hn]; exact hd1) h hs fun E1 σ1 a1 w1 ⟨b, e', l, q1, q2, q3, hK⟩ hs1 => ?_
 have s1 := hs1.slots s
 rw [q1] at s1
 obtain ⟨pre, post, e1, e2, e3⟩ := findB_split q2
 obtain ⟨fr, bk⟩ := σ1
 simp only at e1 e3 hK hs1 q1 q2 s1
 have e4 := e3 []
 subst e1
 rw [e4] at hK
 obtain ⟨hO, hB⟩ := hs1.holds (.row b e' 1 l) (by simp)
 obtain ⟨v, hv⟩ : ∃ v, a1.tmps.getD s undef = v := ⟨_, rfl⟩
 rw [hv] at s1
 have hfz := St.frz_rep hs1 (x := .row b e' 1 l) trivial s1
 rw [frzA_own_row, if_pos rfl] at hfz
 have hev : v = E1.row b := by
  cases s1 with
  | own h => exact h.symm
 rcases hO.forms with ⟨_, h0⟩ | ⟨g, c, hvv, hg1, hg2⟩
 ·exact absurd h0 q3
 rw [hvv] at hO
 obtain ⟨cur, _, _, hBk, _⟩ := hO.open_
 obtain ⟨f1, f2, f3⟩ := frz_heap (n := cur.size) hBk
 have hgm : owns E1 [.row b e' 1 l] = [g] := by simp [owns, BA.owned, hvv, Value.ownBlock]
 have hsw := St.swap (E' := E1) (nb := []) (mid := [.row b e' 1 l]) (lo := 0) (hi := 0) (w' := w1.freeze ⟨g, cur.size, none⟩ 1) hs1 (fun k hk _ => f2 k (fun h => hk (by rw [hgm, h]; simp))) (by rw [f1]; exact Nat.le_refl _) (frz_below hBk hs1.low hg1) (Env.same_refl 0 0 E1) (offF_none _) (offB_none _) (by simp [owns]) (by simp [owns]) (by simp)
 refine list_step1 rfl (fun _ h => by cases h) (v := v) (w' := w1.freeze ⟨g, cur.size, none⟩ 1) ?_ ?_
 ·have : a1.eval (.tmp s) = v := hv
  simp only [execOp, this]
  refine run_v ?_
  rw [hev, hvv]
  exact run_mark ht he hBk
 ·refine vops_run hG l2 _ _ E1 _ _ (by rw [hn]; exact hd2.2) hK (hsw.put (fun d' hd' => ?_) (hfz.mono (vis_ext (by rw [f1]; exact Nat.le_refl _) fun p u _ _ h3 h4 => ⟨h3, by rw [f3]; exact h4⟩))) fun E' σ' a' w' hK hs' => ⟨m, E', σ', Fm.le.refl m, hK, hs'⟩
  cases hd'
  have := hd2.1
  simp only [Bool.and_eq_true, Bool.not_eq_true'] at this
  rw [hn]
  exact ⟨blt_iff.1 this.1, memN_iff this.2⟩
theorem AW.mark {id : Nat} {l1 l2 : List Oper} {t e : TypeId} {d s : Nat} {y : TypeId} {p : String} {ar : Array Edge} {L : List Oper} (hL : L = l1 ++ ⟨some d, .convert t t (.tmp s), y, p, ar, none⟩ :: l2)
  (hd : dstsOk n L = true) (ht : P.underlying t = some (.slice e)) (he : P.underlying e = some (.int .u8))
  (h : ∀ KK : AState → Prop, (∀ σ1 b e' l, look σ1.fr s = .own b → findB b σ1.bk = some (.row b e' 1 l) → l ≠ [] → (∀ K2 : AState → Prop, (∀ σ', K .normal σ' → K2 σ') → vops P G L l2 ⟨putF (some d) (.iv (.sl 1 l)) σ1.fr, replB b [] σ1.bk⟩ K2) → KK σ1) → vops P G L l1 σ KK) :
  AW P G ro V w0 n (.region id L.toArray false) σ K := AW.markR hL hd ht he (h _ fun σ1 b e' l h1 h2 h3 h4 => ⟨b, e', l, h1, h2, h3, h4 _ fun _ h => h⟩)
end
attribute [local irreducible] AW AWY vops vopsY vop vopL vdraw callW qop binQ lenQ storeQ appendQ callQ ACalls AIter
attribute [local go_sem] byI_eq enW_eq wrI_eq wA_eq enB_eq boI_eq enZ_eq znI_eq vwA_eq noteA_eq storeQ_bp storeQ_rp
def aliveV : View := ⟨[⟨1, 0⟩], [], [⟨⟨1, 0⟩, 3, false⟩], [⟨3, ⟨1, 0⟩, [104, 105]⟩], 9⟩
def aliveN : Note := ⟨[], [⟨1, 0⟩], [], [⟨⟨1, 0⟩, 3, false⟩]⟩
theorem alive13a : newS 9 = (⟨[], [], [], [], 9⟩, 0) := by kernel_rfl
theorem alive13b : writeV ⟨[], [], [], [], 9⟩ 0 3 0 [104, 105] false = ⟨aliveV, aliveN, 0⟩ := by kernel_rfl
theorem alive13c : readV aliveV 3 = ([104, 105], ⟨⟨1, 0⟩, 3, false⟩, 0) := by kernel_rfl
set_option maxRecDepth 100000 in
set_option maxHeartbeats 3200000 in
theorem alive13_call : ACalls Tryz.prog TzTab 15 [] (.val (.bool true)) [] := by
 refine ACalls.of (n := 53) (rs := [.tmp 0]) Tryz.func15 rfl (by kernel_rfl) Tryz.ntmps15 (by kernel_rfl) (by simp) (fun _ _ => TzTab.later) ?_
 intro hok V w0
 have hn := new_call 9 rfl
 rw [alive13a] at hn
 have hw := vwrite_call ⟨[], [], [], [], 9⟩ 0 3 0 [104, 105] false rfl rfl rfl rfl
 rw [alive13b] at hw
 have hr := vread_call aliveV 3 rfl rfl
 rw [alive13c] at hr
 simp only [aliveV, aliveN] at hw hr
 refine g ?_
 refine AW.seq ?_
 refine AW.reg rfl fun KK hKK => ?_
 refine g ?_
 repeat' (first | refine hold_ (g ?_) | (refine hKK _ (g ?_); clear hKK KK) | exact trivial)
 refine AW.seq ?_
 refine AW.reg rfl fun KK hKK => ?_
 refine g ?_
 repeat' (first | refine hold_ (g ?_) | (refine hKK _ (g ?_); clear hKK KK) | exact trivial)
 refine call_ hn rfl (g ?_)
 refine g ?_
 repeat' (first | refine hold_ (g ?_) | (refine hKK _ (g ?_); clear hKK KK) | exact trivial)
 refine AW.seq ?_
 refine AW.mark (l1 := [_, _]) rfl rfl Tryz.underlying45 Tryz.underlying5 fun KK hKK => ?_
 refine g ?_
 repeat' (first | refine hold_ (g ?_) | (refine hKK _ (g ?_); clear hKK KK) | exact trivial)
 refine bs2 (by omega) rfl rfl rfl ⟨rfl, trivial⟩ rfl rfl rfl ⟨rfl, trivial⟩ ?_
 refine g ?_
 repeat' (first | refine hold_ (g ?_) | (refine hKK _ (g ?_); clear hKK KK) | exact trivial)
 refine hKK _ 1500 _ _ rfl rfl (by simp) ?_
 clear hKK KK
 intro KK hKK
 refine g ?_
 repeat' (first | refine hold_ (g ?_) | (refine hKK _ (g ?_); clear hKK KK) | exact trivial)
 refine call_ hw rfl (g ?_)
 refine g ?_
 repeat' (first | refine hold_ (g ?_) | (refine hKK _ (g ?_); clear hKK KK) | exact trivial)
 refine g ?_
 repeat' (first | refine st_ rfl (g ?_) | refine hold_ (g ?_) | exact trivial | refine cond_d (fun h => g ?_) (fun h => g ?_) | refine cond_ (fun h => g ?_) (fun h => g ?_) | (refine vops_ifd rfl rfl (fun h e => ?_) (fun h e => ?_) <;> simp only [e] <;> clear e <;> refine g ?_) | (refine vops_if rfl rfl (fun h => ?_) (fun h => ?_) <;> simp only [h] <;> refine g ?_) | refine ix_ (by omega) (g ?_) | refine call_ (hr) rfl (g ?_))
 simp only [decide_true]
 refine ⟨[104, 105], rfl, ?_⟩
 refine g ?_
 repeat' (first | refine st_ rfl (g ?_) | refine hold_ (g ?_) | exact trivial | refine cond_d (fun h => g ?_) (fun h => g ?_) | refine cond_ (fun h => g ?_) (fun h => g ?_) | (refine vops_ifd rfl rfl (fun h e => ?_) (fun h e => ?_) <;> simp only [e] <;> clear e <;> refine g ?_) | (refine vops_if rfl rfl (fun h => ?_) (fun h => ?_) <;> simp only [h] <;> refine g ?_) | refine ix_ (by omega) (g ?_))
 have hs : strOf [104, 105] = ⟨#[104, 105]⟩ := by kernel_rfl
 rw [hs]
 refine str_eq (g ?_)
 refine ⟨_, fun u => stamp_eq _ _ _ _ _ _ u, ?_⟩
 refine g ?_
 repeat' (first | refine st_ rfl (g ?_) | refine hold_ (g ?_) | exact trivial | refine cond_d (fun h => g ?_) (fun h => g ?_) | refine cond_ (fun h => g ?_) (fun h => g ?_) | (refine vops_ifd rfl rfl (fun h e => ?_) (fun h e => ?_) <;> simp only [e] <;> clear e <;> refine g ?_) | (refine vops_if rfl rfl (fun h => ?_) (fun h => ?_) <;> simp only [h] <;> refine g ?_) | refine ix_ (by omega) (g ?_))
 exact decide_eq_true trivial
end Go.Proofs.YtkphfdmelfhnoaaGreatDoor
namespace Go.Proofs.YtkphfdmelfhnoaaGreatDoor
open Go.ChangeShapes Go.WideShapes Go.ChangeAt Go.RowKit
attribute [local irreducible] AW AWY vops vopsY vop vopL vdraw callW qop binQ lenQ storeQ appendQ callQ ACalls AIter
attribute [local go_sem] vwA_eq storeQ_bp storeQ_rp
theorem newS_room {room : Int} (h : I64 room) : I64 (newS room).1.room := by
 unfold newS
 split
 ·exact h
 ·exact rfl
theorem bool_refl (b : Bool) (w : World) : (do pure (); binOp .eql 4 (.bool b) (.bool b) : Sem Value).run Tryz.prog w = .ok (.bool true) w := by
 go_simp
set_option maxRecDepth 100000 in
set_option maxHeartbeats 1600000 in
theorem lawForms (v : View) (room : Int) (it : List Span) (iR : I64 v.room) (iO : I64 room) : ACalls Tryz.prog TzTab 13 [vwA v, .val (.int .i64 room), .iv (spI it)] (.val (.bool true)) [] := by
 refine ACalls.of (n := 55) (rs := [.tmp 6]) Tryz.func13 rfl (by kernel_rfl) Tryz.ntmps13 (by kernel_rfl) (by simp) (fun _ _ => TzTab.later) ?_
 intro hok V w0
 have hn := new_call room iO
 have hr := rnew_call room
 have iN := newS_room iO
 generalize newS room = N at hn hr iN
 obtain ⟨x, e⟩ := N
 simp only at hn hr iN
 have hs := rvsame_call (sinceV v it) (sinceV v it)
 rw [decide_eq_true rfl] at hs
 refine g ?_
 refine AW.seq ?_
 refine AW.reg rfl fun KK hKK => ?_
 refine g ?_
 repeat' (first | refine hold_ (g ?_) | (refine hKK _ (g ?_); clear hKK KK) | exact trivial)
 refine AW.freeze 400 _ rfl ⟨trivial, trivial, trivial, trivial, iR, trivial⟩ ?_
 simp only [go_sem, reduceIte, Nat.reduceEqDiff]
 refine g ?_
 repeat' (first | refine st_ rfl (g ?_) | refine hold_ (g ?_) | exact trivial | refine cond_d (fun h => g ?_) (fun h => g ?_) | refine cond_ (fun h => g ?_) (fun h => g ?_) | (refine hKD _ _ ⟨rfl, g ?_⟩; clear hKD KD) | ((first | refine vops_ifd rfl rfl (fun h e => ?_) (fun h e => ?_) | refine vdraw_ifd rfl rfl (fun h e => ?_) (fun h e => ?_)) <;> simp only [e] <;> clear e <;> refine g ?_) | ((first | refine vops_if rfl rfl (fun h => ?_) (fun h => ?_) | refine vdraw_if rfl rfl (fun h => ?_) (fun h => ?_)) <;> simp only [h] <;> refine g ?_) | refine ix_ (by omega) (g ?_) | refine call_ (alive13_call) rfl (g ?_) | refine call_ (rvwcopy_call v iR) rfl (g ?_) | refine call_ (hn) rfl (g ?_) | refine call_ (hr) rfl (g ?_))
 refine AW.freeze 800 _ rfl ⟨trivial, trivial, trivial, trivial, iR, trivial⟩ ?_
 simp only [go_sem, reduceIte, Nat.reduceEqDiff]
 refine AW.freeze 900 _ rfl ⟨trivial, trivial, trivial, trivial, iN, trivial⟩ ?_
 simp only [go_sem, reduceIte, Nat.reduceEqDiff]
 refine AW.freeze 1100 _ rfl ⟨trivial, trivial, trivial, trivial, iN, trivial⟩ ?_
 simp only [go_sem, reduceIte, Nat.reduceEqDiff]
 refine AW.drawn (ds := [26, 27, 28, 29, 30, 31, 32, 33, 34, 35, 36, 37, 38, 39, 40, 41, 42, 43, 44, 45, 46, 47, 48, 49, 50, 51, 52, 53, 54, 6]) (fin := []) (bs := [0, 0, 0, 0, 0, 0, 0, 0, 0, 0, 0, 0, 0, 0, 0, 0, 0, 0, 0, 0, 0, 0, 0, 0, 0, 0, 0, 0, 0, 0]) [⟨[], [], [], [], 0⟩, ⟨[(26, 0)], [], [], [], 0⟩, ⟨[], [], [], [], 0⟩, ⟨[(28, 2)], [], [], [], 0⟩, ⟨[(27, 1), (29, 3)], [], [], [], 0⟩, ⟨[(30, 4)], [], [], [], 0⟩, ⟨[], [], [], [], 0⟩, ⟨[], [], [], [], 0⟩, ⟨[(32, 6), (33, 7)], [], [], [], 0⟩, ⟨[(31, 5), (34, 8)], [], [], [], 0⟩, ⟨[(35, 9)], [], [], [], 0⟩, ⟨[], [], [], [], 0⟩, ⟨[], [], [], [], 0⟩, ⟨[(37, 11), (38, 12)], [], [], [], 0⟩, ⟨[(36, 10), (39, 13)], [], [], [], 0⟩, ⟨[(40, 14)], [], [], [], 0⟩, ⟨[], [], [], [], 0⟩, ⟨[], [], [], [], 0⟩, ⟨[(42, 16), (43, 17)], [], [], [], 0⟩, ⟨[], [], [], [], 0⟩, ⟨[], [], [], [], 0⟩, ⟨[(45, 19), (46, 20)], [], [], [], 0⟩, ⟨[(44, 18), (47, 21)], [], [], [], 0⟩, ⟨[(41, 15), (48, 22)], [], [], [], 0⟩, ⟨[(49, 23)], [], [], [], 0⟩, ⟨[], [], [], [], 0⟩, ⟨[], [], [], [], 0⟩, ⟨[(51, 25), (52, 26)], [], [], [], 0⟩, ⟨[(50, 24), (53, 27)], [], [], [], 0⟩, ⟨[(54, 28)], [], [], [], 0⟩] (by kernel_rfl) rfl (by kernel_rfl) rfl rfl rfl fun KD hKD => ?_
 refine g ?_
 repeat' (first | refine st_ rfl (g ?_) | refine hold_ (g ?_) | exact trivial | refine cond_d (fun h => g ?_) (fun h => g ?_) | refine cond_ (fun h => g ?_) (fun h => g ?_) | (refine hKD _ _ ⟨rfl, g ?_⟩; clear hKD KD) | ((first | refine vops_ifd rfl rfl (fun h e => ?_) (fun h e => ?_) | refine vdraw_ifd rfl rfl (fun h e => ?_) (fun h e => ?_)) <;> simp only [e] <;> clear e <;> refine g ?_) | ((first | refine vops_if rfl rfl (fun h => ?_) (fun h => ?_) | refine vdraw_if rfl rfl (fun h => ?_) (fun h => ?_)) <;> simp only [h] <;> refine g ?_) | refine ix_ (by omega) (g ?_) | refine call_ (vform_call v iR) rfl (g ?_) | refine call_ (rview_call v iR) rfl (g ?_))
 refine ⟨_, fun u => bool_refl _ u, ?_⟩
 refine g ?_
 repeat' (first | refine st_ rfl (g ?_) | refine hold_ (g ?_) | exact trivial | refine cond_d (fun h => g ?_) (fun h => g ?_) | refine cond_ (fun h => g ?_) (fun h => g ?_) | (refine hKD _ _ ⟨rfl, g ?_⟩; clear hKD KD) | ((first | refine vops_ifd rfl rfl (fun h e => ?_) (fun h e => ?_) | refine vdraw_ifd rfl rfl (fun h e => ?_) (fun h e => ?_)) <;> simp only [e] <;> clear e <;> refine g ?_) | ((first | refine vops_if rfl rfl (fun h => ?_) (fun h => ?_) | refine vdraw_if rfl rfl (fun h => ?_) (fun h => ?_)) <;> simp only [h] <;> refine g ?_) | refine ix_ (by omega) (g ?_) | refine call_ (rvwsame_call x iN) rfl (g ?_) | refine call_ (vsinceS_call v iR it) rfl (g ?_) | refine call_ (rvsince_call v it iR) rfl (g ?_) | refine call_ (hs) rfl (g ?_) | refine call_ (rvwsame_call v iR) rfl (g ?_))
end Go.Proofs.YtkphfdmelfhnoaaGreatDoor
namespace Go.Proofs.YtkphfdmelfhnoaaGreatDoor
open Go.ChangeShapes Go.WideShapes Go.ChangeAt Go.RowKit
def laying (cs : Array Value) : Obj → Obj
 | .cells _ t frozen => .cells cs t frozen
 | o => o
def tzCells : Array Value := #[.int .u8 0, .int .u8 1, .int .u8 56, .int .u8 2, .int .u8 57, .int .u8 49, .int .u8 28, .int .u8 3, .int .u8 61, .int .u8 58, .int .u8 42, .int .u8 50, .int .u8 38, .int .u8 29, .int .u8 17, .int .u8 4, .int .u8 62, .int .u8 47, .int .u8 59, .int .u8 36, .int .u8 45, .int .u8 43, .int .u8 51, .int .u8 22, .int .u8 53, .int .u8 39, .int .u8 33, .int .u8 30, .int .u8 24, .int .u8 18, .int .u8 12, .int .u8 5, .int .u8 63, .int .u8 55, .int .u8 48, .int .u8 27, .int .u8 60, .int .u8 41, .int .u8 37, .int .u8 16, .int .u8 46, .int .u8 35, .int .u8 44, .int .u8 21, .int .u8 52, .int .u8 32, .int .u8 23, .int .u8 11, .int .u8 54, .int .u8 26, .int .u8 40, .int .u8 15, .int .u8 34, .int .u8 20, .int .u8 31, .int .u8 10, .int .u8 25, .int .u8 14, .int .u8 19, .int .u8 9, .int .u8 13, .int .u8 8, .int .u8 7, .int .u8 6]
noncomputable def tzWorld (os : Os) : World :=
 { World.holding Tryz.prog os ⟨#[], #[], []⟩ with heap := (World.holding Tryz.prog os ⟨#[], #[], []⟩).heap.modify 0 (laying tzCells) }
theorem tzName : Tryz.prog.globalNamed "math/bits.deBruijn64tab" = some 0 := by kernel_rfl
theorem tzType : (Tryz.prog.globals[0]?).map (·.type) = some 280 := by kernel_rfl
theorem tz_of_laid {laid : List (String × DataW Unit)} {W : World} (e : (laid.filter fun x => x.1 == "math/bits.deBruijn64tab") = [("math/bits.deBruijn64tab", Lib.tabData .u8 (Lib.deBruijn64tab.map Int.ofNat))]) (h : laidMetH Tryz.prog laid W) : TzTab W := by
 have h1 := h.filter (fun x => x.1 == "math/bits.deBruijn64tab")
 rw [e] at h1
 have h2 := Lib.tabIs_of_head (rest := []) tzName tzType Tryz.underlying280 Tryz.underlying5 (by kernel_rfl) (by kernel_rfl) h1
 intro j hj
 have h3 := h2.cell tzName j (by simpa using hj)
 rw [h3]
 simp [List.getD, hj]
theorem small_part {H : Type} {l : List (DataW H)} (h : Rows.uptoSmall H l = true) : ∀ d, d ∈ l → Rows.uptoBulk d ≤ 1048576 := by
 have h2 : Rows.uptoBulkAll l ≤ 1048576 := of_decide_eq_true h
 intro d hd
 have := bulk_part hd
 omega
namespace cViewForms
set_option maxRecDepth 100000 in
theorem contract (H : Type) (enc : TypeId × Value → H) (W : World) (base : Nat) (args : Array Value) (ds gs : List (DataW H)) (before : List MemPlace)
    (hval : ∀ (j : Nat) t v, Tryz.f13.params[j]? = some t → args[j]? = some v → Value.okWide Tryz.prog W .any base t v)
    (hW : DataW.Whole enc Tryz.prog Tryz.f13.params.toList Rows.viewFormsSpec.vars false W args.toList ds gs before) (hk : Rows.uptoSmall H (ds ++ gs) = true) (hL : laidMetH Tryz.prog Rows.viewFormsRow.laid W) :
    Calls Tryz.prog 13 args W fun e W' => ∃ v, e = .returned v ∧ Rows.viewFormsSpec.post enc Tryz.prog Tryz.f13 false true false false W args v W' := by
  have hW' := hW
  obtain ⟨p, q, hA0, hV, rfl, hfz, hnd⟩ := hW
  have hA : DataW.TrodAll enc Tryz.prog W 0 (fun _ => true) true Tryz.f13.params.toList args.toList ds p := hA0
  rw [Tryz.params13] at hA hval
  obtain ⟨v0, vs0, d0, ds0, p0, q0, hargs, rfl, rfl, h0, r0⟩ := trodAll_cons hA
  obtain ⟨v1, vs1, d1, ds1, p1, q1, rfl, rfl, rfl, h1, r1⟩ := trodAll_cons r0
  obtain ⟨v2, vs2, d2, ds2, p2, q2, rfl, rfl, rfl, h2, r2⟩ := trodAll_cons r1
  obtain ⟨rfl, rfl, rfl⟩ := trodAll_nil r2
  obtain rfl : args = #[v0, v1, v2] := by cases args; simp_all
  obtain ⟨rfl, rfl⟩ := trodVars_none hV
  have hpart := small_part hk
  obtain ⟨cs0, rfl, hs0⟩ := okWide_struct Tryz.underlying27 (hval 0 _ v0 rfl rfl)
  obtain ⟨n0, hn0⟩ := h0
  obtain ⟨_, x0, va, vb, vc, vd, e0, hK, hZ, hH, hB, iR⟩ := opens_view (w := W) H enc n0 _ _ ⟨hn0, hpart d0 (by simp)⟩
  obtain rfl : cs0 = #[va, vb, vc, vd, .int .i64 x0.room] := Array.toList_inj.1 (by simpa only [Value.cells] using e0)
  obtain ⟨a1, rfl, rfl, rfl, w1⟩ := open_int Tryz.underlying3 (hval 1 _ v1 rfl rfl) h1
  obtain ⟨_, _, _, rfl⟩ := okWide_slice Tryz.underlying28 (hval 2 _ v2 rfl rfl)
  obtain ⟨n2, hn2⟩ := h2
  obtain ⟨_, l2, u2, hv2, hl2⟩ := opens_spans (w := W) H enc n2 _ _ ⟨hn2, hpart d2 (by simp)⟩
  simp only [Value.cells, List.cons.injEq, and_true] at hv2
  subst hv2
  have hT : TzTab W := tz_of_laid (by kernel_rfl) hL
  clear hA0
  refine ((lawForms x0 a1 l2 iR w1).law hT (RepAs.cons (view_rep hK hZ hH hB) (RepAs.cons .val (RepAs.cons (.iv (spans_rep hl2 (Nat.le_refl _))) RepAs.nil)))).mono fun e W' ⟨he, hb⟩ => ?_
  subst he
  exact ⟨_, rfl, law_post laidOut (by kernel_rfl) (by kernel_rfl) Tryz.underlying4 rfl rfl rfl rfl hW' hb⟩
theorem laid_met (os : Os) : laidMet Tryz.prog Rows.viewFormsRow.laid ((tzWorld os).forCall (fun _ _ => 0) ⟨#[], #[.agg #[.slice none 0 0, .slice none 0 0, .slice none 0 0, .slice none 0 0, .int .i64 0], .int .i64 0, .slice none 0 0], []⟩).memory :=
  laidMet_of_run' 8 (by kernel_rfl) (by kernel_rfl)
theorem reads (os : Os) {H : Type} (enc : TypeId × Value → H) : ∃ places, DataW.whole enc Tryz.prog ((tzWorld os).forCall (fun _ _ => 0) ⟨#[], #[.agg #[.slice none 0 0, .slice none 0 0, .slice none 0 0, .slice none 0 0, .int .i64 0], .int .i64 0, .slice none 0 0], []⟩).memory Tryz.f13.params.toList Rows.viewFormsSpec.vars false (#[.agg #[.slice none 0 0, .slice none 0 0, .slice none 0 0, .slice none 0 0, .int .i64 0], .int .i64 0, .slice none 0 0] : Array Value).toList 8 = some ([.agg [.nil, .nil, .nil, .nil, .lit (.int .i64 0)], .lit (.int .i64 0), .nil], [], places) :=
  ⟨[], by kernel_rfl⟩
set_option maxRecDepth 100000 in
theorem lifted (os : Os) (started : os.Started) (H : Type) (enc : TypeId × Value → H) (F : Stop.Interp) :
    ReturnsInHanded {} Tryz.checked os 13 .any ((Rows.OpenSpec.upto Rows.viewFormsSpec).preRow enc Tryz.prog Tryz.f13 Rows.viewFormsUptoRow.domain false Rows.viewFormsUptoRow.laid) (((Rows.OpenSpec.upto Rows.viewFormsSpec).at F).post enc Tryz.prog Tryz.f13 false true false false) := by
  obtain ⟨places, hx⟩ := reads os enc
  refine returnsInHanded_of_row (C := Tryz.checked) (s := Rows.OpenSpec.upto Rows.viewFormsSpec) own started (by kernel_rfl) Tryz.func13
    (witness_row_at (enc := enc) (C := Tryz.checked) false (tzWorld os) #[.agg #[.slice none 0 0, .slice none 0 0, .slice none 0 0, .slice none 0 0, .int .i64 0], .int .i64 0, .slice none 0 0] rfl (by kernel_rfl) (by kernel_rfl) (by kernel_rfl)
      (OpenSpec.preRow_of_cond 8 hx (by kernel_rfl) (fun k hk => by cases hk; kernel_rfl) (by kernel_rfl) (laid_met os))) ?_
  intro W base args ds gs before hval hW _ hcond _ hL _ _
  exact contract H enc W base args ds gs before hval hW (hcond _ rfl) hL
theorem c1 : laidOutB Tryz.pinned.checked.prog = true := by kernel_rfl
theorem c2 : mapsRowed Tryz.pinned.checked.prog = true := by kernel_rfl
theorem c3 : (Rows.viewFormsUptoRow.inPlace == Tryz.pinned.checked.prog.inPlace 13) = true := by kernel_rfl
theorem c4 : (Rows.viewFormsUptoRow.unfollowed == Tryz.pinned.checked.prog.unfollowed 13) = true := by kernel_rfl
theorem c5 : (Rows.viewFormsUptoRow.recurses == Tryz.pinned.checked.prog.recurses 13) = true := by kernel_rfl
theorem c6 : (Rows.viewFormsUptoRow.named == Tryz.pinned.checked.prog.varsNamed 13) = true := by kernel_rfl
theorem closed : joinedFacts Tryz.pinned.checked.prog 13 Tryz.f13 (Rows.OpenSpec.upto Rows.viewFormsSpec).bare Rows.viewFormsUptoRow = true := by
  unfold joinedFacts
  rw [c1, c2, c3, c4, c5, c6]
  kernel_rfl
theorem said : Rows.ViewFormsUptoSaid :=
  OpenClaim.holds_of_cond 13 Tryz.f13 rfl rfl rfl rfl rfl rfl rfl ⟨rfl, rfl, rfl, rfl, rfl⟩ rfl rfl rfl rfl rfl (by kernel_rfl) Tryz.func13 closed
    (of_decide_eq_true (by kernel_rfl)) (by unfold Func.isWrapper; first | (rw [if_pos (by decide +kernel)]; kernel_rfl) | (rw [if_neg (by decide +kernel)]; exact ⟨rfl, rfl⟩))
    (fun os started H enc _ F => by rw [OpenClaim.pre_eq_preRow]; exact lifted os started H enc F)
theorem plain (f : FuncId) (fn : Func) (hf : Tryz.pinned.checked.prog.funcNamed "telltale/telltalelaw13.ViewForms" = some f) (hfn : Tryz.pinned.checked.prog.funcs[f]? = some fn) :
    false = Tryz.pinned.checked.prog.looks [] ∧ ∀ (j : Nat) t, fn.params[j]? = some t → Tryz.pinned.checked.prog.wantsStandIn t = false := by
  obtain rfl : f = 13 := Option.some.inj ((show Tryz.prog.funcNamed "telltale/telltalelaw13.ViewForms" = some 13 by kernel_rfl).symm.trans hf) |>.symm
  obtain rfl : fn = Tryz.f13 := (Option.some.inj (Tryz.func13.symm.trans hfn)).symm
  refine ⟨by kernel_rfl, fun j t ht => ?_⟩
  rw [Tryz.params13] at ht
  have hm := Array.mem_of_getElem? ht
  simp at hm
  rcases hm with rfl | rfl | rfl
  · exact (show Tryz.prog.wantsStandIn 27 = false by kernel_rfl)
  · exact (show Tryz.prog.wantsStandIn 3 = false by kernel_rfl)
  · exact (show Tryz.prog.wantsStandIn 28 = false by kernel_rfl)
theorem card : Rows.ViewFormsUptoCardSaid :=
  Claim7.holds_tied_plain_at .later [] _ _ _ _ said (fun _ h => by cases h) (by as_aux_lemma => kernel_rfl) (fun _ h => by cases h) viewFormsUpto_row_tie rfl ⟨rfl, rfl⟩ (by as_aux_lemma => kernel_rfl) rfl plain (by as_aux_lemma => kernel_rfl)
#print axioms card
end cViewForms
end Go.Proofs.YtkphfdmelfhnoaaGreatDoor
