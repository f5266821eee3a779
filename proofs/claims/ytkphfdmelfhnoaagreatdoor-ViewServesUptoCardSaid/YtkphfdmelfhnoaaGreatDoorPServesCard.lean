/- The law ViewServes: any object is served, and what lacks is told, as the reference says, or refused. The card (second form: of bulk at most 1048576). -/
import Derived.Test.YtkphfdmelfhnoaaGreatDoorPRefThr
import Derived.Test.YtkphfdmelfhnoaaGreatDoorPViewEnc
import Derived.OpenShut
import Derived.Test.YtkphfdmelfhnoaaGreatDoorPCache
import Derived.Test.YtkphfdmelfhnoaaGreatDoorPPlace
import Derived.Test.YtkphfdmelfhnoaaGreatDoorPReached
import Derived.Test.YtkphfdmelfhnoaaGreatDoorPViewRead
import Derived.Test.YtkphfdmelfhnoaaGreatDoorPPieces
import Derived.Test.YtkphfdmelfhnoaaGreatDoorPAbsFrz
import Derived.Test.YtkphfdmelfhnoaaGreatDoorPRow
import Derived.Test.YtkphfdmelfhnoaaGreatDoorPRead
import Derived.Test.YtkphfdmelfhnoaaGreatDoorCards
import Derived.Test.YtkphfdmelfhnoaaGreatDoorTie
import Derived.Lib.LaidTab
import Derived.Deep.DeepWitnessRowRef
import Derived.Lib.SmallJoins
set_option linter.all false
set_option linter.unnecessarySimpa false
set_option linter.unusedSimpArgs false
set_option linter.unusedVariables false
namespace Go.Proofs.YtkphfdmelfhnoaaGreatDoor
open Go.ChangeShapes Go.WideShapes Go.ChangeAt Go.RowKit
def ZoneR (w : World) (B : Nat) (cs : List Value) (z : Zone) : Prop := ∃ v, cs = [.int .i64 z.span.lo, .int .i64 z.span.hi, v] ∧ I64 z.span.lo ∧ I64 z.span.hi ∧ Stamps w B v z.vec
theorem opens_zone {w : World} : Opens Tryz.prog w 147 3 (ZoneR w w.heap.size) := by
 intro H enc fuel cs x h
 obtain ⟨hl, n, hf⟩ := struct_pieces Tryz.underlying147 h
 have hk : Tryz.prog.cellsOf 147 = 3 := by kernel_rfl
 have hs : Tryz.prog.cellsOf 78 = 2 := by kernel_rfl
 have hv : Tryz.prog.cellsOf 22 = 1 := by kernel_rfl
 rw [hk] at hl
 refine ⟨hl, ?_⟩
 match cs, hl with
 | [v0, v1, v2], _ =>
  obtain ⟨y0, h0⟩ := hf 0 78 0 2 rfl hs
  obtain ⟨y1, h1⟩ := hf 1 22 2 1 rfl hv
  obtain ⟨_, a, e0, i0, i1⟩ := opens_span (w := w) H enc n _ _ h0
  obtain ⟨_, b, _, e1, s1⟩ := opens_stamps (w := w) H enc n _ _ h1
  simp at e0 e1
  obtain ⟨rfl, rfl⟩ := e0
  subst e1
  exact ⟨⟨a, b⟩, _, rfl, i0, i1, s1⟩
abbrev Zones (w : World) (B : Nat) (v : Value) (l : List Zone) : Prop := Sl (ZoneR w B) 3 w B v l
theorem opens_zones {w : World} : Opens Tryz.prog w 23 1 (fun cs l => ∃ v, cs = [v] ∧ Zones w w.heap.size v l) :=
 opens_slice Tryz.underlying23 (by kernel_rfl) (by omega) opens_zone
abbrev Bodies (w : World) (B : Nat) (v : Value) (l : List Body) : Prop := Sl (BodyR w B) 4 w B v l
theorem opens_bodies {w : World} : Opens Tryz.prog w 25 1 (fun cs l => ∃ v, cs = [v] ∧ Bodies w w.heap.size v l) :=
 opens_slice Tryz.underlying25 (by kernel_rfl) (by omega) opens_body
def ViewR (w : World) (B : Nat) (cs : List Value) (x : View) : Prop := ∃ v0 v1 v2 v3, cs = [v0, v1, v2, v3, .int .i64 x.room] ∧ Stamps w B v0 x.known ∧ Zones w B v1 x.zones ∧ Writes w B v2 x.held ∧ Bodies w B v3 x.bodies ∧ I64 x.room
theorem opens_view {w : World} : Opens Tryz.prog w 27 5 (ViewR w w.heap.size) := by
 intro H enc fuel cs x h
 obtain ⟨hl, n, hf⟩ := struct_pieces Tryz.underlying27 h
 have hk : Tryz.prog.cellsOf 27 = 5 := by kernel_rfl
 have q0 : Tryz.prog.cellsOf 22 = 1 := by kernel_rfl
 have q1 : Tryz.prog.cellsOf 23 = 1 := by kernel_rfl
 have q2 : Tryz.prog.cellsOf 24 = 1 := by kernel_rfl
 have q3 : Tryz.prog.cellsOf 25 = 1 := by kernel_rfl
 have q4 : Tryz.prog.cellsOf 3 = 1 := by kernel_rfl
 rw [hk] at hl
 refine ⟨hl, ?_⟩
 match cs, hl with
 | [v0, v1, v2, v3, v4], _ =>
  obtain ⟨y0, h0⟩ := hf 0 22 0 1 rfl q0
  obtain ⟨y1, h1⟩ := hf 1 23 1 1 rfl q1
  obtain ⟨y2, h2⟩ := hf 2 24 2 1 rfl q2
  obtain ⟨y3, h3⟩ := hf 3 25 3 1 rfl q3
  obtain ⟨y4, h4⟩ := hf 4 3 4 1 rfl q4
  obtain ⟨_, a, _, e0, s0⟩ := opens_stamps (w := w) H enc n _ _ h0
  obtain ⟨_, b, _, e1, s1⟩ := opens_zones (w := w) H enc n _ _ h1
  obtain ⟨_, c, _, e2, s2⟩ := opens_writes (w := w) H enc n _ _ h2
  obtain ⟨_, d, _, e3, s3⟩ := opens_bodies (w := w) H enc n _ _ h3
  obtain ⟨_, r, e4, i4⟩ := opens_int (w := w) Tryz.underlying3 H enc n _ _ h4
  simp at e0 e1 e2 e3 e4
  subst e0 e1 e2 e3 e4
  exact ⟨⟨a, b, c, d, r⟩, _, _, _, _, rfl, s0, s1, s2, s3, i4⟩
theorem z_rep {X : World} {cs : List Value} {x : Zone} (h : ZoneR X X.heap.size cs x) : RepVs X cs (enZ x) := by
 obtain ⟨v0, rfl, h1, h2, h⟩ := h
 exact ⟨.val h1, .val h2, stamps_rep h (Nat.le_refl _), trivial⟩
theorem zones_rep {X : World} {v : Value} {l : List Zone} (h : Zones X X.heap.size v l) : RepV X v (znI l) := RepV.of_typed (fun _ _ h => z_rep h) h (Nat.le_refl _)
theorem bytes_rep {X : World} {v : Value} {l : List Nat} (h : Bytes X X.heap.size v l) : RepV X v (byI l) := RepV.of_typed (enc := fun (b : Nat) => [.val (.int .u8 b)]) (fun cs x h => by
 obtain ⟨rfl, h1⟩ := h
 refine ⟨.val ?_, trivial⟩
 simp [okV, Lit.wf, IntKind.max, IntKind.min, IntKind.signed, IntKind.bits]
 omega) h (Nat.le_refl _)
theorem b_rep {X : World} {cs : List Value} {x : Body} (h : BodyR X X.heap.size cs x) : RepVs X cs (enB x) := by
 obtain ⟨v0, rfl, h1, h2, h3, h⟩ := h
 exact ⟨.val h1, .val h2, .val h3, bytes_rep h, trivial⟩
theorem bodies_rep {X : World} {v : Value} {l : List Body} (h : Bodies X X.heap.size v l) : RepV X v (boI l) := RepV.of_typed (fun _ _ h => b_rep h) h (Nat.le_refl _)
theorem view_rep {E : Env} {X : World} {v0 v1 v2 v3 : Value} {x : View} (h0 : Stamps X X.heap.size v0 x.known) (h1 : Zones X X.heap.size v1 x.zones) (h2 : Writes X X.heap.size v2 x.held) (h3 : Bodies X X.heap.size v3 x.bodies) : RepA E X (.agg #[v0, v1, v2, v3, .int .i64 x.room]) (vwA x) :=
 .agg rfl fun j v c a b => by
  match j, a, b with
  | 0, a, b => simp at a b; subst a b; exact .iv (stamps_rep h0 (Nat.le_refl _))
  | 1, a, b => simp at a b; subst a b; exact .iv (zones_rep h1)
  | 2, a, b => simp at a b; subst a b; exact .iv (writes_rep h2 (Nat.le_refl _))
  | 3, a, b => simp at a b; subst a b; exact .iv (bodies_rep h3)
  | 4, a, b => simp at a b; subst a b; exact .val
  | j + 5, a, b => simp at a
theorem str_eq {t : TypeId} {x y : Operand} {a b : ByteArray} {K : AV → Prop} (h : K (.val (.bool (decide (a = b))))) : binQ Tryz.prog .eql t x y (.val (.string a)) (.val (.string b)) K := ⟨_, fun w => by
 go_simp
 rw [ByteArray.toList_eq, ByteArray.toList_eq]
 by_cases e : a = b
 ·simp [e]
 ·rw [decide_eq_false e, beq_eq_false_iff_ne]
  exact fun h => e (bytes_inj h), h⟩
theorem strOf_inj : ∀ {a b : List Nat}, (∀ x ∈ a, x < 256) → (∀ x ∈ b, x < 256) → (strOf a = strOf b ↔ a = b) := fun {a b} ha hb => by
 refine ⟨fun h => ?_, fun h => h ▸ rfl⟩
 unfold strOf strOfNums at h
 injection h with h
 have h := congrArg Array.toList h
 simp only [List.map_map] at h
 have key : ∀ {a b : List Nat}, (∀ x ∈ a, x < 256) → (∀ x ∈ b, x < 256) → a.map (fun n => UInt8.ofNat n) = b.map (fun n => UInt8.ofNat n) → a = b := by
  intro a
  induction a with
  | nil => intro b _ _ h; cases b with
   | nil => rfl
   | cons _ _ => cases h
  | cons x a ih => intro b ha hb h; cases b with
   | nil => cases h
   | cons y b =>
    injection h with h1 h2
    have e := congrArg UInt8.toNat h1
    have p := ha x (by simp)
    have q := hb y (by simp)
    simp only [UInt8.toNat_ofNat'] at e
    rw [ih (fun z hz => ha z (by simp [hz])) (fun z hz => hb z (by simp [hz])) h2]
    congr 1
    omega
 exact key ha hb (by simpa [Function.comp_def] using h)
attribute [local irreducible] AW AWY vops vopsY vop vopL vdraw callW qop binQ lenQ storeQ appendQ callQ ACalls AIter setI
attribute [local go_sem] boA_eq byI_eq storeQ_bp storeQ_rp
theorem by_lt {a : List Nat} (h : AV.okd (.iv (byI a))) : ∀ x ∈ a, x < 256 := fun x hx => by
 have h2 := okR_mem (by simpa [byI] using h.2) [IV.val (.int .u8 x)] (List.mem_map_of_mem (f := fun (b : Nat) => [IV.val (.int .u8 (b : Int))]) hx)
 have h3 : (Lit.int .u8 (x : Int)).wf = true := h2.2.1
 simp [Lit.wf, IntKind.max, IntKind.min, IntKind.signed, IntKind.bits] at h3
 omega
set_option maxRecDepth 100000 in
theorem rbysame_call (a b : List Nat) : ACalls Tryz.prog TzTab 65 [.iv (byI a), .iv (byI b)] (.val (.bool (decide (a = b)))) [] := by
 refine ACalls.of (n := 10) (rs := [.tmp 4]) Tryz.func65 rfl (by kernel_rfl) Tryz.ntmps65 (by kernel_rfl) (by simp) (fun _ _ => TzTab.later) ?_
 intro hok V w0
 obtain ⟨B, hB⟩ : ∃ B, decide (a = b) = B := ⟨_, rfl⟩
 rw [hB]
 refine g ?_
 repeat' (first | refine st_ rfl (g ?_) | refine hold_ (g ?_) | exact trivial | refine cond_d (fun h => g ?_) (fun h => g ?_) | refine cond_ (fun h => g ?_) (fun h => g ?_) | (refine vops_ifd rfl rfl (fun h e => ?_) (fun h e => ?_) <;> simp only [e] <;> clear e <;> refine g ?_) | (refine vops_if rfl rfl (fun h => ?_) (fun h => ?_) <;> simp only [h] <;> refine g ?_) | refine ix_ (by omega) (g ?_))
 refine ⟨a, rfl, hold_ ?_⟩
 refine g ?_
 repeat' (first | refine st_ rfl (g ?_) | refine hold_ (g ?_) | exact trivial | refine cond_d (fun h => g ?_) (fun h => g ?_) | refine cond_ (fun h => g ?_) (fun h => g ?_) | (refine vops_ifd rfl rfl (fun h e => ?_) (fun h e => ?_) <;> simp only [e] <;> clear e <;> refine g ?_) | (refine vops_if rfl rfl (fun h => ?_) (fun h => ?_) <;> simp only [h] <;> refine g ?_) | refine ix_ (by omega) (g ?_))
 refine ⟨b, rfl, hold_ ?_⟩
 refine g ?_
 repeat' (first | refine st_ rfl (g ?_) | refine hold_ (g ?_) | exact trivial | refine cond_d (fun h => g ?_) (fun h => g ?_) | refine cond_ (fun h => g ?_) (fun h => g ?_) | (refine vops_ifd rfl rfl (fun h e => ?_) (fun h e => ?_) <;> simp only [e] <;> clear e <;> refine g ?_) | (refine vops_if rfl rfl (fun h => ?_) (fun h => ?_) <;> simp only [h] <;> refine g ?_) | refine ix_ (by omega) (g ?_))
 refine str_eq ?_
 refine g ?_
 repeat' (first | refine st_ rfl (g ?_) | refine hold_ (g ?_) | exact trivial | refine cond_d (fun h => g ?_) (fun h => g ?_) | refine cond_ (fun h => g ?_) (fun h => g ?_) | (refine vops_ifd rfl rfl (fun h e => ?_) (fun h e => ?_) <;> simp only [e] <;> clear e <;> refine g ?_) | (refine vops_if rfl rfl (fun h => ?_) (fun h => ?_) <;> simp only [h] <;> refine g ?_) | refine ix_ (by omega) (g ?_))
 rw [← hB]
 exact decide_eq_decide.2 (strOf_inj (by_lt hok.1) (by_lt hok.2.1))
set_option maxRecDepth 100000 in
theorem rbosame_call (x y : Body) : ACalls Tryz.prog TzTab 30 [boA x, boA y] (.val (.bool (decide (x = y)))) [] := by
 refine ACalls.of (n := 24) (rs := [.tmp 4]) Tryz.func30 rfl (by kernel_rfl) Tryz.ntmps30 (by kernel_rfl) (by simp) (fun _ _ => TzTab.later) ?_
 intro hok V w0
 obtain ⟨B, hB⟩ : ∃ B, decide (x = y) = B := ⟨_, rfl⟩
 rw [hB]
 obtain ⟨xo, ⟨xc, xn⟩, xv⟩ := x
 obtain ⟨yo, ⟨yc, yn⟩, yv⟩ := y
 refine g ?_
 repeat' (first | refine st_ rfl (g ?_) | refine hold_ (g ?_) | exact trivial | refine cond_d (fun h => g ?_) (fun h => g ?_) | refine cond_ (fun h => g ?_) (fun h => g ?_) | (refine vops_ifd rfl rfl (fun h e => ?_) (fun h e => ?_) <;> simp only [e] <;> clear e <;> refine g ?_) | (refine vops_if rfl rfl (fun h => ?_) (fun h => ?_) <;> simp only [h] <;> refine g ?_) | refine ix_ (by omega) (g ?_) | refine call_ (rbysame_call _ _) rfl (g ?_))
 ·refine ⟨_, fun u => stamp_eq _ _ _ _ _ _ u, ?_⟩
  refine g ?_
  repeat' (first | refine st_ rfl (g ?_) | refine hold_ (g ?_) | exact trivial | refine cond_d (fun h => g ?_) (fun h => g ?_) | refine cond_ (fun h => g ?_) (fun h => g ?_) | (refine vops_ifd rfl rfl (fun h e => ?_) (fun h e => ?_) <;> simp only [e] <;> clear e <;> refine g ?_) | (refine vops_if rfl rfl (fun h => ?_) (fun h => ?_) <;> simp only [h] <;> refine g ?_) | refine ix_ (by omega) (g ?_) | refine call_ (rbysame_call _ _) rfl (g ?_))
  ·rw [← hB]
   have h3 : xc = yc ∧ xn = yn := by simpa using h
   rename_i h1
   rw [h1, h3.1, h3.2]
   simp
  ·rw [← hB]
   refine (decide_eq_false ?_).symm
   intro e
   injection e with e1 e2 e3
   injection e2 with e4 e5
   simp [e4, e5] at h
 ·rw [← hB]
  refine (decide_eq_false ?_).symm
  intro e
  injection e with e1
  exact h e1
end Go.Proofs.YtkphfdmelfhnoaaGreatDoor
namespace Go.Proofs.YtkphfdmelfhnoaaGreatDoor
open Go.ChangeShapes Go.WideShapes Go.ChangeAt Go.RowKit
attribute [local irreducible] AW AWY vops vopsY vop vopL vdraw callW qop binQ lenQ storeQ appendQ callQ ACalls AIter
attribute [local go_sem] byI_eq enB_eq boI_eq boA_eq enW_eq wrI_eq wA_eq enZ_eq znI_eq vwA_eq noteA_eq storeQ_bp storeQ_rp
def toldA (q : Told) : AV := .tup [vwA q.view, noteA q.note, .val (.int .i64 q.err)]
theorem write_no {q : Told} {e : Int} (h : q = noTold e) : Sub1 (.tup [.agg [.val (.slice none 0 0), .val (.slice none 0 0), .val (.slice none 0 0), .val (.slice none 0 0), .val (.int .i64 0)], .agg [.val (.slice none 0 0), .val (.slice none 0 0), .val (.slice none 0 0), .val (.slice none 0 0)], .val (.int .i64 e)]) (.tup [vwA q.view, noteA q.note, .val (.int .i64 q.err)]) := by
 subst h
 refine tup_sub rfl fun p hp => ?_
 simp only [List.zip_cons_cons, List.zip_nil_right, List.mem_cons, List.not_mem_nil, or_false] at hp
 rcases hp with rfl | rfl | rfl
 ·refine agg_sub rfl fun p hp => ?_
  simp only [List.zip_cons_cons, List.zip_nil_right, List.mem_cons, List.not_mem_nil, or_false] at hp
  rcases hp with rfl | rfl | rfl | rfl | rfl
  ·exact nil_sub 2
  ·exact nil_sub 3
  ·exact nil_sub 4
  ·exact nil_sub 4
  ·exact Sub1.rfl_ _
 ·refine agg_sub rfl fun p hp => ?_
  simp only [List.zip_cons_cons, List.zip_nil_right, List.mem_cons, List.not_mem_nil, or_false] at hp
  rcases hp with rfl | rfl | rfl | rfl
  ·exact nil_sub 2
  ·exact nil_sub 2
  ·exact nil_sub 2
  ·exact nil_sub 4
 ·exact Sub1.rfl_ _
theorem nextS_in {c n s : Int} (hc : c ≤ 9223372036854775807) (hn : I64 n) : I64 (nextS c n s).1.count ∧ I64 (nextS c n s).1.node := by
 unfold nextS
 split
 ·exact ⟨rfl, rfl⟩
 ·split
  ·exact ⟨rfl, rfl⟩
  ·exact ⟨I64.of (by simp only; omega) (by simp only; omega), hn⟩
theorem body_room (v : View) (x : Body) (h : I64 v.room) : I64 (bodyV v x).1.room := by
 unfold bodyV
 split
 ·split
  ·exact h
  ·exact rfl
 ·exact rfl
theorem take_room (v : View) (n : Note) (h : I64 v.room) : I64 (takeV v n).1.room := by
 unfold takeV
 split
 ·split
  ·exact h
  ·exact rfl
 ·exact rfl
set_option maxRecDepth 100000 in
set_option maxHeartbeats 6400000 in
theorem vwrite_call (v : View) (me o skip : Int) (l : List Nat) (gone : Bool) (iR : I64 v.room) (iM : I64 me) (iO : I64 o) (iS : I64 skip) : ACalls Tryz.prog TzTab 26 [vwA v, .val (.int .i64 me), .val (.int .i64 o), .val (.int .i64 skip), .iv (byI l), .val (.bool gone)] (.tup [vwA (writeV v me o skip l gone).view, noteA (writeV v me o skip l gone).note, .val (.int .i64 (writeV v me o skip l gone).err)]) [] := by
 refine ACalls.ofS (n := 102) (rs := [.cell 12 27, .cell 13 30, .tmp 14]) Tryz.func26 rfl (by kernel_rfl) Tryz.ntmps26 (by kernel_rfl) (by simp) (fun _ _ => TzTab.later) ?_
 intro hok V w0
 obtain ⟨R, hR⟩ : ∃ R, writeV v me o skip l gone = R := ⟨_, rfl⟩
 rw [hR]
 unfold writeV at hR
 have hI : ∀ k : Int, I64 (countOf v.known k) := fun k => by
  refine countOf_i64 (fun s hs => ?_) k
  obtain ⟨-, h2, -⟩ := okR_mem (by simpa [stI] using hok.1.1.2) (enSt s) (List.mem_map_of_mem hs)
  exact h2
 have hG := greatS_in v.known hI
 have hnx := next_call (greatS v.known) me skip (I64.hi hG) (I64.hi iS)
 obtain ⟨x1, x2⟩ := nextS_in (s := skip) (I64.hi hG) iM
 obtain ⟨N, hN⟩ : ∃ N, nextS (greatS v.known) me skip = N := ⟨_, rfl⟩
 rw [hN] at hnx x1 x2 hR
 obtain ⟨s, e1⟩ := N
 simp only at hnx x1 x2 hR
 refine g ?_
 refine AW.seq ?_
 refine AW.reg rfl fun KK hKK => ?_
 refine g ?_
 repeat' (first | refine hold_ (g ?_) | (refine hKK _ (g ?_); clear hKK KK) | exact trivial)
 refine AW.freeze 700 _ rfl ⟨trivial, trivial, trivial, trivial, iR, trivial⟩ ?_
 simp only [go_sem, reduceIte, Nat.reduceEqDiff]
 have hT := vtake_call v
 cases gone with
 | true =>
  have hof := nof_call v.known ⟨s, o, true⟩ x1 x2 iO
  obtain ⟨N, hN⟩ : ∃ N, ofN v.known ⟨s, o, true⟩ = N := ⟨_, rfl⟩
  rw [hN] at hof hR
  obtain ⟨n, e2⟩ := N
  simp only at hof hR
  have htk := vtake_call v n iR
  have hroom := take_room v n iR
  obtain ⟨X, hX⟩ : ∃ X, takeV v n = X := ⟨_, rfl⟩
  rw [hX] at htk hR hroom
  obtain ⟨x, e3⟩ := X
  simp only at htk hR hroom
  have hbo := vbody_call x ⟨o, s, l⟩ hroom iO x1 x2
  obtain ⟨Y, hY⟩ : ∃ Y, bodyV x ⟨o, s, l⟩ = Y := ⟨_, rfl⟩
  have hyr := body_room x ⟨o, s, l⟩ hroom
  rw [hY] at hbo hR hyr
  obtain ⟨y, e4⟩ := Y
  simp only at hbo hR hyr
  refine g ?_
  repeat' (first | refine st_ rfl (g ?_) | refine hold_ (g ?_) | exact trivial | refine cond_d (fun h => g ?_) (fun h => g ?_) | refine cond_ (fun h => g ?_) (fun h => g ?_) | (refine hKD _ _ ⟨rfl, g ?_⟩; clear hKD KD) | ((first | refine vops_ifd rfl rfl (fun h e => ?_) (fun h e => ?_) | refine vdraw_ifd rfl rfl (fun h e => ?_) (fun h e => ?_)) <;> simp only [e] <;> clear e <;> refine g ?_) | ((first | refine vops_if rfl rfl (fun h => ?_) (fun h => ?_) | refine vdraw_if rfl rfl (fun h => ?_) (fun h => ?_)) <;> simp only [h] <;> refine g ?_) | refine ix_ (by omega) (g ?_) | refine call_ (vform_call v iR) rfl (g ?_) | refine call_ (great_call _) rfl (g ?_))
  ·rw [if_neg (by rintro ⟨a, _⟩; simp [a] at h)] at hR
   exact write_no hR.symm
  ·rw [if_neg (by rintro ⟨_, a, _⟩; simp [rightO] at a; omega)] at hR
   exact write_no hR.symm
  ·rw [if_neg (by rintro ⟨_, a, _⟩; simp [rightO] at a; omega)] at hR
   exact write_no hR.symm
  ·rw [if_neg (by rintro ⟨_, _, a, _⟩; omega)] at hR
   exact write_no hR.symm
  ·rw [if_neg (by rintro ⟨_, _, _, a⟩; simp at a; simp [a] at h)] at hR
   exact write_no hR.symm
  rw [if_pos (by simp at *; simp [rightO, *]; try omega)] at hR
  refine call_ hnx rfl (g ?_)
  refine g ?_
  repeat' (first | refine hold_ (g ?_) | (refine hKK _ (g ?_); clear hKK KK) | exact trivial)
  refine AW.freeze 1600 _ rfl ⟨x1, x2, trivial⟩ ?_
  simp only [go_sem, reduceIte, Nat.reduceEqDiff]
  refine g ?_
  repeat' (first | refine st_ rfl (g ?_) | refine hold_ (g ?_) | exact trivial | refine cond_d (fun h => g ?_) (fun h => g ?_) | refine cond_ (fun h => g ?_) (fun h => g ?_) | (refine hKD _ _ ⟨rfl, g ?_⟩; clear hKD KD) | ((first | refine vops_ifd rfl rfl (fun h e => ?_) (fun h e => ?_) | refine vdraw_ifd rfl rfl (fun h e => ?_) (fun h e => ?_)) <;> simp only [e] <;> clear e <;> refine g ?_) | ((first | refine vops_if rfl rfl (fun h => ?_) (fun h => ?_) | refine vdraw_if rfl rfl (fun h => ?_) (fun h => ?_)) <;> simp only [h] <;> refine g ?_) | refine ix_ (by omega) (g ?_))
  ·rw [if_neg h] at hR
   exact write_no hR.symm
  rw [if_pos (by simpa using h)] at hR
  refine call_ hof rfl (g ?_)
  refine g ?_
  repeat' (first | refine hold_ (g ?_) | (refine hKK _ (g ?_); clear hKK KK) | exact trivial)
  refine AW.freeze 1800 _ rfl ⟨trivial, trivial, trivial, trivial, trivial⟩ ?_
  simp only [go_sem, reduceIte, Nat.reduceEqDiff]
  refine g ?_
  repeat' (first | refine st_ rfl (g ?_) | refine hold_ (g ?_) | exact trivial | refine cond_d (fun h => g ?_) (fun h => g ?_) | refine cond_ (fun h => g ?_) (fun h => g ?_) | (refine hKD _ _ ⟨rfl, g ?_⟩; clear hKD KD) | ((first | refine vops_ifd rfl rfl (fun h e => ?_) (fun h e => ?_) | refine vdraw_ifd rfl rfl (fun h e => ?_) (fun h e => ?_)) <;> simp only [e] <;> clear e <;> refine g ?_) | ((first | refine vops_if rfl rfl (fun h => ?_) (fun h => ?_) | refine vdraw_if rfl rfl (fun h => ?_) (fun h => ?_)) <;> simp only [h] <;> refine g ?_) | refine ix_ (by omega) (g ?_))
  ·rw [if_neg h] at hR
   exact write_no hR.symm
  rw [if_pos (by simpa using h)] at hR
  refine g ?_
  repeat' (first | refine st_ rfl (g ?_) | refine hold_ (g ?_) | exact trivial | refine cond_d (fun h => g ?_) (fun h => g ?_) | refine cond_ (fun h => g ?_) (fun h => g ?_) | (refine hKD _ _ ⟨rfl, g ?_⟩; clear hKD KD) | ((first | refine vops_ifd rfl rfl (fun h e => ?_) (fun h e => ?_) | refine vdraw_ifd rfl rfl (fun h e => ?_) (fun h e => ?_)) <;> simp only [e] <;> clear e <;> refine g ?_) | ((first | refine vops_if rfl rfl (fun h => ?_) (fun h => ?_) | refine vdraw_if rfl rfl (fun h => ?_) (fun h => ?_)) <;> simp only [h] <;> refine g ?_) | refine ix_ (by omega) (g ?_) | refine call_ (htk) rfl (g ?_) | refine call_ (hbo) rfl (g ?_))
  ·omega
  ·rw [if_pos (by assumption), if_pos trivial] at hR
   subst hR
   refine AW.freeze 1900 _ rfl ⟨trivial, trivial, trivial, trivial, hroom, trivial⟩ ?_
   simp only [go_sem, reduceIte, Nat.reduceEqDiff]
   refine AW.drawn (ds := [100, 101, 14]) (fin := [2, 3]) (bs := [2, 2, 2, 3, 4]) [⟨[], [], [0, 1], [], 0⟩, ⟨[], [], [0], [], 0⟩, ⟨[(100, 0)], [], [], [1], 1⟩, ⟨[(101, 1)], [], [], [0], 1⟩, ⟨[], [], [], [], 0⟩] (by kernel_rfl) rfl (by kernel_rfl) rfl rfl rfl fun KD hKD => ?_
   refine g ?_
   repeat' (first | refine st_ rfl (g ?_) | refine hold_ (g ?_) | exact trivial | refine cond_d (fun h => g ?_) (fun h => g ?_) | refine cond_ (fun h => g ?_) (fun h => g ?_) | (refine hKD _ _ ⟨rfl, g ?_⟩; clear hKD KD) | ((first | refine vops_ifd rfl rfl (fun h e => ?_) (fun h e => ?_) | refine vdraw_ifd rfl rfl (fun h e => ?_) (fun h e => ?_)) <;> simp only [e] <;> clear e <;> refine g ?_) | ((first | refine vops_if rfl rfl (fun h => ?_) (fun h => ?_) | refine vdraw_if rfl rfl (fun h => ?_) (fun h => ?_)) <;> simp only [h] <;> refine g ?_) | refine ix_ (by omega) (g ?_))
   exact Sub1.rfl_ _
  ·rw [if_neg h] at hR
   exact write_no hR.symm
  ·omega
 | false =>
  have hof := nof_call v.known ⟨s, o, false⟩ x1 x2 iO
  obtain ⟨N, hN⟩ : ∃ N, ofN v.known ⟨s, o, false⟩ = N := ⟨_, rfl⟩
  rw [hN] at hof hR
  obtain ⟨n, e2⟩ := N
  simp only at hof hR
  have htk := vtake_call v n iR
  have hroom := take_room v n iR
  obtain ⟨X, hX⟩ : ∃ X, takeV v n = X := ⟨_, rfl⟩
  rw [hX] at htk hR hroom
  obtain ⟨x, e3⟩ := X
  simp only at htk hR hroom
  have hbo := vbody_call x ⟨o, s, l⟩ hroom iO x1 x2
  obtain ⟨Y, hY⟩ : ∃ Y, bodyV x ⟨o, s, l⟩ = Y := ⟨_, rfl⟩
  have hyr := body_room x ⟨o, s, l⟩ hroom
  rw [hY] at hbo hR hyr
  obtain ⟨y, e4⟩ := Y
  simp only at hbo hR hyr
  refine g ?_
  repeat' (first | refine st_ rfl (g ?_) | refine hold_ (g ?_) | exact trivial | refine cond_d (fun h => g ?_) (fun h => g ?_) | refine cond_ (fun h => g ?_) (fun h => g ?_) | (refine hKD _ _ ⟨rfl, g ?_⟩; clear hKD KD) | ((first | refine vops_ifd rfl rfl (fun h e => ?_) (fun h e => ?_) | refine vdraw_ifd rfl rfl (fun h e => ?_) (fun h e => ?_)) <;> simp only [e] <;> clear e <;> refine g ?_) | ((first | refine vops_if rfl rfl (fun h => ?_) (fun h => ?_) | refine vdraw_if rfl rfl (fun h => ?_) (fun h => ?_)) <;> simp only [h] <;> refine g ?_) | refine ix_ (by omega) (g ?_) | refine call_ (vform_call v iR) rfl (g ?_) | refine call_ (great_call _) rfl (g ?_))
  ·rw [if_neg (by rintro ⟨a, _⟩; simp [a] at h)] at hR
   exact write_no hR.symm
  ·rw [if_neg (by rintro ⟨_, a, _⟩; simp [rightO] at a; omega)] at hR
   exact write_no hR.symm
  ·rw [if_neg (by rintro ⟨_, a, _⟩; simp [rightO] at a; omega)] at hR
   exact write_no hR.symm
  ·rw [if_neg (by rintro ⟨_, _, a, _⟩; omega)] at hR
   exact write_no hR.symm
  rw [if_pos (by simp at *; simp [rightO, *]; try omega)] at hR
  refine call_ hnx rfl (g ?_)
  refine g ?_
  repeat' (first | refine hold_ (g ?_) | (refine hKK _ (g ?_); clear hKK KK) | exact trivial)
  refine AW.freeze 1600 _ rfl ⟨x1, x2, trivial⟩ ?_
  simp only [go_sem, reduceIte, Nat.reduceEqDiff]
  refine g ?_
  repeat' (first | refine st_ rfl (g ?_) | refine hold_ (g ?_) | exact trivial | refine cond_d (fun h => g ?_) (fun h => g ?_) | refine cond_ (fun h => g ?_) (fun h => g ?_) | (refine hKD _ _ ⟨rfl, g ?_⟩; clear hKD KD) | ((first | refine vops_ifd rfl rfl (fun h e => ?_) (fun h e => ?_) | refine vdraw_ifd rfl rfl (fun h e => ?_) (fun h e => ?_)) <;> simp only [e] <;> clear e <;> refine g ?_) | ((first | refine vops_if rfl rfl (fun h => ?_) (fun h => ?_) | refine vdraw_if rfl rfl (fun h => ?_) (fun h => ?_)) <;> simp only [h] <;> refine g ?_) | refine ix_ (by omega) (g ?_))
  ·rw [if_neg h] at hR
   exact write_no hR.symm
  rw [if_pos (by simpa using h)] at hR
  refine call_ hof rfl (g ?_)
  refine g ?_
  repeat' (first | refine hold_ (g ?_) | (refine hKK _ (g ?_); clear hKK KK) | exact trivial)
  refine AW.freeze 1800 _ rfl ⟨trivial, trivial, trivial, trivial, trivial⟩ ?_
  simp only [go_sem, reduceIte, Nat.reduceEqDiff]
  refine g ?_
  repeat' (first | refine st_ rfl (g ?_) | refine hold_ (g ?_) | exact trivial | refine cond_d (fun h => g ?_) (fun h => g ?_) | refine cond_ (fun h => g ?_) (fun h => g ?_) | (refine hKD _ _ ⟨rfl, g ?_⟩; clear hKD KD) | ((first | refine vops_ifd rfl rfl (fun h e => ?_) (fun h e => ?_) | refine vdraw_ifd rfl rfl (fun h e => ?_) (fun h e => ?_)) <;> simp only [e] <;> clear e <;> refine g ?_) | ((first | refine vops_if rfl rfl (fun h => ?_) (fun h => ?_) | refine vdraw_if rfl rfl (fun h => ?_) (fun h => ?_)) <;> simp only [h] <;> refine g ?_) | refine ix_ (by omega) (g ?_))
  ·rw [if_neg h] at hR
   exact write_no hR.symm
  rw [if_pos (by simpa using h)] at hR
  refine g ?_
  repeat' (first | refine st_ rfl (g ?_) | refine hold_ (g ?_) | exact trivial | refine cond_d (fun h => g ?_) (fun h => g ?_) | refine cond_ (fun h => g ?_) (fun h => g ?_) | (refine hKD _ _ ⟨rfl, g ?_⟩; clear hKD KD) | ((first | refine vops_ifd rfl rfl (fun h e => ?_) (fun h e => ?_) | refine vdraw_ifd rfl rfl (fun h e => ?_) (fun h e => ?_)) <;> simp only [e] <;> clear e <;> refine g ?_) | ((first | refine vops_if rfl rfl (fun h => ?_) (fun h => ?_) | refine vdraw_if rfl rfl (fun h => ?_) (fun h => ?_)) <;> simp only [h] <;> refine g ?_) | refine ix_ (by omega) (g ?_) | refine call_ (htk) rfl (g ?_) | refine call_ (hbo) rfl (g ?_))
  ·rename_i hb
   rw [if_pos hb, if_neg (by decide), if_neg h] at hR
   exact write_no hR.symm
  ·rename_i hb
   rw [if_pos hb, if_neg (by decide), if_pos (by simpa using h)] at hR
   subst hR
   refine AW.freeze 1900 _ rfl ⟨trivial, trivial, trivial, trivial, hyr, trivial⟩ ?_
   simp only [go_sem, reduceIte, Nat.reduceEqDiff]
   refine AW.drawn (ds := [100, 101, 14]) (fin := [2, 3]) (bs := [2, 2, 2, 3, 4]) [⟨[], [], [0, 1], [], 0⟩, ⟨[], [], [0], [], 0⟩, ⟨[(100, 0)], [], [], [1], 1⟩, ⟨[(101, 1)], [], [], [0], 1⟩, ⟨[], [], [], [], 0⟩] (by kernel_rfl) rfl (by kernel_rfl) rfl rfl rfl fun KD hKD => ?_
   refine g ?_
   repeat' (first | refine st_ rfl (g ?_) | refine hold_ (g ?_) | exact trivial | refine cond_d (fun h => g ?_) (fun h => g ?_) | refine cond_ (fun h => g ?_) (fun h => g ?_) | (refine hKD _ _ ⟨rfl, g ?_⟩; clear hKD KD) | ((first | refine vops_ifd rfl rfl (fun h e => ?_) (fun h e => ?_) | refine vdraw_ifd rfl rfl (fun h e => ?_) (fun h e => ?_)) <;> simp only [e] <;> clear e <;> refine g ?_) | ((first | refine vops_if rfl rfl (fun h => ?_) (fun h => ?_) | refine vdraw_if rfl rfl (fun h => ?_) (fun h => ?_)) <;> simp only [h] <;> refine g ?_) | refine ix_ (by omega) (g ?_))
   exact Sub1.rfl_ _
  ·rw [if_neg h] at hR
   exact write_no hR.symm
  ·omega
end Go.Proofs.YtkphfdmelfhnoaaGreatDoor
namespace Go.Proofs.YtkphfdmelfhnoaaGreatDoor
open Go.ChangeShapes Go.WideShapes Go.ChangeAt Go.RowKit
attribute [local irreducible] AW AWY vops vopsY vop vopL vdraw callW qop binQ lenQ storeQ appendQ callQ ACalls AIter
attribute [local go_sem] enB_eq boI_eq boA_eq enW_eq wrI_eq wA_eq enZ_eq znI_eq vwA_eq storeQ_bp storeQ_rp
set_option maxRecDepth 100000 in
theorem rbycopyD (l : List Nat) : ACalls Tryz.prog TzTab 170 [.iv (byI l)] (.iv (byI l)) [] := by
 refine ACalls.ofS (n := 6) (rs := [.tmp 2]) Tryz.func170 rfl (by kernel_rfl) Tryz.ntmps170 (by kernel_rfl) (by simp) (fun _ _ => TzTab.later) ?_
 intro hok V w0
 have hlen : l.length ≤ 1073741824 := by simpa [byI] using hok.1.1
 refine g ?_
 repeat' (first | refine st_ rfl (g ?_) | refine hold_ (g ?_) | exact trivial | refine cond_d (fun h => g ?_) (fun h => g ?_) | refine cond_ (fun h => g ?_) (fun h => g ?_) | (refine vops_ifd rfl rfl (fun h e => ?_) (fun h e => ?_) <;> simp only [e] <;> clear e <;> refine g ?_) | (refine vops_if rfl rfl (fun h => ?_) (fun h => ?_) <;> simp only [h] <;> refine g ?_) | refine ix_ (by omega) (g ?_))
 refine bs0 (by omega) ?_
 refine g ?_
 repeat' (first | refine st_ rfl (g ?_) | refine hold_ (g ?_) | exact trivial | refine cond_d (fun h => g ?_) (fun h => g ?_) | refine cond_ (fun h => g ?_) (fun h => g ?_) | (refine vops_ifd rfl rfl (fun h e => ?_) (fun h e => ?_) <;> simp only [e] <;> clear e <;> refine g ?_) | (refine vops_if rfl rfl (fun h => ?_) (fun h => ?_) <;> simp only [h] <;> refine g ?_) | refine ix_ (by omega) (g ?_))
 refine append_own rfl (by kernel_rfl) (by omega) (by kernel_rfl) rfl (by simpa [byI] using hlen) ?_
 refine g ?_
 repeat' (first | refine hold_ (g ?_) | (refine hKK _ (g ?_); clear hKK KK) | exact trivial)
 refine AW.freeze 600 _ rfl trivial ?_
 simp only [go_sem, reduceIte, Nat.reduceEqDiff]
 refine g ?_
 repeat' (first | refine st_ rfl (g ?_) | refine hold_ (g ?_) | exact trivial | refine cond_d (fun h => g ?_) (fun h => g ?_) | refine cond_ (fun h => g ?_) (fun h => g ?_) | (refine vops_ifd rfl rfl (fun h e => ?_) (fun h e => ?_) <;> simp only [e] <;> clear e <;> refine g ?_) | (refine vops_if rfl rfl (fun h => ?_) (fun h => ?_) <;> simp only [h] <;> refine g ?_) | refine ix_ (by omega) (g ?_))
 exact Sub1.rfl_ _
end Go.Proofs.YtkphfdmelfhnoaaGreatDoor
namespace Go.Proofs.YtkphfdmelfhnoaaGreatDoor
open Go.ChangeShapes Go.WideShapes Go.ChangeAt Go.RowKit
attribute [local irreducible] AW AWY vops vopsY vop vopL vdraw callW qop binQ lenQ storeQ appendQ callQ ACalls AIter
attribute [local go_sem] enB_eq boI_eq boA_eq enW_eq wrI_eq wA_eq enZ_eq znI_eq vwA_eq storeQ_bp storeQ_rp
end Go.Proofs.YtkphfdmelfhnoaaGreatDoor
namespace Go.Proofs.YtkphfdmelfhnoaaGreatDoor
open Go.ChangeShapes Go.WideShapes Go.ChangeAt Go.RowKit
attribute [local irreducible] AW AWY vops vopsY vop vopL vdraw callW qop binQ lenQ storeQ appendQ callQ ACalls AIter
attribute [local go_sem] enB_eq boI_eq boA_eq storeQ_bp storeQ_rp
theorem find_none_step {l : List Body} {m : Nat} {o : Int} {s : Stamp} (h : m < l.length) (ht : ∀ x ∈ l.take m, isB o s x = false) (hx : isB o s l[m] = false) : ∀ x ∈ l.take (m + 1), isB o s x = false := fun x hx2 => by
 rw [List.take_succ_eq_append_getElem h] at hx2
 rcases List.mem_append.1 hx2 with h1 | h1
 ·exact ht x h1
 ·rw [List.mem_singleton.1 h1]; exact hx
theorem find_take {l : List Body} {m : Nat} {o : Int} {s : Stamp} (h : m < l.length) (ht : ∀ x ∈ l.take m, isB o s x = false) (hx : isB o s l[m] = true) : l.find? (isB o s) = some l[m] := by
 conv => lhs; rw [← List.take_append_drop m l, List.drop_eq_getElem_cons h]
 rw [List.find?_append, List.find?_eq_none.2 fun x hx => by rw [ht x hx]; simp, Option.none_or]
 simp only [List.find?_cons, hx]
set_option maxRecDepth 100000 in
theorem rcget_call (l : List Body) (o : Int) (s : Stamp) (i1 : I64 s.count) (i2 : I64 s.node) : ACalls Tryz.prog TzTab 112 [.iv (boI l), .val (.int .i64 o), .agg [.val (.int .i64 s.count), .val (.int .i64 s.node)]] (.tup [.iv (byI (getB l o s).1), .val (.int .i64 (getB l o s).2)]) [] := by
 refine ACalls.ofS (n := 37) (rs := [.tmp 6, .tmp 7]) Tryz.func112 rfl (by kernel_rfl) Tryz.ntmps112 (by kernel_rfl) (by simp) (fun _ _ => TzTab.later) ?_
 intro hok V w0
 have hlen : l.length ≤ 1073741824 := by simpa [boI] using hok.1.1
 obtain ⟨R, hR⟩ : ∃ R, getB l o s = R := ⟨_, rfl⟩
 rw [hR]
 unfold getB at hR
 refine g ?_
 refine AW.seq ?_
 refine AW.reg rfl fun KK hKK => ?_
 refine g ?_
 repeat' (first | refine hold_ (g ?_) | (refine hKK _ (g ?_); clear hKK KK) | exact trivial)
 refine AW.freeze 600 _ rfl ⟨i1, i2, trivial⟩ ?_
 simp only [go_sem, reduceIte, Nat.reduceEqDiff]
 refine g ?_
 repeat' (first | refine st_ rfl (g ?_) | refine hold_ (g ?_) | exact trivial | refine cond_d (fun h => g ?_) (fun h => g ?_) | refine cond_ (fun h => g ?_) (fun h => g ?_) | (refine hKD _ _ ⟨rfl, g ?_⟩; clear hKD KD) | ((first | refine vops_ifd rfl rfl (fun h e => ?_) (fun h e => ?_) | refine vdraw_ifd rfl rfl (fun h e => ?_) (fun h e => ?_)) <;> simp only [e] <;> clear e <;> refine g ?_) | ((first | refine vops_if rfl rfl (fun h => ?_) (fun h => ?_) | refine vdraw_if rfl rfl (fun h => ?_) (fun h => ?_)) <;> simp only [h] <;> refine g ?_) | refine ix_ (by omega) (g ?_))
 refine AW.loop (fun m : {m : Nat // m ≤ l.length ∧ ∀ x ∈ l.take m, isB o s x = false} => ⟨[(0, .iv (boI l)), (1, .val (.int .i64 o)), (5, .ip [.val (.int .i64 s.count), .val (.int .i64 s.node)]), (8, .val (.int .i64 (m.1 : Nat)))], []⟩) (fun m => l.length - m.1) ⟨0, Nat.zero_le _, fun x hx => by simp at hx⟩ id ⟨⟨rfl, rfl, rfl, rfl, trivial⟩, trivial, List.nodup_nil⟩ fun ⟨m, hm, ht⟩ => ?_
 simp only
 repeat (refine AW.seq ?_)
 refine AW.reg rfl fun KK hKK => ?_
 refine g ?_
 repeat' (first | refine hold_ (g ?_) | (refine hKK _ (g ?_); clear hKK KK) | exact trivial)
 repeat (refine AW.seq ?_)
 refine st_ rfl ?_
 refine g ?_
 refine cond_ (fun h => ?_) (fun h => ?_)
 ·have hlt : m < l.length := by have := of_decide_eq_true h; omega
  refine g ?_
  repeat' (first | refine st_ rfl (g ?_) | refine hold_ (g ?_) | exact trivial | refine cond_d (fun h => g ?_) (fun h => g ?_) | refine cond_ (fun h => g ?_) (fun h => g ?_) | (refine hKD _ _ ⟨rfl, g ?_⟩; clear hKD KD) | ((first | refine vops_ifd rfl rfl (fun h e => ?_) (fun h e => ?_) | refine vdraw_ifd rfl rfl (fun h e => ?_) (fun h e => ?_)) <;> simp only [e] <;> clear e <;> refine g ?_) | ((first | refine vops_if rfl rfl (fun h => ?_) (fun h => ?_) | refine vdraw_if rfl rfl (fun h => ?_) (fun h => ?_)) <;> simp only [h] <;> refine g ?_) | refine ix_ (by omega) (g ?_))
  refine AW.drawn (ds := [15, 16, 17, 18, 19, 20, 21, 22, 23, 24, 25, 26, 27, 28, 29, 30]) (fin := []) (bs := [0, 0, 0, 0, 0, 0, 0, 0, 0, 0, 0, 0, 0, 0, 0, 0]) [⟨[], [], [], [], 0⟩, ⟨[], [], [], [], 0⟩, ⟨[(15, 0), (16, 1)], [], [], [], 0⟩, ⟨[(17, 2)], [], [], [], 0⟩, ⟨[(18, 3)], [], [], [], 0⟩, ⟨[], [], [], [], 0⟩, ⟨[(19, 4), (20, 5)], [], [], [], 0⟩, ⟨[(21, 6)], [], [], [], 0⟩, ⟨[], [], [], [], 0⟩, ⟨[], [], [], [], 0⟩, ⟨[(23, 8), (24, 9)], [], [], [], 0⟩, ⟨[(25, 10)], [], [], [], 0⟩, ⟨[(26, 11)], [], [], [], 0⟩, ⟨[], [], [], [], 0⟩, ⟨[(27, 12), (28, 13)], [], [], [], 0⟩, ⟨[(22, 7), (29, 14)], [], [], [], 0⟩] (by kernel_rfl) rfl (by kernel_rfl) rfl rfl rfl fun KD hKD => ?_
  refine g ?_
  repeat' (first | refine st_ rfl (g ?_) | refine hold_ (g ?_) | exact trivial | refine cond_d (fun h => g ?_) (fun h => g ?_) | refine cond_ (fun h => g ?_) (fun h => g ?_) | (refine hKD _ _ ⟨rfl, g ?_⟩; clear hKD KD) | ((first | refine vops_ifd rfl rfl (fun h e => ?_) (fun h e => ?_) | refine vdraw_ifd rfl rfl (fun h e => ?_) (fun h e => ?_)) <;> simp only [e] <;> clear e <;> refine g ?_) | ((first | refine vops_if rfl rfl (fun h => ?_) (fun h => ?_) | refine vdraw_if rfl rfl (fun h => ?_) (fun h => ?_)) <;> simp only [h] <;> refine g ?_) | refine ix_ (by omega) (g ?_))
  ·refine ⟨_, fun u => stamp_eq _ _ _ _ _ _ u, ?_⟩
   refine g ?_
   repeat' (first | refine st_ rfl (g ?_) | refine hold_ (g ?_) | exact trivial | refine cond_d (fun h => g ?_) (fun h => g ?_) | refine cond_ (fun h => g ?_) (fun h => g ?_) | (refine hKD _ _ ⟨rfl, g ?_⟩; clear hKD KD) | ((first | refine vops_ifd rfl rfl (fun h e => ?_) (fun h e => ?_) | refine vdraw_ifd rfl rfl (fun h e => ?_) (fun h e => ?_)) <;> simp only [e] <;> clear e <;> refine g ?_) | ((first | refine vops_if rfl rfl (fun h => ?_) (fun h => ?_) | refine vdraw_if rfl rfl (fun h => ?_) (fun h => ?_)) <;> simp only [h] <;> refine g ?_) | refine ix_ (by omega) (g ?_) | refine call_ (rbycopyD _) rfl (g ?_))
   ·rename_i ho
    have hb : isB o s l[m] = true := by unfold isB; rw [stamp_dec, ho, h]; simp
    rw [find_take hlt ht hb] at hR
    subst hR
    exact Sub1.rfl_ _
   ·rename_i ho
    have hb : isB o s l[m] = false := by unfold isB; rw [stamp_dec, h]; simp
    exact ⟨⟨m + 1, hlt, find_none_step hlt ht hb⟩, id, ⟨⟨rfl, rfl, rfl, rfl, trivial⟩, trivial, List.nodup_nil⟩, by show l.length - (m + 1) < l.length - m; omega⟩
  ·have hb : isB o s l[m] = false := by unfold isB; rw [decide_eq_false h]; rfl
   exact ⟨⟨m + 1, hlt, find_none_step hlt ht hb⟩, id, ⟨⟨rfl, rfl, rfl, rfl, trivial⟩, trivial, List.nodup_nil⟩, by show l.length - (m + 1) < l.length - m; omega⟩
 ·obtain rfl : m = l.length := by have := of_decide_eq_false h; omega
  rw [List.take_length] at ht
  rw [List.find?_eq_none.2 fun x hx => by rw [ht x hx]; simp] at hR
  subst hR
  refine g ?_
  repeat' (first | refine st_ rfl (g ?_) | refine hold_ (g ?_) | exact trivial | refine cond_d (fun h => g ?_) (fun h => g ?_) | refine cond_ (fun h => g ?_) (fun h => g ?_) | (refine hKD _ _ ⟨rfl, g ?_⟩; clear hKD KD) | ((first | refine vops_ifd rfl rfl (fun h e => ?_) (fun h e => ?_) | refine vdraw_ifd rfl rfl (fun h e => ?_) (fun h e => ?_)) <;> simp only [e] <;> clear e <;> refine g ?_) | ((first | refine vops_if rfl rfl (fun h => ?_) (fun h => ?_) | refine vdraw_if rfl rfl (fun h => ?_) (fun h => ?_)) <;> simp only [h] <;> refine g ?_) | refine ix_ (by omega) (g ?_))
  refine tup_sub rfl fun p hp => ?_
  simp only [List.zip_cons_cons, List.zip_nil_right, List.mem_cons, List.not_mem_nil, or_false] at hp
  rcases hp with rfl | rfl
  ·exact nil_sub 1
  ·exact Sub1.rfl_ _
end Go.Proofs.YtkphfdmelfhnoaaGreatDoor
namespace Go.Proofs.YtkphfdmelfhnoaaGreatDoor
open Go.ChangeShapes Go.WideShapes Go.ChangeAt Go.RowKit
attribute [local irreducible] AW AWY vops vopsY vop vopL vdraw callW qop binQ lenQ storeQ appendQ callQ ACalls AIter
attribute [local go_sem] enB_eq boI_eq boA_eq enW_eq wrI_eq wA_eq enZ_eq znI_eq vwA_eq noteA_eq storeQ_bp storeQ_rp
end Go.Proofs.YtkphfdmelfhnoaaGreatDoor
namespace Go.Proofs.YtkphfdmelfhnoaaGreatDoor
open Go.ChangeShapes Go.WideShapes Go.ChangeAt Go.RowKit
attribute [local irreducible] AW AWY vops vopsY vop vopL vdraw callW qop binQ lenQ storeQ appendQ callQ ACalls AIter
attribute [local go_sem] enB_eq boI_eq boA_eq enW_eq wrI_eq wA_eq enZ_eq znI_eq vwA_eq noteA_eq storeQ_bp storeQ_rp
set_option maxRecDepth 100000 in
set_option maxHeartbeats 3200000 in
theorem rvserve_call (v : View) (o : Int) (iR : I64 v.room) : ACalls Tryz.prog TzTab 32 [vwA v, .val (.int .i64 o)] (.tup [boA (serveV v o).1, .val (.int .i64 (serveV v o).2)]) [] := by
 refine ACalls.ofS (n := 53) (rs := [.cell 4 51, .tmp 5]) Tryz.func32 rfl (by kernel_rfl) Tryz.ntmps32 (by kernel_rfl) (by simp) (fun _ _ => TzTab.later) ?_
 intro hok V w0
 obtain ⟨R, hR⟩ : ∃ R, serveV v o = R := ⟨_, rfl⟩
 rw [hR]
 unfold serveV at hR
 have hI : ∀ x ∈ v.held, I64 x.stamp.count ∧ I64 x.stamp.node ∧ I64 x.object := fun x hx => by
  obtain ⟨-, o1, o2, o3, -⟩ := okR_mem (by simpa [wrI] using hok.1.2.2.1.2) (enW x) (List.mem_map_of_mem hx)
  exact ⟨o1, o2, o3⟩
 refine g ?_
 refine AW.seq ?_
 refine AW.reg rfl fun KK hKK => ?_
 refine g ?_
 repeat' (first | refine hold_ (g ?_) | (refine hKK _ (g ?_); clear hKK KK) | exact trivial)
 refine AW.freeze 300 _ rfl ⟨trivial, trivial, trivial, trivial, iR, trivial⟩ ?_
 simp only [go_sem, reduceIte, Nat.reduceEqDiff]
 refine g ?_
 repeat' (first | refine st_ rfl (g ?_) | refine hold_ (g ?_) | exact trivial | refine cond_d (fun h => g ?_) (fun h => g ?_) | refine cond_ (fun h => g ?_) (fun h => g ?_) | (refine vops_ifd rfl rfl (fun h e => ?_) (fun h e => ?_) <;> simp only [e] <;> clear e <;> refine g ?_) | (refine vops_if rfl rfl (fun h => ?_) (fun h => ?_) <;> simp only [h] <;> refine g ?_) | refine ix_ (by omega) (g ?_) | refine call_ (rview_call v iR) rfl (g ?_))
 ·rw [if_neg (by rintro ⟨a, _⟩; simp [a] at h)] at hR
  exact body_no hR.symm
 ·rw [if_neg (by rintro ⟨_, a⟩; simp [rightO] at a; omega)] at hR
  exact body_no hR.symm
 ·rw [if_neg (by rintro ⟨_, a⟩; simp [rightO] at a; omega)] at hR
  exact body_no hR.symm
 rename_i h1 h2
 have hF : viewFormed v = true := by simpa using h1
 have hO : rightO o = true := by simp [rightO]; omega
 rw [if_pos ⟨hF, hO⟩] at hR
 have hget := rat_call v.held o
 cases hg : getW v.held o with
 | none =>
  rw [hg] at hget hR
  simp only [Option.getD_none, Option.getD_some, Option.isSome_none, Option.isSome_some] at hget hR
  refine call_ hget rfl (g ?_)
  refine g ?_
  repeat' (first | refine hold_ (g ?_) | (refine hKK _ (g ?_); clear hKK KK) | exact trivial)
  refine AW.freeze 700 _ rfl ⟨rfl, rfl, rfl, trivial, trivial⟩ ?_
  simp only [go_sem, reduceIte, Nat.reduceEqDiff]
  refine g ?_
  repeat' (first | refine st_ rfl (g ?_) | refine hold_ (g ?_) | exact trivial | refine cond_d (fun h => g ?_) (fun h => g ?_) | refine cond_ (fun h => g ?_) (fun h => g ?_) | (refine vops_ifd rfl rfl (fun h e => ?_) (fun h e => ?_) <;> simp only [e] <;> clear e <;> refine g ?_) | (refine vops_if rfl rfl (fun h => ?_) (fun h => ?_) <;> simp only [h] <;> refine g ?_) | refine ix_ (by omega) (g ?_))
  exact body_no hR.symm
 | some w =>
  rw [hg] at hget hR
  simp only [Option.getD_none, Option.getD_some, Option.isSome_none, Option.isSome_some] at hget hR
  obtain ⟨w1, w2, w3⟩ := get_in hg hI
  refine call_ hget rfl (g ?_)
  refine g ?_
  repeat' (first | refine hold_ (g ?_) | (refine hKK _ (g ?_); clear hKK KK) | exact trivial)
  refine AW.freeze 700 _ rfl ⟨w1, w2, w3, trivial, trivial⟩ ?_
  simp only [go_sem, reduceIte, Nat.reduceEqDiff]
  have hcg := rcget_call v.bodies o w.stamp w1 w2
  obtain ⟨Q, hQ⟩ : ∃ Q, getB v.bodies o w.stamp = Q := ⟨_, rfl⟩
  rw [hQ] at hcg hR
  obtain ⟨b, e⟩ := Q
  simp only at hcg hR
  refine g ?_
  repeat' (first | refine st_ rfl (g ?_) | refine hold_ (g ?_) | exact trivial | refine cond_d (fun h => g ?_) (fun h => g ?_) | refine cond_ (fun h => g ?_) (fun h => g ?_) | (refine vops_ifd rfl rfl (fun h e => ?_) (fun h e => ?_) <;> simp only [e] <;> clear e <;> refine g ?_) | (refine vops_if rfl rfl (fun h => ?_) (fun h => ?_) <;> simp only [h] <;> refine g ?_) | refine ix_ (by omega) (g ?_) | refine call_ (hcg) rfl (g ?_))
  ·rw [if_pos h] at hR
   exact body_no hR.symm
  ·rename_i hgo
   rw [if_neg (by simp [hgo]), if_neg h] at hR
   exact body_no hR.symm
  ·rename_i hgo
   rw [if_neg (by simp [hgo]), if_pos (by simpa using h)] at hR
   subst hR
   exact Sub1.rfl_ _
end Go.Proofs.YtkphfdmelfhnoaaGreatDoor
namespace Go.Proofs.YtkphfdmelfhnoaaGreatDoor
open Go.ChangeShapes Go.WideShapes Go.ChangeAt Go.RowKit
attribute [local irreducible] AW AWY vops vopsY vop vopL vdraw callW qop binQ lenQ storeQ appendQ callQ ACalls AIter
attribute [local go_sem] enB_eq boI_eq boA_eq enW_eq wrI_eq wA_eq enZ_eq znI_eq vwA_eq noteA_eq storeQ_bp storeQ_rp
def lackB (v : View) (it : List Span) (w : Write) : Bool := !w.gone && spanHas it w.object && !decide ((getB v.bodies w.object w.stamp).2 = 0)
def lackL (v : View) (it : List Span) (l : List Write) : List Int := (l.filter (lackB v it)).map (·.object)
def lacksV (v : View) (it : List Span) : List Int × Int := if viewFormed v = true then (lackL v it v.held, 0) else ([], 1)
def enO (o : Int) : List IV := [.val (.int .i64 o)]
theorem lackL_snoc (v : View) (it : List Span) (l : List Write) (w : Write) : lackL v it (l ++ [w]) = lackL v it l ++ if lackB v it w = true then [w.object] else [] := by
 unfold lackL
 rw [List.filter_append, List.map_append]
 by_cases h : lackB v it w = true <;> simp [h]
set_option maxRecDepth 100000 in
set_option maxHeartbeats 1600000 in
theorem vlacks_call (v : View) (it : List Span) (iR : I64 v.room) : ACalls Tryz.prog TzTab 33 [vwA v, .iv (spI it)] (.tup [.iv (.sl 1 ((lacksV v it).1.map enO)), .val (.int .i64 (lacksV v it).2)]) [] := by
 refine ACalls.ofS (n := 43) (rs := [.tmp 4, .tmp 5]) Tryz.func33 rfl (by kernel_rfl) Tryz.ntmps33 (by kernel_rfl) (by simp) (fun _ _ => TzTab.later) ?_
 intro hok V w0
 obtain ⟨R, hR⟩ : ∃ R, lacksV v it = R := ⟨_, rfl⟩
 rw [hR]
 unfold lacksV at hR
 have hI : ∀ x ∈ v.held, I64 x.stamp.count ∧ I64 x.stamp.node ∧ I64 x.object := fun x hx => by
  obtain ⟨-, o1, o2, o3, -⟩ := okR_mem (by simpa [wrI] using hok.1.2.2.1.2) (enW x) (List.mem_map_of_mem hx)
  exact ⟨o1, o2, o3⟩
 refine g ?_
 refine AW.seq ?_
 refine AW.reg rfl fun KK hKK => ?_
 refine g ?_
 repeat' (first | refine hold_ (g ?_) | (refine hKK _ (g ?_); clear hKK KK) | exact trivial)
 refine AW.freeze 300 _ rfl ⟨trivial, trivial, trivial, trivial, iR, trivial⟩ ?_
 simp only [go_sem, reduceIte, Nat.reduceEqDiff]
 refine AW.freeze 400 _ rfl ⟨trivial, trivial⟩ ?_
 simp only [go_sem, reduceIte, Nat.reduceEqDiff]
 refine g ?_
 repeat' (first | refine st_ rfl (g ?_) | refine hold_ (g ?_) | exact trivial | refine cond_d (fun h => g ?_) (fun h => g ?_) | refine cond_ (fun h => g ?_) (fun h => g ?_) | (refine vops_ifd rfl rfl (fun h e => ?_) (fun h e => ?_) <;> simp only [e] <;> clear e <;> refine g ?_) | (refine vops_if rfl rfl (fun h => ?_) (fun h => ?_) <;> simp only [h] <;> refine g ?_) | refine ix_ (by omega) (g ?_) | refine call_ (vform_call v iR) rfl (g ?_) | refine call_ (shall_call _) rfl (g ?_))
 ·rw [if_neg (by simpa using h)] at hR
  subst hR
  refine tup_sub rfl fun p hp => ?_
  simp only [List.zip_cons_cons, List.zip_nil_right, List.mem_cons, List.not_mem_nil, or_false] at hp
  rcases hp with rfl | rfl
  ·exact nil_sub 1
  ·exact Sub1.rfl_ _
 have hF : viewFormed v = true := by simpa using h
 rw [if_pos hF] at hR
 have hhf : shelfFormed v.held = true := by
  simp only [viewFormed, partsB, Bool.and_eq_true] at hF
  exact hF.1.1.1.1.2
 have hhl := shelf_len (shelf_iff.1 hhf)
 refine AW.adoptB 700 9900 3 1 rfl rfl ?_
 refine AW.le (S := ⟨[(6, .bp 700 0), (2, .ip [stI v.known, znI v.zones, wrI v.held, boI v.bodies, .val (.int .i64 v.room)]), (3, .ip [spI it]), (16, .fn 174 [.ip [wrI v.held]])], [.row 9900 3 1 ((lackL v it []).map enO), .box 700 [.own 9900]]⟩) (ρ := id) ⟨⟨rfl, rfl, rfl, rfl, trivial⟩, ⟨rfl, rfl, trivial⟩, by simp [idsOf, BA.id]⟩ ?_
 refine AW.range (shall_iter v.held hhf) [(6, .bp 700 0)] [(2, .ip [stI v.known, znI v.zones, wrI v.held, boI v.bodies, .val (.int .i64 v.room)]), (3, .ip [spI it]), (16, .fn 174 [.ip [wrI v.held]])] (fun pre => [.row 9900 3 1 ((lackL v it pre).map enO), .box 700 [.own 9900]]) (fun _ => True) rfl trivial rfl rfl rfl rfl (fun x => ⟨rfl, rfl⟩) (fun c pre x hsp _ => ?_) (fun xs hS _ => ?_)
 ·have hx : x ∈ v.held := hsp.subset (by simp)
  obtain ⟨w1, w2, w3⟩ := hI x hx
  have hs := lackL_snoc v it pre x
  simp only [parF, enWo, List.cons_append, List.nil_append]
  refine g ?_
  refine AW.seq ?_
  refine AW.reg rfl fun KK hKK => ?_
  refine g ?_
  repeat' (first | refine hold_ (g ?_) | (refine hKK _ (g ?_); clear hKK KK) | exact trivial)
  refine AW.reg rfl fun KK hKK => ?_
  refine g ?_
  repeat' (first | refine hold_ (g ?_) | (refine hKK _ (g ?_); clear hKK KK) | exact trivial)
  refine AW.freeze 900 _ rfl ⟨w1, w2, w3, trivial, trivial⟩ ?_
  simp only [go_sem, reduceIte, Nat.reduceEqDiff]
  have hcg := cget_call v.bodies x.object x.stamp w3 w1 w2
  have hno : lackB v it x = false → ∀ y, y = lackL v it pre → some (BA.row 9900 3 1 (y.map enO)) = some (BA.row 9900 3 1 ((lackL v it (pre ++ [x])).map enO)) := fun h y e => by
   rw [hs, h, e]
   simp
  have hll : (lackL v it pre).length ≤ 256 := by
   unfold lackL
   rw [List.length_map]
   have h1 := List.length_filter_le (lackB v it) pre
   have h2 := hsp.length_le
   rw [List.length_append, List.length_singleton] at h2
   omega
  refine g ?_
  repeat' (first | refine st_ rfl (g ?_) | refine hold_ (g ?_) | exact trivial | refine cond_d (fun h => g ?_) (fun h => g ?_) | refine cond_ (fun h => g ?_) (fun h => g ?_) | (refine vops_ifd rfl rfl (fun h e => ?_) (fun h e => ?_) <;> simp only [e] <;> clear e <;> refine g ?_) | (refine vops_if rfl rfl (fun h => ?_) (fun h => ?_) <;> simp only [h] <;> refine g ?_) | refine ix_ (by omega) (g ?_) | refine call_ (shas_call _ _) rfl (g ?_) | refine call_ (hcg) rfl (g ?_))
  ·exact ⟨trivial, id, ⟨rfl, trivial⟩, ⟨hno (by simp [lackB, h]) _ rfl, rfl, trivial⟩, by simp [idsOf, BA.id]⟩
  ·exact ⟨trivial, id, ⟨rfl, trivial⟩, ⟨hno (by simp at h; simp [lackB, h]) _ rfl, rfl, trivial⟩, by simp [idsOf, BA.id]⟩
  ·rename_i h1 h2
   refine bs1 (by omega) rfl rfl rfl ⟨w3, trivial⟩ ?_
   refine g ?_
   repeat' (first | refine st_ rfl (g ?_) | refine hold_ (g ?_) | exact trivial | refine cond_d (fun h => g ?_) (fun h => g ?_) | refine cond_ (fun h => g ?_) (fun h => g ?_) | (refine vops_ifd rfl rfl (fun h e => ?_) (fun h e => ?_) <;> simp only [e] <;> clear e <;> refine g ?_) | (refine vops_if rfl rfl (fun h => ?_) (fun h => ?_) <;> simp only [h] <;> refine g ?_) | refine ix_ (by omega) (g ?_))
   refine append_own rfl (by kernel_rfl) (by omega) (by kernel_rfl) rfl (by simp; omega) ?_
   refine g ?_
   repeat' (first | refine st_ rfl (g ?_) | refine hold_ (g ?_) | exact trivial | refine cond_d (fun h => g ?_) (fun h => g ?_) | refine cond_ (fun h => g ?_) (fun h => g ?_) | (refine vops_ifd rfl rfl (fun h e => ?_) (fun h e => ?_) <;> simp only [e] <;> clear e <;> refine g ?_) | (refine vops_if rfl rfl (fun h => ?_) (fun h => ?_) <;> simp only [h] <;> refine g ?_) | refine ix_ (by omega) (g ?_))
   refine ⟨trivial, fun b => if b = 9900 then 4200 else b, ⟨rfl, trivial⟩, ⟨?_, rfl, trivial⟩, by simp [idsOf, BA.id]⟩
   rw [hs, if_pos (by simp at h1 h2; simp [lackB, h1, h2, h]), List.map_append]
   rfl
  ·exact ⟨trivial, id, ⟨rfl, trivial⟩, ⟨hno (by simp at h; simp [lackB, h]) _ rfl, rfl, trivial⟩, by simp [idsOf, BA.id]⟩
 ·obtain rfl : xs = v.held := hS
  refine AW.freeze 9900 _ rfl trivial ?_
  simp only [go_sem, reduceIte, Nat.reduceEqDiff]
  refine g ?_
  repeat' (first | refine st_ rfl (g ?_) | refine hold_ (g ?_) | exact trivial | refine cond_d (fun h => g ?_) (fun h => g ?_) | refine cond_ (fun h => g ?_) (fun h => g ?_) | (refine vops_ifd rfl rfl (fun h e => ?_) (fun h e => ?_) <;> simp only [e] <;> clear e <;> refine g ?_) | (refine vops_if rfl rfl (fun h => ?_) (fun h => ?_) <;> simp only [h] <;> refine g ?_) | refine ix_ (by omega) (g ?_))
  subst hR
  exact Sub1.rfl_ _
end Go.Proofs.YtkphfdmelfhnoaaGreatDoor
namespace Go.Proofs.YtkphfdmelfhnoaaGreatDoor
def lackR (v : View) (it : List Span) : Nat → List Int
 | 0 => []
 | n + 1 => lackR v it n ++ if (memB it (n : Nat) && decide ((serveV v (n : Nat)).2 = 10)) = true then [(n : Int)] else []
theorem lackR_len (v : View) (it : List Span) : ∀ n, (lackR v it n).length ≤ n
 | 0 => Nat.le_refl _
 | n + 1 => by
  have := lackR_len v it n
  rw [lackR, List.length_append]
  split <;> simp <;> omega
theorem getB_err (l : List Body) (o : Int) (s : Stamp) : (getB l o s).2 = 0 ∨ (getB l o s).2 = 10 := by
 unfold getB
 split
 ·exact .inl rfl
 ·exact .inr rfl
theorem serve_err {v : View} (hF : viewFormed v = true) {n : Nat} (hn : n < 256) : decide ((serveV v (n : Nat)).2 = 10) = (match getW v.held n with
  | none => false
  | some w => !w.gone && !decide ((getB v.bodies n w.stamp).2 = 0)) := by
 rw [Bool.eq_iff_iff, decide_eq_true_iff]
 unfold serveV
 rw [if_pos ⟨hF, by simp [rightO]; omega⟩]
 cases getW v.held n with
 | none => simp
 | some w =>
  simp only
  by_cases hg : w.gone = true
  ·rw [if_pos hg, hg]
   simp
  ·rw [if_neg hg, Bool.eq_false_iff.2 hg]
   rcases getB_err v.bodies n w.stamp with h | h
   ·rw [if_pos h, h]
    simp
   ·rw [if_neg (by rw [h]; decide), h]
    simp
theorem lack_upto {v : View} (hF : viewFormed v = true) (it : List Span) : ∀ n, n ≤ 256 → lackL v it (shelfOf (fun k => getW v.held k) n) = lackR v it n
 | 0, _ => rfl
 | n + 1, hn => by
  have hsh : Shelf v.held := by
   simp only [viewFormed, partsB, Bool.and_eq_true] at hF
   exact shelf_iff.1 hF.1.1.1.1.2
  rw [shelfOf, lackR, serve_err hF (by omega), ← lack_upto hF it n (by omega)]
  cases hg : getW v.held (n : Nat) with
  | none => simp
  | some w =>
   have ho := ((getW_mem hsh).1 hg).2
   rw [Option.toList_some, lackL_snoc, ho]
   have e : lackB v it w = (memB it (n : Nat) && (!w.gone && !decide ((getB v.bodies (n : Nat) w.stamp).2 = 0))) := by
    unfold lackB spanHas
    rw [ho, decide_eq_true (by omega)]
    cases w.gone <;> cases memB it (n : Nat) <;> simp
   rw [e]
theorem lack_same {v : View} (hF : viewFormed v = true) (it : List Span) : lackL v it v.held = lackR v it 256 := by
 have hsh : Shelf v.held := by
  simp only [viewFormed, partsB, Bool.and_eq_true] at hF
  exact shelf_iff.1 hF.1.1.1.1.2
 rw [← lack_upto hF it 256 (Nat.le_refl _), shelfOf_get hsh]
end Go.Proofs.YtkphfdmelfhnoaaGreatDoor
namespace Go.Proofs.YtkphfdmelfhnoaaGreatDoor
open Go.ChangeShapes Go.WideShapes Go.ChangeAt Go.RowKit
attribute [local irreducible] AW AWY vops vopsY vop vopL vdraw callW qop binQ lenQ storeQ appendQ callQ ACalls AIter setI c64I
attribute [local go_sem] boA_eq vwA_eq storeQ_val storeQ_iv storeQ_own storeQ_agg
theorem serve_in {v : View} {o : Int} (iO : I64 o) (hI : ∀ x ∈ v.held, I64 x.stamp.count ∧ I64 x.stamp.node ∧ I64 x.object) : I64 (serveV v o).1.object ∧ I64 (serveV v o).1.stamp.count ∧ I64 (serveV v o).1.stamp.node := by
 have h0 : I64 noBody.object ∧ I64 noBody.stamp.count ∧ I64 noBody.stamp.node := ⟨rfl, rfl, rfl⟩
 unfold serveV
 split
 ·cases hg : getW v.held o with
  | none => exact h0
  | some w =>
   simp only
   split
   ·exact h0
   ·split
    ·exact ⟨iO, (get_in hg hI).1, (get_in hg hI).2.1⟩
    ·exact h0
 ·exact h0
set_option maxRecDepth 100000 in
set_option maxHeartbeats 1600000 in
theorem rvlacks_call (v : View) (it : List Span) (iR : I64 v.room) : ACalls Tryz.prog TzTab 34 [vwA v, .iv (spI it)] (.tup [.iv (.sl 1 ((lacksV v it).1.map enO)), .val (.int .i64 (lacksV v it).2)]) [] := by
 refine ACalls.ofS (n := 38) (rs := [.tmp 4, .tmp 5]) Tryz.func34 rfl (by kernel_rfl) Tryz.ntmps34 (by kernel_rfl) (by simp) (fun _ _ => TzTab.later) ?_
 intro hok V w0
 obtain ⟨R, hR⟩ : ∃ R, lacksV v it = R := ⟨_, rfl⟩
 rw [hR]
 unfold lacksV at hR
 have hI : ∀ x ∈ v.held, I64 x.stamp.count ∧ I64 x.stamp.node ∧ I64 x.object := fun x hx => by
  obtain ⟨-, o1, o2, o3, -⟩ := okR_mem (by simpa [wrI] using hok.1.2.2.1.2) (enW x) (List.mem_map_of_mem hx)
  exact ⟨o1, o2, o3⟩
 refine g ?_
 refine AW.seq ?_
 refine AW.reg rfl fun KK hKK => ?_
 refine g ?_
 repeat' (first | refine hold_ (g ?_) | (refine hKK _ (g ?_); clear hKK KK) | exact trivial)
 refine AW.freeze 300 _ rfl ⟨trivial, trivial, trivial, trivial, iR, trivial⟩ ?_
 simp only [go_sem, reduceIte, Nat.reduceEqDiff]
 refine g ?_
 repeat' (first | refine st_ rfl (g ?_) | refine hold_ (g ?_) | exact trivial | refine cond_d (fun h => g ?_) (fun h => g ?_) | refine cond_ (fun h => g ?_) (fun h => g ?_) | (refine vops_ifd rfl rfl (fun h e => ?_) (fun h e => ?_) <;> simp only [e] <;> clear e <;> refine g ?_) | (refine vops_if rfl rfl (fun h => ?_) (fun h => ?_) <;> simp only [h] <;> refine g ?_) | refine ix_ (by omega) (g ?_) | refine call_ (rview_call v iR) rfl (g ?_))
 ·rw [if_neg (by simpa using h)] at hR
  subst hR
  refine tup_sub rfl fun p hp => ?_
  simp only [List.zip_cons_cons, List.zip_nil_right, List.mem_cons, List.not_mem_nil, or_false] at hp
  rcases hp with rfl | rfl
  ·exact nil_sub 1
  ·exact Sub1.rfl_ _
 have hF : viewFormed v = true := by simpa using h
 rw [if_pos hF, lack_same hF] at hR
 refine call_ (rset_call it) rfl ?_
 refine g ?_
 repeat' (first | refine st_ rfl (g ?_) | refine hold_ (g ?_) | exact trivial | refine cond_d (fun h => g ?_) (fun h => g ?_) | refine cond_ (fun h => g ?_) (fun h => g ?_) | (refine vops_ifd rfl rfl (fun h e => ?_) (fun h e => ?_) <;> simp only [e] <;> clear e <;> refine g ?_) | (refine vops_if rfl rfl (fun h => ?_) (fun h => ?_) <;> simp only [h] <;> refine g ?_) | refine ix_ (by omega) (g ?_))
 refine store_ar (q := 2) (s := 256) (by kernel_rfl) (setI_len _) rfl (by simp [rep]) ?_
 refine g ?_
 repeat' (first | refine st_ rfl (g ?_) | refine hold_ (g ?_) | exact trivial | refine cond_d (fun h => g ?_) (fun h => g ?_) | refine cond_ (fun h => g ?_) (fun h => g ?_) | (refine vops_ifd rfl rfl (fun h e => ?_) (fun h e => ?_) <;> simp only [e] <;> clear e <;> refine g ?_) | (refine vops_if rfl rfl (fun h => ?_) (fun h => ?_) <;> simp only [h] <;> refine g ?_) | refine ix_ (by omega) (g ?_))
 refine AW.freeze 700 _ rfl trivial ?_
 simp only [go_sem, reduceIte, Nat.reduceEqDiff]
 refine AW.adopt 7 9900 3 1 rfl rfl ?_
 refine AW.loop (fun m : {m : Nat // m ≤ 256} => ⟨[(2, .ip [stI v.known, znI v.zones, wrI v.held, boI v.bodies, .val (.int .i64 v.room)]), (6, .ip (setI fun o => memB it o)), (7, .own 9900), (8, .val (.int .i64 (m.1 : Nat)))], [.row 9900 3 1 ((lackR v it m.1).map enO)]⟩) (fun m => 256 - m.1) ⟨0, Nat.zero_le _⟩ id ⟨⟨rfl, rfl, rfl, rfl, trivial⟩, ⟨rfl, trivial⟩, by simp [idsOf, BA.id]⟩ fun ⟨m, hm⟩ => ?_
 simp only
 have hll := lackR_len v it m
 repeat (refine AW.seq ?_)
 refine AW.reg rfl fun KK hKK => ?_
 refine g ?_
 repeat' (first | refine hold_ (g ?_) | (refine hKK _ (g ?_); clear hKK KK) | exact trivial)
 repeat (refine AW.seq ?_)
 refine st_ rfl ?_
 refine g ?_
 refine cond_ (fun h => ?_) (fun h => ?_)
 ·have hm' : m < 256 := by have := of_decide_eq_true h; omega
  have im : I64 (m : Nat) := I64.of (by omega) (by omega)
  have hsv := rvserve_call v (m : Nat) iR
  obtain ⟨s1, s2, s3⟩ := serve_in im hI
  have hst : lackR v it (m + 1) = lackR v it m ++ if (memB it (m : Nat) && decide ((serveV v (m : Nat)).2 = 10)) = true then [(m : Int)] else [] := rfl
  obtain ⟨S, hS⟩ : ∃ S, serveV v (m : Nat) = S := ⟨_, rfl⟩
  rw [hS] at hsv s1 s2 s3 hst
  obtain ⟨y, e⟩ := S
  simp only at hsv s1 s2 s3 hst
  refine g ?_
  repeat' (first | refine st_ rfl (g ?_) | refine hold_ (g ?_) | exact trivial | refine cond_ (fun h => g ?_) (fun h => g ?_))
  refine call_ hsv rfl ?_
  refine g ?_
  repeat' (first | refine hold_ (g ?_) | (refine hKK _ (g ?_); clear hKK KK) | exact trivial)
  refine AW.freeze 1000 _ rfl ⟨s1, s2, s3, trivial, trivial⟩ ?_
  simp only [go_sem, reduceIte, Nat.reduceEqDiff]
  refine g ?_
  repeat' (first | refine st_ rfl (g ?_) | refine hold_ (g ?_) | exact trivial | refine cond_d (fun h => g ?_) (fun h => g ?_) | refine cond_ (fun h => g ?_) (fun h => g ?_) | (refine vops_ifd rfl rfl (fun h e => ?_) (fun h e => ?_) <;> simp only [e] <;> clear e <;> refine g ?_) | (refine vops_if rfl rfl (fun h => ?_) (fun h => ?_) <;> simp only [h] <;> refine g ?_) | refine ix_ (by omega) (g ?_))
  refine ⟨by omega, by omega, ?_⟩
  rw [Nat.mul_one]
  refine g ?_
  repeat' (first | refine st_ rfl (g ?_) | refine hold_ (g ?_) | exact trivial | refine cond_d (fun h => g ?_) (fun h => g ?_) | refine cond_ (fun h => g ?_) (fun h => g ?_) | (refine vops_ifd rfl rfl (fun h e => ?_) (fun h e => ?_) <;> simp only [e] <;> clear e <;> refine g ?_) | (refine vops_if rfl rfl (fun h => ?_) (fun h => ?_) <;> simp only [h] <;> refine g ?_) | refine ix_ (by omega) (g ?_))
  refine rdI_drop (setI_at hm') ?_
  cases hb : memB it m
  ·rw [hb, Bool.false_and, if_neg (by decide), List.append_nil] at hst
   refine g ?_
   repeat' (first | refine st_ rfl (g ?_) | refine hold_ (g ?_) | exact trivial | refine cond_d (fun h => g ?_) (fun h => g ?_) | refine cond_ (fun h => g ?_) (fun h => g ?_) | (refine vops_ifd rfl rfl (fun h e => ?_) (fun h e => ?_) <;> simp only [e] <;> clear e <;> refine g ?_) | (refine vops_if rfl rfl (fun h => ?_) (fun h => ?_) <;> simp only [h] <;> refine g ?_) | refine ix_ (by omega) (g ?_))
   refine ⟨⟨m + 1, hm'⟩, id, ⟨⟨rfl, rfl, rfl, rfl, trivial⟩, ⟨?_, trivial⟩, by simp [idsOf, BA.id]⟩, by show 256 - (m + 1) < 256 - m; omega⟩
   rw [hst]
   rfl
  ·rw [hb, Bool.true_and] at hst
   refine g ?_
   repeat' (first | refine st_ rfl (g ?_) | refine hold_ (g ?_) | exact trivial | refine cond_d (fun h => g ?_) (fun h => g ?_) | refine cond_ (fun h => g ?_) (fun h => g ?_) | (refine vops_ifd rfl rfl (fun h e => ?_) (fun h e => ?_) <;> simp only [e] <;> clear e <;> refine g ?_) | (refine vops_if rfl rfl (fun h => ?_) (fun h => ?_) <;> simp only [h] <;> refine g ?_) | refine ix_ (by omega) (g ?_))
   ·rw [if_pos (by simpa using h)] at hst
    refine bs1 (by omega) rfl rfl rfl ⟨im, trivial⟩ ?_
    refine g ?_
    repeat' (first | refine st_ rfl (g ?_) | refine hold_ (g ?_) | exact trivial | refine cond_d (fun h => g ?_) (fun h => g ?_) | refine cond_ (fun h => g ?_) (fun h => g ?_) | (refine vops_ifd rfl rfl (fun h e => ?_) (fun h e => ?_) <;> simp only [e] <;> clear e <;> refine g ?_) | (refine vops_if rfl rfl (fun h => ?_) (fun h => ?_) <;> simp only [h] <;> refine g ?_) | refine ix_ (by omega) (g ?_))
    refine append_own rfl (by kernel_rfl) (by omega) (by kernel_rfl) rfl (by simp; omega) ?_
    refine g ?_
    repeat' (first | refine st_ rfl (g ?_) | refine hold_ (g ?_) | exact trivial | refine cond_d (fun h => g ?_) (fun h => g ?_) | refine cond_ (fun h => g ?_) (fun h => g ?_) | (refine vops_ifd rfl rfl (fun h e => ?_) (fun h e => ?_) <;> simp only [e] <;> clear e <;> refine g ?_) | (refine vops_if rfl rfl (fun h => ?_) (fun h => ?_) <;> simp only [h] <;> refine g ?_) | refine ix_ (by omega) (g ?_))
    refine ⟨⟨m + 1, hm'⟩, fun b => if b = 9900 then 3700 else b, ⟨⟨rfl, rfl, rfl, rfl, trivial⟩, ⟨?_, trivial⟩, by simp [idsOf, BA.id]⟩, by show 256 - (m + 1) < 256 - m; omega⟩
    rw [hst, List.map_append]
    rfl
   ·rw [if_neg (by simpa using h), List.append_nil] at hst
    refine ⟨⟨m + 1, hm'⟩, id, ⟨⟨rfl, rfl, rfl, rfl, trivial⟩, ⟨?_, trivial⟩, by simp [idsOf, BA.id]⟩, by show 256 - (m + 1) < 256 - m; omega⟩
    rw [hst]
    rfl
 ·obtain rfl : m = 256 := by have := of_decide_eq_false h; omega
  refine AW.freeze 9900 _ rfl trivial ?_
  simp only [go_sem, reduceIte, Nat.reduceEqDiff]
  refine g ?_
  repeat' (first | refine st_ rfl (g ?_) | refine hold_ (g ?_) | exact trivial | refine cond_d (fun h => g ?_) (fun h => g ?_) | refine cond_ (fun h => g ?_) (fun h => g ?_) | (refine vops_ifd rfl rfl (fun h e => ?_) (fun h e => ?_) <;> simp only [e] <;> clear e <;> refine g ?_) | (refine vops_if rfl rfl (fun h => ?_) (fun h => ?_) <;> simp only [h] <;> refine g ?_) | refine ix_ (by omega) (g ?_))
  subst hR
  exact Sub1.rfl_ _
end Go.Proofs.YtkphfdmelfhnoaaGreatDoor
namespace Go.Proofs.YtkphfdmelfhnoaaGreatDoor
open Go.ChangeShapes Go.WideShapes Go.ChangeAt Go.RowKit
theorem frz_heap {w : World} {g n : Nat} {e : TypeId} {C : Array Value} (hB : Blk w g e C) : (w.freeze ⟨g, n, none⟩ 1).heap.size = w.heap.size ∧ (∀ k, k ≠ g → (w.freeze ⟨g, n, none⟩ 1).heap[k]? = w.heap[k]?) ∧ (∀ p : Addr, (w.freeze ⟨g, n, none⟩ 1).cell? p = w.cell? p) := by
 have hsz : (w.freeze ⟨g, n, none⟩ 1).heap.size = w.heap.size := by simp [World.freeze]
 have hfar : ∀ k, k ≠ g → (w.freeze ⟨g, n, none⟩ 1).heap[k]? = w.heap[k]? := fun k hk => by
  simp [World.freeze, Array.getElem?_modify, Ne.symm hk]
 refine ⟨hsz, hfar, fun p => ?_⟩
 by_cases hp : p.block = g
 ·have h1 : (w.freeze ⟨g, n, none⟩ 1).heap[g]? = some (.cells C e (n, n + 1)) := by
   have := hB
   unfold Blk at this
   simp [World.freeze, Array.getElem?_modify, this]
  have h2 : w.heap[g]? = some (.cells C e (0, 0)) := hB
  unfold World.cell?
  rw [hp, h1, h2]
 ·exact World.cell?_of_block (hfar _ hp)
theorem frz_below {w0 w : World} {g n : Nat} {e : TypeId} {C : Array Value} (hB : Blk w g e C) (h : Below w0.heap.size w0 w) (hg : w0.heap.size ≤ g) : Below w0.heap.size w0 (w.freeze ⟨g, n, none⟩ 1) := by
 obtain ⟨h1, h2, _⟩ := frz_heap (n := n) hB
 refine ⟨?_, ?_, ?_, by rw [h1]; exact h.size, fun k hk => by rw [h2 k (by omega)]; exact h.block k hk⟩
 ·simpa [World.freeze] using h.os
 ·simpa [World.freeze] using h.tape
 ·simpa [World.freeze] using h.output
theorem run_mark {P : Program} {w : World} {t e e' : TypeId} {C : Array Value} {g n c : Nat} (ht : P.underlying t = some (.slice e)) (he : P.underlying e = some (.int .u8)) (hB : Blk w g e' C) :
  (convert t t (.slice (some ⟨g, 0, none⟩) n c)).run P w = .ok (.slice (some ⟨g, 0, none⟩) n c) (w.freeze ⟨g, C.size, none⟩ 1) := by
 have hsh : w.shape? g = some (e', C.size) := by
  unfold World.shape?
  rw [show w.heap[g]? = some (.cells C e' (0, 0)) from hB]
 simp [convert, run_underlying ht, run_underlying he, markStringish, hsh]
theorem list_step1 {P : Program} {ro : Option Nat} {ops : Array Oper} {o : Oper} {rest : List Oper} {Q : Exit → Act → World → Prop} {a : Act} {w w' : World} {v : Value} (hg : o.guard = none) (hd : ∀ c, o.op ≠ .defer c) (hx : (execOp a.eval o).run P w = .ok (.value v) w') (h : wpListIn (FW ro) 0 P ops Q rest (a.put o.dst v) w') : wpListIn (FW ro) 0 P ops Q (o :: rest) a w := by
 refine wpListIn_step fun K' hK' => ?_
 rw [if_pos (by unfold Region.wanted; rw [hg])]
 refine wp_wpIn hd ?_
 unfold Oper.wp
 rw [hx, Oper.upon_value]
 exact hK' _ _ h
section
variable {P : Program} {G : World → Prop} {V w0 : World} {n : Fm} {ro : Option Nat}
theorem vops_run2 {ops : List Oper} {Q : Exit → Act → World → Prop} {rest2 : List Oper} (hG : ∀ w', Below w0.heap.size w0 w' → G w') : ∀ (l : List Oper) (σ : AState) (K : AState → Prop) (E : Env) (a : Act) (w : World), dstsOk n.nd l = true → vops P G ops l σ K → St V w0 n E σ a w →
  (∀ (E' : Env) (σ' : AState) (a' : Act) (w' : World), K σ' → St V w0 n E' σ' a' w' → wpListIn (FW ro) 0 P ops.toArray Q rest2 a' w') → wpListIn (FW ro) 0 P ops.toArray Q (l ++ rest2) a w := by
 intro l
 induction l with
 | nil => exact fun σ K E a w _ h hs hQ => hQ E σ a w h hs
 | cons o rest ih =>
  intro σ K E a w hd h hs hQ
  simp only [dstsOk, Bool.and_eq_true] at hd
  have hdst : ∀ d, o.dst = some d → d < n.nd.n ∧ d ∉ n.nd.fx := fun d e => by
   have := hd.1
   rw [e] at this
   simp only [Bool.and_eq_true, Bool.not_eq_true'] at this
   exact ⟨blt_iff.1 this.1, memN_iff this.2⟩
  refine wpListIn_step fun K' hK' => ?_
  rcases guard_run hs h with ⟨hw, hr⟩ | ⟨hw, hr⟩
  ·rw [if_pos hw]
   obtain ⟨r, bk', hK, hu⟩ := vop_run hr
   refine hu V w0 n E a w hs hG K' Q (fun v w' E' hs' hv => hK' _ _ (ih ⟨putF o.dst r σ.fr, bk'⟩ K E' (a.put o.dst v) w' hd.2 hK (hs'.put hdst hv) hQ)) ro
  ·rw [if_neg (by rw [hw]; simp)]
   refine ⟨fun _ _ => trivial, hK' _ _ (ih ⟨putF o.dst (.val undef) σ.fr, σ.bk⟩ K E (a.put o.dst undef) w hd.2 hr (hs.put hdst .val) hQ)⟩
end
theorem dstsOk_append {n : Nd} : ∀ (l m : List Oper), dstsOk n (l ++ m) = (dstsOk n l && dstsOk n m)
 | [], m => rfl
 | o :: l, m => by rw [List.cons_append, dstsOk, dstsOk, dstsOk_append l m, Bool.and_assoc]
section
variable {P : Program} {G : World → Prop} {σ : AState} {V w0 : World} {n : Nd} {ro : Option Nat} {K : Exit → AState → Prop}
theorem AW.markR {id : Nat} {l1 l2 : List Oper} {t e : TypeId} {d s : Nat} {y : TypeId} {p : String} {ar : Array Edge} {L : List Oper} (hL : L = l1 ++ ⟨some d, .convert t t (.tmp s), y, p, ar, none⟩ :: l2)
  (hd : dstsOk n L = true) (ht : P.underlying t = some (.slice e)) (he : P.underlying e = some (.int .u8))
  (h : vops P G L l1 σ fun σ1 => ∃ b e' l, look σ1.fr s = .own b ∧ findB b σ1.bk = some (.row b e' 1 l) ∧ l ≠ [] ∧ vops P G L l2 ⟨putF (some d) (.iv (.sl 1 l)) σ1.fr, replB b [] σ1.bk⟩ fun σ' => K .normal σ') :
  AW P G ro V w0 n (.region id L.toArray false) σ K := fun hG m E a w hn hs => by
 rw [hL, dstsOk_append, Bool.and_eq_true] at hd
 obtain ⟨hd1, hd2⟩ := hd
 simp only [dstsOk, Bool.and_eq_true] at hd2
 refine wpIn_region_lit ?_
 suffices H : wpListIn (FW ro) 0 P L.toArray (Arr V w0 m K) (l1 ++ ⟨some d, .convert t t (.tmp s), y, p, ar, none⟩ :: l2) a w by rwa [← hL] at H
 refine vops_run2 hG l1 σ _ E a w (by rw [hn]; exact hd1) h hs fun E1 σ1 a1 w1 ⟨b, e', l, q1, q2, q3, hK⟩ hs1 => ?_
 have s1 := hs1.slots s
 rw [q1] at s1
 obtain ⟨pre, post, e1, e2, e3⟩ := findB_split q2
 obtain ⟨fr, bk⟩ := σ1
 simp only at e1 e3 hK hs1 q1 q2 s1
 have e4 := e3 []
 subst e1
 rw [e4] at hK
 obtain ⟨hO, hB⟩ := hs1.holds (.row b e' 1 l) (by simp)
 obtain ⟨v, hv⟩ : ∃ v, a1.tmps.getD s undef = v := ⟨_, rfl⟩
 rw [hv] at s1
 have hfz := St.frz_rep hs1 (x := .row b e' 1 l) trivial s1
 rw [frzA_own_row, if_pos rfl] at hfz
 have hev : v = E1.row b := by
  cases s1 with
  | own h => exact h.symm
 rcases hO.forms with ⟨_, h0⟩ | ⟨g, c, hvv, hg1, hg2⟩
 ·exact absurd h0 q3
 rw [hvv] at hO
 obtain ⟨cur, _, _, hBk, _⟩ := hO.open_
 obtain ⟨f1, f2, f3⟩ := frz_heap (n := cur.size) hBk
 have hgm : owns E1 [.row b e' 1 l] = [g] := by simp [owns, BA.owned, hvv, Value.ownBlock]
 have hsw := St.swap (E' := E1) (nb := []) (mid := [.row b e' 1 l]) (lo := 0) (hi := 0) (w' := w1.freeze ⟨g, cur.size, none⟩ 1) hs1 (fun k hk _ => f2 k (fun h => hk (by rw [hgm, h]; simp))) (by rw [f1]; exact Nat.le_refl _) (frz_below hBk hs1.low hg1) (Env.same_refl 0 0 E1) (offF_none _) (offB_none _) (by simp [owns]) (by simp [owns]) (by simp)
 refine list_step1 rfl (fun _ h => by cases h) (v := v) (w' := w1.freeze ⟨g, cur.size, none⟩ 1) ?_ ?_
 ·have : a1.eval (.tmp s) = v := hv
  simp only [execOp, this]
  refine run_v ?_
  rw [hev, hvv]
  exact run_mark ht he hBk
 ·refine vops_run hG l2 _ _ E1 _ _ (by rw [hn]; exact hd2.2) hK (hsw.put (fun d' hd' => ?_) (hfz.mono (vis_ext (by rw [f1]; exact Nat.le_refl _) fun p u _ _ h3 h4 => ⟨h3, by rw [f3]; exact h4⟩))) fun E' σ' a' w' hK hs' => ⟨m, E', σ', Fm.le.refl m, hK, hs'⟩
  cases hd'
  have := hd2.1
  simp only [Bool.and_eq_true, Bool.not_eq_true'] at this
  rw [hn]
  exact ⟨blt_iff.1 this.1, memN_iff this.2⟩
theorem AW.mark {id : Nat} {l1 l2 : List Oper} {t e : TypeId} {d s : Nat} {y : TypeId} {p : String} {ar : Array Edge} {L : List Oper} (hL : L = l1 ++ ⟨some d, .convert t t (.tmp s), y, p, ar, none⟩ :: l2)
  (hd : dstsOk n L = true) (ht : P.underlying t = some (.slice e)) (he : P.underlying e = some (.int .u8))
  (h : ∀ KK : AState → Prop, (∀ σ1 b e' l, look σ1.fr s = .own b → findB b σ1.bk = some (.row b e' 1 l) → l ≠ [] → (∀ K2 : AState → Prop, (∀ σ', K .normal σ' → K2 σ') → vops P G L l2 ⟨putF (some d) (.iv (.sl 1 l)) σ1.fr, replB b [] σ1.bk⟩ K2) → KK σ1) → vops P G L l1 σ KK) :
  AW P G ro V w0 n (.region id L.toArray false) σ K := AW.markR hL hd ht he (h _ fun σ1 b e' l h1 h2 h3 h4 => ⟨b, e', l, h1, h2, h3, h4 _ fun _ h => h⟩)
end
attribute [local irreducible] AW AWY vops vopsY vop vopL vdraw callW qop binQ lenQ storeQ appendQ callQ ACalls AIter
attribute [local go_sem] byI_eq enW_eq wrI_eq wA_eq enB_eq boI_eq enZ_eq znI_eq vwA_eq noteA_eq storeQ_bp storeQ_rp
def aliveV : View := ⟨[⟨1, 0⟩], [], [⟨⟨1, 0⟩, 3, false⟩], [⟨3, ⟨1, 0⟩, [104, 105]⟩], 9⟩
def aliveN : Note := ⟨[], [⟨1, 0⟩], [], [⟨⟨1, 0⟩, 3, false⟩]⟩
theorem alive13a : newS 9 = (⟨[], [], [], [], 9⟩, 0) := by kernel_rfl
theorem alive13b : writeV ⟨[], [], [], [], 9⟩ 0 3 0 [104, 105] false = ⟨aliveV, aliveN, 0⟩ := by kernel_rfl
theorem alive13c : readV aliveV 3 = ([104, 105], ⟨⟨1, 0⟩, 3, false⟩, 0) := by kernel_rfl
set_option maxRecDepth 100000 in
set_option maxHeartbeats 3200000 in
theorem alive13_call : ACalls Tryz.prog TzTab 15 [] (.val (.bool true)) [] := by
 refine ACalls.of (n := 53) (rs := [.tmp 0]) Tryz.func15 rfl (by kernel_rfl) Tryz.ntmps15 (by kernel_rfl) (by simp) (fun _ _ => TzTab.later) ?_
 intro hok V w0
 have hn := new_call 9 rfl
 rw [alive13a] at hn
 have hw := vwrite_call ⟨[], [], [], [], 9⟩ 0 3 0 [104, 105] false rfl rfl rfl rfl
 rw [alive13b] at hw
 have hr := vread_call aliveV 3 rfl rfl
 rw [alive13c] at hr
 simp only [aliveV, aliveN] at hw hr
 refine g ?_
 refine AW.seq ?_
 refine AW.reg rfl fun KK hKK => ?_
 refine g ?_
 repeat' (first | refine hold_ (g ?_) | (refine hKK _ (g ?_); clear hKK KK) | exact trivial)
 refine AW.seq ?_
 refine AW.reg rfl fun KK hKK => ?_
 refine g ?_
 repeat' (first | refine hold_ (g ?_) | (refine hKK _ (g ?_); clear hKK KK) | exact trivial)
 refine call_ hn rfl (g ?_)
 refine g ?_
 repeat' (first | refine hold_ (g ?_) | (refine hKK _ (g ?_); clear hKK KK) | exact trivial)
 refine AW.seq ?_
 refine AW.mark (l1 := [_, _]) rfl rfl Tryz.underlying45 Tryz.underlying5 fun KK hKK => ?_
 refine g ?_
 repeat' (first | refine hold_ (g ?_) | (refine hKK _ (g ?_); clear hKK KK) | exact trivial)
 refine bs2 (by omega) rfl rfl rfl ⟨rfl, trivial⟩ rfl rfl rfl ⟨rfl, trivial⟩ ?_
 refine g ?_
 repeat' (first | refine hold_ (g ?_) | (refine hKK _ (g ?_); clear hKK KK) | exact trivial)
 refine hKK _ 1500 _ _ rfl rfl (by simp) ?_
 clear hKK KK
 intro KK hKK
 refine g ?_
 repeat' (first | refine hold_ (g ?_) | (refine hKK _ (g ?_); clear hKK KK) | exact trivial)
 refine call_ hw rfl (g ?_)
 refine g ?_
 repeat' (first | refine hold_ (g ?_) | (refine hKK _ (g ?_); clear hKK KK) | exact trivial)
 refine g ?_
 repeat' (first | refine st_ rfl (g ?_) | refine hold_ (g ?_) | exact trivial | refine cond_d (fun h => g ?_) (fun h => g ?_) | refine cond_ (fun h => g ?_) (fun h => g ?_) | (refine vops_ifd rfl rfl (fun h e => ?_) (fun h e => ?_) <;> simp only [e] <;> clear e <;> refine g ?_) | (refine vops_if rfl rfl (fun h => ?_) (fun h => ?_) <;> simp only [h] <;> refine g ?_) | refine ix_ (by omega) (g ?_) | refine call_ (hr) rfl (g ?_))
 simp only [decide_true]
 refine ⟨[104, 105], rfl, ?_⟩
 refine g ?_
 repeat' (first | refine st_ rfl (g ?_) | refine hold_ (g ?_) | exact trivial | refine cond_d (fun h => g ?_) (fun h => g ?_) | refine cond_ (fun h => g ?_) (fun h => g ?_) | (refine vops_ifd rfl rfl (fun h e => ?_) (fun h e => ?_) <;> simp only [e] <;> clear e <;> refine g ?_) | (refine vops_if rfl rfl (fun h => ?_) (fun h => ?_) <;> simp only [h] <;> refine g ?_) | refine ix_ (by omega) (g ?_))
 have hs : strOf [104, 105] = ⟨#[104, 105]⟩ := by kernel_rfl
 rw [hs]
 refine str_eq (g ?_)
 refine ⟨_, fun u => stamp_eq _ _ _ _ _ _ u, ?_⟩
 refine g ?_
 repeat' (first | refine st_ rfl (g ?_) | refine hold_ (g ?_) | exact trivial | refine cond_d (fun h => g ?_) (fun h => g ?_) | refine cond_ (fun h => g ?_) (fun h => g ?_) | (refine vops_ifd rfl rfl (fun h e => ?_) (fun h e => ?_) <;> simp only [e] <;> clear e <;> refine g ?_) | (refine vops_if rfl rfl (fun h => ?_) (fun h => ?_) <;> simp only [h] <;> refine g ?_) | refine ix_ (by omega) (g ?_))
 exact decide_eq_true trivial
end Go.Proofs.YtkphfdmelfhnoaaGreatDoor
namespace Go.Proofs.YtkphfdmelfhnoaaGreatDoor
open Go.ChangeShapes Go.WideShapes Go.ChangeAt Go.RowKit
attribute [local irreducible] AW AWY vops vopsY vop vopL vdraw callW qop binQ lenQ storeQ appendQ callQ ACalls AIter
theorem enO_eq (o : Int) : enO o = [.val (.int .i64 o)] := rfl
attribute [local go_sem] enO_eq boA_eq vwA_eq storeQ_bp storeQ_rp
set_option maxRecDepth 100000 in
set_option maxHeartbeats 3200000 in
theorem lawServes (v : View) (o : Int) (it : List Span) (iR : I64 v.room) (iO : I64 o) : ACalls Tryz.prog TzTab 5 [vwA v, .val (.int .i64 o), .iv (spI it)] (.val (.bool true)) [] := by
 refine ACalls.of (n := 78) (rs := [.tmp 6]) Tryz.func5 rfl (by kernel_rfl) Tryz.ntmps5 (by kernel_rfl) (by simp) (fun _ _ => TzTab.later) ?_
 intro hok V w0
 have hI : ∀ x ∈ v.held, I64 x.stamp.count ∧ I64 x.stamp.node ∧ I64 x.object := fun x hx => by
  obtain ⟨-, o1, o2, o3, -⟩ := okR_mem (by simpa [wrI] using hok.1.2.2.1.2) (enW x) (List.mem_map_of_mem hx)
  exact ⟨o1, o2, o3⟩
 have hs := vserve_call v o iR iO
 have hrs := rvserve_call v o iR
 obtain ⟨s1, s2, s3⟩ := serve_in iO hI
 have hl := vlacks_call v it iR
 have hrl := rvlacks_call v it iR
 generalize serveV v o = S at hs hrs s1 s2 s3
 obtain ⟨y, e⟩ := S
 have hlen : (lacksV v it).1.length ≤ 256 := by
  unfold lacksV
  split
  ·rename_i hF
   rw [lack_same hF]
   exact lackR_len v it 256
  ·simp
 generalize lacksV v it = L at hl hrl hlen
 obtain ⟨l, q⟩ := L
 simp only at hs hrs s1 s2 s3 hl hrl hlen
 have hsame := rbosame_call y y
 rw [decide_eq_true rfl] at hsame
 refine g ?_
 refine AW.seq ?_
 refine AW.reg rfl fun KK hKK => ?_
 refine g ?_
 repeat' (first | refine hold_ (g ?_) | (refine hKK _ (g ?_); clear hKK KK) | exact trivial)
 refine AW.freeze 400 _ rfl ⟨trivial, trivial, trivial, trivial, iR, trivial⟩ ?_
 simp only [go_sem, reduceIte, Nat.reduceEqDiff]
 refine g ?_
 repeat' (first | refine st_ rfl (g ?_) | refine hold_ (g ?_) | exact trivial | refine cond_d (fun h => g ?_) (fun h => g ?_) | refine cond_ (fun h => g ?_) (fun h => g ?_) | (refine hKD _ _ ⟨rfl, g ?_⟩; clear hKD KD) | ((first | refine vops_ifd rfl rfl (fun h e => ?_) (fun h e => ?_) | refine vdraw_ifd rfl rfl (fun h e => ?_) (fun h e => ?_)) <;> simp only [e] <;> clear e <;> refine g ?_) | ((first | refine vops_if rfl rfl (fun h => ?_) (fun h => ?_) | refine vdraw_if rfl rfl (fun h => ?_) (fun h => ?_)) <;> simp only [h] <;> refine g ?_) | refine ix_ (by omega) (g ?_) | refine call_ (alive13_call) rfl (g ?_) | refine call_ (hs) rfl (g ?_) | refine call_ (hrs) rfl (g ?_) | refine call_ (hl) rfl (g ?_) | refine call_ (hrl) rfl (g ?_) | refine call_ (hsame) rfl (g ?_))
 refine AW.freeze 800 _ rfl ⟨s1, s2, s3, trivial, trivial⟩ ?_
 simp only [go_sem, reduceIte, Nat.reduceEqDiff]
 refine AW.freeze 1000 _ rfl ⟨s1, s2, s3, trivial, trivial⟩ ?_
 simp only [go_sem, reduceIte, Nat.reduceEqDiff]
 refine AW.loop (fun i : {i : Nat // i ≤ l.length} => ⟨[(11, .iv (.sl 1 (l.map enO))), (13, .iv (.sl 1 (l.map enO))), (15, .val (.int .i64 (i.1 : Nat)))], []⟩) (fun i => l.length - i.1) ⟨0, Nat.zero_le _⟩ id ⟨⟨rfl, rfl, rfl, trivial⟩, trivial, List.nodup_nil⟩ fun ⟨i, hi⟩ => ?_
 refine g ?_
 repeat' (first | refine st_ rfl (g ?_) | refine hold_ (g ?_) | exact trivial | refine cond_d (fun h => g ?_) (fun h => g ?_) | refine cond_ (fun h => g ?_) (fun h => g ?_) | (refine hKD _ _ ⟨rfl, g ?_⟩; clear hKD KD) | ((first | refine vops_ifd rfl rfl (fun h e => ?_) (fun h e => ?_) | refine vdraw_ifd rfl rfl (fun h e => ?_) (fun h e => ?_)) <;> simp only [e] <;> clear e <;> refine g ?_) | ((first | refine vops_if rfl rfl (fun h => ?_) (fun h => ?_) | refine vdraw_if rfl rfl (fun h => ?_) (fun h => ?_)) <;> simp only [h] <;> refine g ?_) | refine ix_ (by omega) (g ?_))
 have hlt : i < l.length := by omega
 have hg := get_map (f := enO) (List.getElem?_eq_getElem hlt)
 refine AW.drawn (ds := [69, 70, 71, 72, 73, 74, 75, 76, 77]) (fin := []) (bs := [0, 0, 0, 0, 0, 0, 0, 0, 0]) [⟨[], [], [], [], 0⟩, ⟨[], [], [], [], 0⟩, ⟨[(69, 0), (70, 1)], [], [], [], 0⟩, ⟨[(71, 2)], [], [], [], 0⟩, ⟨[], [], [], [], 0⟩, ⟨[], [], [], [], 0⟩, ⟨[(73, 4), (74, 5)], [], [], [], 0⟩, ⟨[(75, 6)], [], [], [], 0⟩, ⟨[(72, 3), (76, 7)], [], [], [], 0⟩] (by kernel_rfl) rfl (by kernel_rfl) rfl rfl rfl fun KD hKD => ?_
 refine g ?_
 repeat' (first | refine st_ rfl (g ?_) | refine hold_ (g ?_) | exact trivial | refine cond_d (fun h => g ?_) (fun h => g ?_) | refine cond_ (fun h => g ?_) (fun h => g ?_) | (refine hKD _ _ ⟨rfl, g ?_⟩; clear hKD KD) | ((first | refine vops_ifd rfl rfl (fun h e => ?_) (fun h e => ?_) | refine vdraw_ifd rfl rfl (fun h e => ?_) (fun h e => ?_)) <;> simp only [e] <;> clear e <;> refine g ?_) | ((first | refine vops_if rfl rfl (fun h => ?_) (fun h => ?_) | refine vdraw_if rfl rfl (fun h => ?_) (fun h => ?_)) <;> simp only [h] <;> refine g ?_) | refine ix_ (by omega) (g ?_))
 exact ⟨⟨i + 1, hlt⟩, id, ⟨⟨rfl, rfl, rfl, trivial⟩, trivial, List.nodup_nil⟩, by show l.length - (i + 1) < l.length - i; omega⟩
end Go.Proofs.YtkphfdmelfhnoaaGreatDoor
namespace Go.Proofs.YtkphfdmelfhnoaaGreatDoor
open Go.ChangeShapes Go.WideShapes Go.ChangeAt Go.RowKit
def laying (cs : Array Value) : Obj → Obj
 | .cells _ t frozen => .cells cs t frozen
 | o => o
def tzCells : Array Value := #[.int .u8 0, .int .u8 1, .int .u8 56, .int .u8 2, .int .u8 57, .int .u8 49, .int .u8 28, .int .u8 3, .int .u8 61, .int .u8 58, .int .u8 42, .int .u8 50, .int .u8 38, .int .u8 29, .int .u8 17, .int .u8 4, .int .u8 62, .int .u8 47, .int .u8 59, .int .u8 36, .int .u8 45, .int .u8 43, .int .u8 51, .int .u8 22, .int .u8 53, .int .u8 39, .int .u8 33, .int .u8 30, .int .u8 24, .int .u8 18, .int .u8 12, .int .u8 5, .int .u8 63, .int .u8 55, .int .u8 48, .int .u8 27, .int .u8 60, .int .u8 41, .int .u8 37, .int .u8 16, .int .u8 46, .int .u8 35, .int .u8 44, .int .u8 21, .int .u8 52, .int .u8 32, .int .u8 23, .int .u8 11, .int .u8 54, .int .u8 26, .int .u8 40, .int .u8 15, .int .u8 34, .int .u8 20, .int .u8 31, .int .u8 10, .int .u8 25, .int .u8 14, .int .u8 19, .int .u8 9, .int .u8 13, .int .u8 8, .int .u8 7, .int .u8 6]
noncomputable def tzWorld (os : Os) : World :=
 { World.holding Tryz.prog os ⟨#[], #[], []⟩ with heap := (World.holding Tryz.prog os ⟨#[], #[], []⟩).heap.modify 0 (laying tzCells) }
theorem tzName : Tryz.prog.globalNamed "math/bits.deBruijn64tab" = some 0 := by kernel_rfl
theorem tzType : (Tryz.prog.globals[0]?).map (·.type) = some 280 := by kernel_rfl
theorem tz_of_laid {laid : List (String × DataW Unit)} {W : World} (e : (laid.filter fun x => x.1 == "math/bits.deBruijn64tab") = [("math/bits.deBruijn64tab", Lib.tabData .u8 (Lib.deBruijn64tab.map Int.ofNat))]) (h : laidMetH Tryz.prog laid W) : TzTab W := by
 have h1 := h.filter (fun x => x.1 == "math/bits.deBruijn64tab")
 rw [e] at h1
 have h2 := Lib.tabIs_of_head (rest := []) tzName tzType Tryz.underlying280 Tryz.underlying5 (by kernel_rfl) (by kernel_rfl) h1
 intro j hj
 have h3 := h2.cell tzName j (by simpa using hj)
 rw [h3]
 simp [List.getD, hj]
theorem small_part {H : Type} {l : List (DataW H)} (h : Rows.uptoSmall H l = true) : ∀ d, d ∈ l → Rows.uptoBulk d ≤ 1048576 := by
 have h2 : Rows.uptoBulkAll l ≤ 1048576 := of_decide_eq_true h
 intro d hd
 have := bulk_part hd
 omega
namespace cViewServes
set_option maxRecDepth 100000 in
theorem contract (H : Type) (enc : TypeId × Value → H) (W : World) (base : Nat) (args : Array Value) (ds gs : List (DataW H)) (before : List MemPlace)
    (hval : ∀ (j : Nat) t v, Tryz.f5.params[j]? = some t → args[j]? = some v → Value.okWide Tryz.prog W .any base t v)
    (hW : DataW.Whole enc Tryz.prog Tryz.f5.params.toList Rows.viewServesSpec.vars false W args.toList ds gs before) (hk : Rows.uptoSmall H (ds ++ gs) = true) (hL : laidMetH Tryz.prog Rows.viewServesRow.laid W) :
    Calls Tryz.prog 5 args W fun e W' => ∃ v, e = .returned v ∧ Rows.viewServesSpec.post enc Tryz.prog Tryz.f5 false true false false W args v W' := by
  have hW' := hW
  obtain ⟨p, q, hA0, hV, rfl, hfz, hnd⟩ := hW
  have hA : DataW.TrodAll enc Tryz.prog W 0 (fun _ => true) true Tryz.f5.params.toList args.toList ds p := hA0
  rw [Tryz.params5] at hA hval
  obtain ⟨v0, vs0, d0, ds0, p0, q0, hargs, rfl, rfl, h0, r0⟩ := trodAll_cons hA
  obtain ⟨v1, vs1, d1, ds1, p1, q1, rfl, rfl, rfl, h1, r1⟩ := trodAll_cons r0
  obtain ⟨v2, vs2, d2, ds2, p2, q2, rfl, rfl, rfl, h2, r2⟩ := trodAll_cons r1
  obtain ⟨rfl, rfl, rfl⟩ := trodAll_nil r2
  obtain rfl : args = #[v0, v1, v2] := by cases args; simp_all
  obtain ⟨rfl, rfl⟩ := trodVars_none hV
  have hpart := small_part hk
  obtain ⟨cs0, rfl, hs0⟩ := okWide_struct Tryz.underlying27 (hval 0 _ v0 rfl rfl)
  obtain ⟨n0, hn0⟩ := h0
  obtain ⟨_, x0, va, vb, vc, vd, e0, hK, hZ, hH, hB, iR⟩ := opens_view (w := W) H enc n0 _ _ ⟨hn0, hpart d0 (by simp)⟩
  obtain rfl : cs0 = #[va, vb, vc, vd, .int .i64 x0.room] := Array.toList_inj.1 (by simpa only [Value.cells] using e0)
  obtain ⟨a1, rfl, rfl, rfl, w1⟩ := open_int Tryz.underlying3 (hval 1 _ v1 rfl rfl) h1
  obtain ⟨_, _, _, rfl⟩ := okWide_slice Tryz.underlying28 (hval 2 _ v2 rfl rfl)
  obtain ⟨n2, hn2⟩ := h2
  obtain ⟨_, l2, u2, hv2, hl2⟩ := opens_spans (w := W) H enc n2 _ _ ⟨hn2, hpart d2 (by simp)⟩
  simp only [Value.cells, List.cons.injEq, and_true] at hv2
  subst hv2
  have hT : TzTab W := tz_of_laid (by kernel_rfl) hL
  clear hA0
  refine ((lawServes x0 a1 l2 iR w1).law hT (RepAs.cons (view_rep hK hZ hH hB) (RepAs.cons .val (RepAs.cons (.iv (spans_rep hl2 (Nat.le_refl _))) RepAs.nil)))).mono fun e W' ⟨he, hb⟩ => ?_
  subst he
  exact ⟨_, rfl, law_post laidOut (by kernel_rfl) (by kernel_rfl) Tryz.underlying4 rfl rfl rfl rfl hW' hb⟩
theorem laid_met (os : Os) : laidMet Tryz.prog Rows.viewServesRow.laid ((tzWorld os).forCall (fun _ _ => 0) ⟨#[], #[.agg #[.slice none 0 0, .slice none 0 0, .slice none 0 0, .slice none 0 0, .int .i64 0], .int .i64 0, .slice none 0 0], []⟩).memory :=
  laidMet_of_run' 8 (by kernel_rfl) (by kernel_rfl)
theorem reads (os : Os) {H : Type} (enc : TypeId × Value → H) : ∃ places, DataW.whole enc Tryz.prog ((tzWorld os).forCall (fun _ _ => 0) ⟨#[], #[.agg #[.slice none 0 0, .slice none 0 0, .slice none 0 0, .slice none 0 0, .int .i64 0], .int .i64 0, .slice none 0 0], []⟩).memory Tryz.f5.params.toList Rows.viewServesSpec.vars false (#[.agg #[.slice none 0 0, .slice none 0 0, .slice none 0 0, .slice none 0 0, .int .i64 0], .int .i64 0, .slice none 0 0] : Array Value).toList 8 = some ([.agg [.nil, .nil, .nil, .nil, .lit (.int .i64 0)], .lit (.int .i64 0), .nil], [], places) :=
  ⟨[], by kernel_rfl⟩
set_option maxRecDepth 100000 in
theorem lifted (os : Os) (started : os.Started) (H : Type) (enc : TypeId × Value → H) (F : Stop.Interp) :
    ReturnsInHanded {} Tryz.checked os 5 .any ((Rows.OpenSpec.upto Rows.viewServesSpec).preRow enc Tryz.prog Tryz.f5 Rows.viewServesUptoRow.domain false Rows.viewServesUptoRow.laid) (((Rows.OpenSpec.upto Rows.viewServesSpec).at F).post enc Tryz.prog Tryz.f5 false true false false) := by
  obtain ⟨places, hx⟩ := reads os enc
  refine returnsInHanded_of_row (C := Tryz.checked) (s := Rows.OpenSpec.upto Rows.viewServesSpec) own started (by kernel_rfl) Tryz.func5
    (witness_row_at (enc := enc) (C := Tryz.checked) false (tzWorld os) #[.agg #[.slice none 0 0, .slice none 0 0, .slice none 0 0, .slice none 0 0, .int .i64 0], .int .i64 0, .slice none 0 0] rfl (by kernel_rfl) (by kernel_rfl) (by kernel_rfl)
      (OpenSpec.preRow_of_cond 8 hx (by kernel_rfl) (fun k hk => by cases hk; kernel_rfl) (by kernel_rfl) (laid_met os))) ?_
  intro W base args ds gs before hval hW _ hcond _ hL _ _
  exact contract H enc W base args ds gs before hval hW (hcond _ rfl) hL
theorem c1 : laidOutB Tryz.pinned.checked.prog = true := by kernel_rfl
theorem c2 : mapsRowed Tryz.pinned.checked.prog = true := by kernel_rfl
theorem c3 : (Rows.viewServesUptoRow.inPlace == Tryz.pinned.checked.prog.inPlace 5) = true := by kernel_rfl
theorem c4 : (Rows.viewServesUptoRow.unfollowed == Tryz.pinned.checked.prog.unfollowed 5) = true := by kernel_rfl
theorem c5 : (Rows.viewServesUptoRow.recurses == Tryz.pinned.checked.prog.recurses 5) = true := by kernel_rfl
theorem c6 : (Rows.viewServesUptoRow.named == Tryz.pinned.checked.prog.varsNamed 5) = true := by kernel_rfl
theorem closed : joinedFacts Tryz.pinned.checked.prog 5 Tryz.f5 (Rows.OpenSpec.upto Rows.viewServesSpec).bare Rows.viewServesUptoRow = true := by
  unfold joinedFacts
  rw [c1, c2, c3, c4, c5, c6]
  kernel_rfl
theorem said : Rows.ViewServesUptoSaid :=
  OpenClaim.holds_of_cond 5 Tryz.f5 rfl rfl rfl rfl rfl rfl rfl ⟨rfl, rfl, rfl, rfl, rfl⟩ rfl rfl rfl rfl rfl (by kernel_rfl) Tryz.func5 closed
    (of_decide_eq_true (by kernel_rfl)) (by unfold Func.isWrapper; first | (rw [if_pos (by decide +kernel)]; kernel_rfl) | (rw [if_neg (by decide +kernel)]; exact ⟨rfl, rfl⟩))
    (fun os started H enc _ F => by rw [OpenClaim.pre_eq_preRow]; exact lifted os started H enc F)
theorem plain (f : FuncId) (fn : Func) (hf : Tryz.pinned.checked.prog.funcNamed "telltale/telltalelaw13.ViewServes" = some f) (hfn : Tryz.pinned.checked.prog.funcs[f]? = some fn) :
    false = Tryz.pinned.checked.prog.looks [] ∧ ∀ (j : Nat) t, fn.params[j]? = some t → Tryz.pinned.checked.prog.wantsStandIn t = false := by
  obtain rfl : f = 5 := Option.some.inj ((show Tryz.prog.funcNamed "telltale/telltalelaw13.ViewServes" = some 5 by kernel_rfl).symm.trans hf) |>.symm
  obtain rfl : fn = Tryz.f5 := (Option.some.inj (Tryz.func5.symm.trans hfn)).symm
  refine ⟨by kernel_rfl, fun j t ht => ?_⟩
  rw [Tryz.params5] at ht
  have hm := Array.mem_of_getElem? ht
  simp at hm
  rcases hm with rfl | rfl | rfl
  · exact (show Tryz.prog.wantsStandIn 27 = false by kernel_rfl)
  · exact (show Tryz.prog.wantsStandIn 3 = false by kernel_rfl)
  · exact (show Tryz.prog.wantsStandIn 28 = false by kernel_rfl)
theorem card : Rows.ViewServesUptoCardSaid :=
  Claim7.holds_tied_plain_at .later [] _ _ _ _ said (fun _ h => by cases h) (by as_aux_lemma => kernel_rfl) (fun _ h => by cases h) viewServesUpto_row_tie rfl ⟨rfl, rfl⟩ (by as_aux_lemma => kernel_rfl) rfl plain (by as_aux_lemma => kernel_rfl)
#print axioms card
end cViewServes
end Go.Proofs.YtkphfdmelfhnoaaGreatDoor
