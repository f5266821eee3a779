/- The law SessionRenews: what is due is asked for anew as the reference says, or refused. The card (second form: of bulk at most 1048576). -/
import Derived.Test.YtaiekfeiaamemaaGreatDoorPLogWalk
import Derived.Test.YtaiekfeiaamemaaGreatDoorPViewEnc
import Derived.OpenShut
import Derived.Test.YtaiekfeiaamemaaGreatDoorPSess
import Derived.Test.YtaiekfeiaamemaaGreatDoorPSubsOwn
import Derived.Test.YtaiekfeiaamemaaGreatDoorPSpanIn
import Derived.Test.YtaiekfeiaamemaaGreatDoorPSubs
import Derived.Test.YtaiekfeiaamemaaGreatDoorPExt
import Derived.Test.YtaiekfeiaamemaaGreatDoorPSubsRef
import Derived.Test.YtaiekfeiaamemaaGreatDoorPNoteWalk
import Derived.Test.YtaiekfeiaamemaaGreatDoorPRead
import Derived.Test.YtaiekfeiaamemaaGreatDoorCards
import Derived.Test.YtaiekfeiaamemaaGreatDoorTie
import Derived.Lib.LaidTab
import Derived.Deep.DeepWitnessRowRef
import Derived.Lib.SmallJoins
set_option linter.all false
set_option linter.unnecessarySimpa false
set_option linter.unusedSimpArgs false
set_option linter.unusedVariables false
/- The arguments of a view's laws, as they are read and as data. -/
namespace Go.Proofs.YtaiekfeiaamemaaGreatDoor
open Go.ChangeShapes Go.WideShapes Go.ChangeAt Go.RowKit

def ZoneR (w : World) (B : Nat) (cs : List Value) (z : Zone) : Prop := ∃ v, cs = [.int .i64 z.span.lo, .int .i64 z.span.hi, v] ∧ I64 z.span.lo ∧ I64 z.span.hi ∧ Stamps w B v z.vec
theorem opens_zone {w : World} : Opens Tryz.prog w 161 3 (ZoneR w w.heap.size) := by
  intro H enc fuel cs x h
  obtain ⟨hl, n, hf⟩ := struct_pieces Tryz.underlying161 h
  have hk : Tryz.prog.cellsOf 161 = 3 := by kernel_rfl
  have hs : Tryz.prog.cellsOf 46 = 2 := by kernel_rfl
  have hv : Tryz.prog.cellsOf 24 = 1 := by kernel_rfl
  rw [hk] at hl
  refine ⟨hl, ?_⟩
  match cs, hl with
  | [v0, v1, v2], _ =>
    obtain ⟨y0, h0⟩ := hf 0 46 0 2 rfl hs
    obtain ⟨y1, h1⟩ := hf 1 24 2 1 rfl hv
    obtain ⟨_, a, e0, i0, i1⟩ := opens_span (w := w) H enc n _ _ h0
    obtain ⟨_, b, _, e1, s1⟩ := opens_stamps (w := w) H enc n _ _ h1
    simp at e0 e1
    obtain ⟨rfl, rfl⟩ := e0
    subst e1
    exact ⟨⟨a, b⟩, _, rfl, i0, i1, s1⟩
abbrev Zones (w : World) (B : Nat) (v : Value) (l : List Zone) : Prop := Sl (ZoneR w B) 3 w B v l
theorem opens_zones {w : World} : Opens Tryz.prog w 25 1 (fun cs l => ∃ v, cs = [v] ∧ Zones w w.heap.size v l) :=
  opens_slice Tryz.underlying25 (by kernel_rfl) (by omega) opens_zone
abbrev Bodies (w : World) (B : Nat) (v : Value) (l : List Body) : Prop := Sl (BodyR w B) 4 w B v l
theorem opens_bodies {w : World} : Opens Tryz.prog w 27 1 (fun cs l => ∃ v, cs = [v] ∧ Bodies w w.heap.size v l) :=
  opens_slice Tryz.underlying27 (by kernel_rfl) (by omega) opens_body
def ViewR (w : World) (B : Nat) (cs : List Value) (x : View) : Prop := ∃ v0 v1 v2 v3, cs = [v0, v1, v2, v3, .int .i64 x.room] ∧ Stamps w B v0 x.known ∧ Zones w B v1 x.zones ∧ Writes w B v2 x.held ∧ Bodies w B v3 x.bodies ∧ I64 x.room
theorem opens_view {w : World} : Opens Tryz.prog w 29 5 (ViewR w w.heap.size) := by
  intro H enc fuel cs x h
  obtain ⟨hl, n, hf⟩ := struct_pieces Tryz.underlying29 h
  have hk : Tryz.prog.cellsOf 29 = 5 := by kernel_rfl
  have q0 : Tryz.prog.cellsOf 24 = 1 := by kernel_rfl
  have q1 : Tryz.prog.cellsOf 25 = 1 := by kernel_rfl
  have q2 : Tryz.prog.cellsOf 26 = 1 := by kernel_rfl
  have q3 : Tryz.prog.cellsOf 27 = 1 := by kernel_rfl
  have q4 : Tryz.prog.cellsOf 3 = 1 := by kernel_rfl
  rw [hk] at hl
  refine ⟨hl, ?_⟩
  match cs, hl with
  | [v0, v1, v2, v3, v4], _ =>
    obtain ⟨y0, h0⟩ := hf 0 24 0 1 rfl q0
    obtain ⟨y1, h1⟩ := hf 1 25 1 1 rfl q1
    obtain ⟨y2, h2⟩ := hf 2 26 2 1 rfl q2
    obtain ⟨y3, h3⟩ := hf 3 27 3 1 rfl q3
    obtain ⟨y4, h4⟩ := hf 4 3 4 1 rfl q4
    obtain ⟨_, a, _, e0, s0⟩ := opens_stamps (w := w) H enc n _ _ h0
    obtain ⟨_, b, _, e1, s1⟩ := opens_zones (w := w) H enc n _ _ h1
    obtain ⟨_, c, _, e2, s2⟩ := opens_writes (w := w) H enc n _ _ h2
    obtain ⟨_, d, _, e3, s3⟩ := opens_bodies (w := w) H enc n _ _ h3
    obtain ⟨_, r, e4, i4⟩ := opens_int (w := w) Tryz.underlying3 H enc n _ _ h4
    simp at e0 e1 e2 e3 e4
    subst e0 e1 e2 e3 e4
    exact ⟨⟨a, b, c, d, r⟩, _, _, _, _, rfl, s0, s1, s2, s3, i4⟩
theorem z_rep {X : World} {cs : List Value} {x : Zone} (h : ZoneR X X.heap.size cs x) : RepVs X cs (enZ x) := by
  obtain ⟨v0, rfl, h1, h2, h⟩ := h
  exact ⟨.val h1, .val h2, stamps_rep h (Nat.le_refl _), trivial⟩
theorem zones_rep {X : World} {v : Value} {l : List Zone} (h : Zones X X.heap.size v l) : RepV X v (znI l) := RepV.of_typed (fun _ _ h => z_rep h) h (Nat.le_refl _)
theorem bytes_rep {X : World} {v : Value} {l : List Nat} (h : Bytes X X.heap.size v l) : RepV X v (byI l) := RepV.of_typed (enc := fun (b : Nat) => [.val (.int .u8 b)]) (fun cs x h => by
  obtain ⟨rfl, h1⟩ := h
  refine ⟨.val ?_, trivial⟩
  simp [okV, Lit.wf, IntKind.max, IntKind.min, IntKind.signed, IntKind.bits]
  omega) h (Nat.le_refl _)
theorem b_rep {X : World} {cs : List Value} {x : Body} (h : BodyR X X.heap.size cs x) : RepVs X cs (enB x) := by
  obtain ⟨v0, rfl, h1, h2, h3, h⟩ := h
  exact ⟨.val h1, .val h2, .val h3, bytes_rep h, trivial⟩
theorem bodies_rep {X : World} {v : Value} {l : List Body} (h : Bodies X X.heap.size v l) : RepV X v (boI l) := RepV.of_typed (fun _ _ h => b_rep h) h (Nat.le_refl _)
theorem view_rep {E : Env} {X : World} {v0 v1 v2 v3 : Value} {x : View} (h0 : Stamps X X.heap.size v0 x.known) (h1 : Zones X X.heap.size v1 x.zones) (h2 : Writes X X.heap.size v2 x.held) (h3 : Bodies X X.heap.size v3 x.bodies) : RepA E X (.agg #[v0, v1, v2, v3, .int .i64 x.room]) (vwA x) :=
  .agg rfl fun j v c a b => by
    match j, a, b with
    | 0, a, b => simp at a b; subst a b; exact .iv (stamps_rep h0 (Nat.le_refl _))
    | 1, a, b => simp at a b; subst a b; exact .iv (zones_rep h1)
    | 2, a, b => simp at a b; subst a b; exact .iv (writes_rep h2 (Nat.le_refl _))
    | 3, a, b => simp at a b; subst a b; exact .iv (bodies_rep h3)
    | 4, a, b => simp at a b; subst a b; exact .val
    | j + 5, a, b => simp at a
end Go.Proofs.YtaiekfeiaamemaaGreatDoor
/- The arguments of the law SessionRenews: subscriptions, and two numbers. -/
namespace Go.Proofs.YtaiekfeiaamemaaGreatDoor
open Go.ChangeShapes Go.WideShapes Go.ChangeAt Go.RowKit

theorem okWide_array {P : Program} {w : World} {r : Reach} {base : Nat} {t : TypeId} {v : Value} {n : Nat} {e : TypeId} (ht : P.underlying t = some (.array n e)) (h : Value.okWide P w r base t v) : ∃ cs, v = .agg cs ∧ cs.size = P.cellsOf t := by
  simp only [Value.okWide, ht] at h
  obtain ⟨cs, h1, h2, _⟩ := h
  exact ⟨cs, h1, h2⟩
set_option maxRecDepth 100000 in
theorem opens_two {w : World} : Opens Tryz.prog w 23 2 (fun cs (x : Int × Int) => cs = [.int .i64 x.1, .int .i64 x.2] ∧ I64 x.1 ∧ I64 x.2) := by
  intro H enc fuel cs x h
  obtain ⟨h, hz⟩ := h
  obtain ⟨xs, m, rfl, rfl, hl, hn, hf⟩ := DataW.trod_array Tryz.underlying23 h
  have hk : Tryz.prog.cellsOf 23 = 2 := by kernel_rfl
  have hi : Tryz.prog.cellsOf 3 = 1 := by kernel_rfl
  rw [hk] at hl
  refine ⟨hl, ?_⟩
  match cs, hl with
  | [v0, v1], _ =>
    match xs, hn with
    | [y0, y1], _ =>
      have h0 := hf 0 (by decide)
      have h1 := hf 1 (by decide)
      rw [hi] at h0 h1
      simp only [List.map_cons, List.map_nil, Rows.uptoBulk] at hz
      have b0 := bulk_part (d := y0.1) (l := [y0.1, y1.1]) (by simp)
      have b1 := bulk_part (d := y1.1) (l := [y0.1, y1.1]) (by simp)
      obtain ⟨_, a, e0, i0⟩ := opens_int (w := w) Tryz.underlying3 H enc m _ _ ⟨h0, by omega⟩
      obtain ⟨_, b, e1, i1⟩ := opens_int (w := w) Tryz.underlying3 H enc m _ _ ⟨h1, by omega⟩
      simp at e0 e1
      subst e0 e1
      exact ⟨(a, b), rfl, i0, i1⟩
theorem two_rep {E : Env} {X : World} {a b : Int} : RepA E X (.agg #[.int .i64 a, .int .i64 b]) (.agg [.val (.int .i64 a), .val (.int .i64 b)]) :=
  .agg rfl fun j v c e1 e2 => by
    match j, e1, e2 with
    | 0, a, b => simp at a b; subst a b; exact .val
    | 1, a, b => simp at a b; subst a b; exact .val
    | j + 2, a, b => simp at a
theorem subs_rep {X : World} {v : Value} {l : List Sub} (h : Subs X X.heap.size v l) : RepV X v (subI l) := RepV.of_typed (fun _ _ h => sub_rep h) h (Nat.le_refl _)
end Go.Proofs.YtaiekfeiaamemaaGreatDoor
/- What is due is asked for anew (the program's). -/
namespace Go.Proofs.YtaiekfeiaamemaaGreatDoor
open Go.ChangeShapes Go.WideShapes Go.ChangeAt Go.RowKit
attribute [local irreducible] AW AWY vops vopsY vop vopL vdraw callW qop binQ lenQ storeQ appendQ callQ ACalls AIter setI
attribute [local go_sem] enSub_eq subI_eq vwA_eq storeQ_bp storeQ_rp

theorem meetOk : MeetOk := fun ls _ => meet_call ls
theorem vform_call (v : View) (iR : I64 v.room) : ACalls Tryz.prog TzTab 33 [vwA v] (.val (.bool (viewFormed v))) [] := view_of (fun l r h => cformed_call l r h) v iR
theorem sinceVT_same (v : View) (it : List Span) : sinceVT v it = sinceV v it := by
  unfold sinceVT sinceV
  rw [since_same]
theorem vsinceS_call (v : View) (iR : I64 v.room) (it : List Span) : ACalls Tryz.prog TzTab 52 [vwA v, .iv (spI it)] (.iv (stI (sinceV v it))) [] := by
  rw [← sinceVT_same]
  exact vsince_call meetOk v it (vform_call v iR)
theorem renew_no {q : RenewA × Int} (h : q = (⟨[], [], 0⟩, 1)) : Sub1 (.tup [.val (.slice none 0 0), .val (.slice none 0 0), .val (.int .i64 0), .val (.int .i64 1)]) (.tup [.iv (.sl 7 (q.1.done.map enSub)), .iv (msI q.1.msgs), .val (.int .i64 q.1.tries), .val (.int .i64 q.2)]) := by
  subst h
  refine tup_sub rfl fun p hp => ?_
  simp only [List.zip_cons_cons, List.zip_nil_right, List.mem_cons, List.not_mem_nil, or_false] at hp
  rcases hp with rfl | rfl | rfl | rfl
  · exact nil_sub 7
  · exact nil_sub 12
  · exact Sub1.rfl_ _
  · exact Sub1.rfl_ _
theorem rem_next {x y : Operand} {t : Int} (h0 : 0 ≤ t) (w : World) : (do eqGuard .rem 3 x y (.int .i64 (t + 1)) (.int .i64 1099511627776); binOp .rem 3 (.int .i64 (t + 1)) (.int .i64 1099511627776) : Sem Value).run Tryz.prog w = .ok (.int .i64 (nextN t)) w := by
  go_simp
  unfold nextN
  exact Int.tmod_eq_emod_of_nonneg (by omega)
theorem next_in {t : Int} (h0 : 0 ≤ t) : 0 ≤ nextN t ∧ nextN t < 1099511627776 := by unfold nextN; omega
theorem msg_as {me sf t : Int} {si : List Span} {vs : List Stamp} (w0 : I64 me) (w1 : I64 sf) (w2 : I64 t) :
    AsI [.val (.int .i64 1), .val (.int .i64 me), .val (.int .i64 sf), .val (.int .i64 t), .val (.int .i64 0), .iv (spI si), .iv (stI vs), .val (.slice none 0 0), .val (.int .i64 0), .val (.int .i64 0), .val (.int .i64 0), .val (.slice none 0 0)] (enMsg ⟨1, me, sf, t, 0, si, vs, [], ⟨0, ⟨0, 0⟩, []⟩⟩) := by
  refine AsI.sub (ds := cellsA (msA ⟨1, me, sf, t, 0, si, vs, [], ⟨0, ⟨0, 0⟩, []⟩⟩)) ?_ rfl ⟨rfl, w0, w1, w2, rfl, trivial, trivial, trivial, rfl, rfl, rfl, trivial, trivial⟩
  exact Sbs.cons_ (Sbs.cons_ (Sbs.cons_ (Sbs.cons_ (Sbs.cons_ (Sbs.cons_ (Sbs.cons_ (Sbs.of_ rep_nil (Sbs.cons_ (Sbs.cons_ (Sbs.cons_ (Sbs.of_ rep_nil (Sbs.rfl_ _))))))))))))
theorem row_next {a : List Sub} {l : List Sub} {i : Nat} {s' : Sub} {c : List IV} (hd : a.length = i) (hlt : i < l.length) (hc : c = enSub s') : (((a ++ l.drop i).map enSub).set i c) = ((a ++ [s']) ++ l.drop (i + 1)).map enSub := by
  rw [hc, ← List.map_set, List.set_append_right _ _ (by omega), hd, Nat.sub_self, List.drop_eq_getElem_cons hlt, List.set_cons_zero, List.append_assoc]
  rfl
theorem map_snoc {α β : Type} {f : α → β} {l : List α} {x : α} : l.map f ++ [f x] = (l ++ [x]).map f := by simp
/-- the rows so far -/
structure RenI (l : List Sub) (bl : List Span) (me : Int) (sn : List Span → List Stamp) (t : Int) where
  i : Nat
  a : RenewA
  hi : i ≤ l.length
  ha : a = (l.take i).foldl (renewStep bl me sn) ⟨[], [], t⟩
  hd : a.done.length = i
  hm : a.msgs.length ≤ i
  ht : numB a.tries = true
section
variable {l : List Sub} {bl : List Span} {me : Int} {sn : List Span → List Stamp} {t : Int}
theorem step_numB {a : RenewA} (ht : numB a.tries = true) : numB (nextN a.tries) = true := decide_eq_true (next_in (of_decide_eq_true ht).1)
def RenI.yes (x : RenI l bl me sn t) (s : Sub) (hs : l[x.i]? = some s) (h : dueB bl s = true) : RenI l bl me sn t :=
  ⟨x.i + 1, ⟨x.a.done ++ [renewSub s (nextN x.a.tries)], x.a.msgs ++ [renewMsg me s (nextN x.a.tries) (sn s.interest)], nextN x.a.tries⟩, (List.getElem?_eq_some_iff.1 hs).1, by
    obtain ⟨hlt, e⟩ := List.getElem?_eq_some_iff.1 hs
    rw [List.take_succ_eq_append_getElem hlt, List.foldl_append, ← x.ha, e]
    simp only [List.foldl_cons, List.foldl_nil, renewStep, if_pos h], by simp [x.hd], by have := x.hm; simp; omega, step_numB x.ht⟩
def RenI.no (x : RenI l bl me sn t) (s : Sub) (hs : l[x.i]? = some s) (h : dueB bl s = false) : RenI l bl me sn t :=
  ⟨x.i + 1, ⟨x.a.done ++ [{ s with heard := false }], x.a.msgs, x.a.tries⟩, (List.getElem?_eq_some_iff.1 hs).1, by
    obtain ⟨hlt, e⟩ := List.getElem?_eq_some_iff.1 hs
    rw [List.take_succ_eq_append_getElem hlt, List.foldl_append, ← x.ha, e]
    simp only [List.foldl_cons, List.foldl_nil, renewStep, h, if_neg Bool.false_ne_true], by simp [x.hd], by have := x.hm; simp; omega, x.ht⟩
end
set_option maxRecDepth 100000 in
set_option maxHeartbeats 1600000 in
theorem renew_call (l : List Sub) (me tries : Int) (v : View) (iM : I64 me) (iR : I64 v.room) : ACalls Tryz.prog TzTab 17 [.iv (subI l), .val (.int .i64 me), .val (.int .i64 tries), vwA v] (.tup [.iv (subI (renewS l me tries v).1.done), .iv (msI (renewS l me tries v).1.msgs), .val (.int .i64 (renewS l me tries v).1.tries), .val (.int .i64 (renewS l me tries v).2)]) [] := by
  refine ACalls.ofS (n := 101) (rs := [.tmp 8, .tmp 9, .tmp 10, .tmp 11]) Tryz.func17 rfl (by kernel_rfl) Tryz.ntmps17 (by kernel_rfl) (by simp) (fun _ _ => TzTab.later) ?_
  intro hok V w0
  have hlen : l.length ≤ 1073741824 := by simpa [subI] using hok.1.1
  obtain ⟨q, hq⟩ : ∃ q, renewS l me tries v = q := ⟨_, rfl⟩
  rw [hq]
  unfold renewS at hq
  refine g ?_
  refine AW.seq ?_
  refine AW.reg rfl fun KK hKK => ?_
  refine g ?_
  repeat' (first | refine hold_ (g ?_) | (refine hKK _ (g ?_); clear hKK KK) | exact trivial)
  refine AW.freeze 800 _ rfl ⟨trivial, trivial, trivial, trivial, iR, trivial⟩ ?_
  simp only [go_sem, reduceIte, Nat.reduceEqDiff]
  refine g ?_
  repeat' (first | refine st_ rfl (g ?_) | refine hold_ (g ?_) | exact trivial | refine cond_d (fun h => g ?_) (fun h => g ?_) | refine cond_ (fun h => g ?_) (fun h => g ?_) | (refine hKD _ _ ⟨rfl, g ?_⟩; clear hKD KD) | ((first | refine vops_ifd rfl rfl (fun h e => ?_) (fun h e => ?_) | refine vdraw_ifd rfl rfl (fun h e => ?_) (fun h e => ?_)) <;> simp only [e] <;> clear e <;> refine g ?_) | ((first | refine vops_if rfl rfl (fun h => ?_) (fun h => ?_) | refine vdraw_if rfl rfl (fun h => ?_) (fun h => ?_)) <;> simp only [h] <;> refine g ?_) | refine ix_ (by omega) (g ?_) | refine call_ (fsubs_call _) rfl (g ?_) | refine call_ (node_call _) rfl (g ?_) | refine call_ (num_call _) rfl (g ?_) | refine call_ (vform_call _ iR) rfl (g ?_) | refine call_ (subsO_call _) rfl (g ?_) | refine call_ (zblur_call _) rfl (g ?_))
  · rw [if_neg (by simp at h; simp [h])] at hq
    exact renew_no hq.symm
  · rw [if_neg (by simp at h; simp [h])] at hq
    exact renew_no hq.symm
  · rw [if_neg (by simp at h; simp [h])] at hq
    exact renew_no hq.symm
  · rw [if_neg (by simp at h; simp [h])] at hq
    exact renew_no hq.symm
  rename_i h1 h2 h3
  rw [if_pos (by simp at *; simp [*])] at hq
  have hnum : numB tries = true := by simpa using h3
  obtain ⟨bl, hbl⟩ : ∃ bl, blurredS v.zones = bl := ⟨_, rfl⟩
  rw [hbl] at hq
  simp only [hbl]
  refine AW.adopt 14 9900 114 12 rfl rfl ?_
  refine AW.loop (fun x : RenI l bl me (sinceV v) tries => ⟨[(1, .val (.int .i64 me)), (2, .val (.int .i64 x.a.tries)), (7, .ip [stI v.known, znI v.zones, wrI v.held, boI v.bodies, .val (.int .i64 v.room)]), (12, .own 3700), (13, .iv (spI bl)), (14, .own 9900), (40, .own 3700), (41, .val (.int .i64 (l.length : Nat))), (42, .val (.int .i64 (x.i : Nat)))], [.row 3700 123 7 ((x.a.done ++ l.drop x.i).map enSub), .row 9900 114 12 (x.a.msgs.map enMsg)]⟩) (fun x => l.length - x.i) ⟨0, ⟨[], [], tries⟩, Nat.zero_le _, rfl, rfl, Nat.le_refl _, hnum⟩ id ⟨⟨rfl, rfl, rfl, rfl, rfl, rfl, rfl, ?_, rfl, trivial⟩, ⟨rfl, rfl, trivial⟩, by simp [idsOf, BA.id]⟩ fun ⟨i, a, hi, ha, hd, hm, ht⟩ => ?_
  · simp [AV.ren, look, subI]
  simp only
  repeat (refine AW.seq ?_)
  refine AW.reg rfl fun KK hKK => ?_
  refine g ?_
  repeat' (first | refine hold_ (g ?_) | (refine hKK _ (g ?_); clear hKK KK) | exact trivial)
  repeat (refine AW.seq ?_)
  refine st_ rfl ?_
  refine g ?_
  refine cond_ (fun h => ?_) (fun h => ?_)
  · have hlt : i < l.length := by have := of_decide_eq_true h; omega
    obtain ⟨s, hs⟩ : ∃ s, l[i] = s := ⟨_, rfl⟩
    have hs2 : (a.done ++ l.drop i)[i]? = some s := by
      rw [List.getElem?_append_right (by omega), hd, Nat.sub_self, List.getElem?_drop, Nat.add_zero, ← hs]
      exact List.getElem?_eq_getElem hlt
    have hsl : l[i]? = some s := by rw [← hs]; exact List.getElem?_eq_getElem hlt
    have hln : (a.done ++ l.drop i).length = l.length := by simp [hd]; omega
    obtain ⟨sf, si, ss, sq, sl, sh, sd⟩ := s
    have hrow := get_map (f := enSub) hs2
    refine g ?_
    repeat' (first | refine st_ rfl (g ?_) | refine hold_ (g ?_) | exact trivial | refine cond_ (fun h => g ?_) (fun h => g ?_) | (refine hKD _ _ ⟨rfl, g ?_⟩; clear hKD KD))
    refine ⟨by omega, by rw [hln]; exact hlt, ?_⟩
    refine g ?_
    repeat' (first | refine st_ rfl (g ?_) | refine hold_ (g ?_) | exact trivial | refine cond_ (fun h => g ?_) (fun h => g ?_) | (refine hKD _ _ ⟨rfl, g ?_⟩; clear hKD KD))
    refine ⟨_, hrow, ?_⟩
    refine g ?_
    repeat' (first | refine st_ rfl (g ?_) | refine hold_ (g ?_) | exact trivial | refine cond_ (fun h => g ?_) (fun h => g ?_) | (refine hKD _ _ ⟨rfl, g ?_⟩; clear hKD KD))
    obtain ⟨-, o1, -⟩ : 7 = 7 ∧ I64 sf ∧ True := by
      obtain ⟨-, o, -⟩ := okR_mem (by simpa [subI] using hok.1.2) (enSub l[i]) (List.mem_map_of_mem (List.getElem_mem hlt))
      rw [hs] at o
      exact ⟨rfl, o, trivial⟩
    obtain ⟨t0, t1⟩ : 0 ≤ a.tries ∧ a.tries < 1099511627776 := of_decide_eq_true ht
    obtain ⟨n0, n1⟩ := next_in t0
    have o2 : I64 (nextN a.tries) := I64.of (by omega) (by omega)
    have hc : sh = false ∨ (sh = true ∧ sl = false) ∨ (sh = true ∧ sl = true ∧ sd = false) ∨ (sh = true ∧ sl = true ∧ sd = true) := by cases sh <;> cases sl <;> cases sd <;> simp
    rcases hc with rfl | ⟨rfl, rfl⟩ | ⟨rfl, rfl, rfl⟩ | ⟨rfl, rfl, rfl⟩
    all_goals
      refine g ?_
      repeat' (first | refine st_ rfl (g ?_) | refine hold_ (g ?_) | exact trivial | refine cond_d (fun h => g ?_) (fun h => g ?_) | refine cond_ (fun h => g ?_) (fun h => g ?_) | (refine hKD _ _ ⟨rfl, g ?_⟩; clear hKD KD) | ((first | refine vops_ifd rfl rfl (fun h e => ?_) (fun h e => ?_) | refine vdraw_ifd rfl rfl (fun h e => ?_) (fun h e => ?_)) <;> simp only [e] <;> clear e <;> refine g ?_) | ((first | refine vops_if rfl rfl (fun h => ?_) (fun h => ?_) | refine vdraw_if rfl rfl (fun h => ?_) (fun h => ?_)) <;> simp only [h] <;> refine g ?_) | refine ix_ (by omega) (g ?_) | refine call_ (stouch_call si bl) rfl (g ?_))
    all_goals first
      | (
          refine ⟨by omega, by rw [hln]; exact hlt, ?_⟩
          refine g ?_
          repeat' (first | refine st_ rfl (g ?_) | refine hold_ (g ?_) | exact trivial | refine cond_d (fun h => g ?_) (fun h => g ?_) | refine cond_ (fun h => g ?_) (fun h => g ?_) | (refine hKD _ _ ⟨rfl, g ?_⟩; clear hKD KD) | ((first | refine vops_ifd rfl rfl (fun h e => ?_) (fun h e => ?_) | refine vdraw_ifd rfl rfl (fun h e => ?_) (fun h e => ?_)) <;> simp only [e] <;> clear e <;> refine g ?_) | ((first | refine vops_if rfl rfl (fun h => ?_) (fun h => ?_) | refine vdraw_if rfl rfl (fun h => ?_) (fun h => ?_)) <;> simp only [h] <;> refine g ?_) | refine ix_ (by omega) (g ?_))
          refine ⟨_, _, rfl, ⟨trivial, trivial⟩, hrow, ?_⟩
          refine g ?_
          repeat' (first | refine st_ rfl (g ?_) | refine hold_ (g ?_) | exact trivial | refine cond_d (fun h => g ?_) (fun h => g ?_) | refine cond_ (fun h => g ?_) (fun h => g ?_) | (refine hKD _ _ ⟨rfl, g ?_⟩; clear hKD KD) | ((first | refine vops_ifd rfl rfl (fun h e => ?_) (fun h e => ?_) | refine vdraw_ifd rfl rfl (fun h e => ?_) (fun h e => ?_)) <;> simp only [e] <;> clear e <;> refine g ?_) | ((first | refine vops_if rfl rfl (fun h => ?_) (fun h => ?_) | refine vdraw_if rfl rfl (fun h => ?_) (fun h => ?_)) <;> simp only [h] <;> refine g ?_) | refine ix_ (by omega) (g ?_))
          refine ⟨RenI.no ⟨i, a, hi, ha, hd, hm, ht⟩ _ hsl (by first | rfl | (simp at h; simp [dueB, h])), id, ⟨⟨rfl, rfl, rfl, rfl, rfl, rfl, rfl, rfl, rfl, trivial⟩, ⟨congrArg (fun C => some (BA.row 3700 _ 7 C)) (row_next hd hlt rfl), rfl, trivial⟩, by simp [idsOf, BA.id]⟩, by show l.length - (i + 1) < l.length - i; omega⟩)
      | (
          refine ⟨_, rem_next (x := .tmp 71) (y := .const (.int .i64 1099511627776)) t0, ?_⟩
          refine g ?_
          repeat' (first | refine st_ rfl (g ?_) | refine hold_ (g ?_) | exact trivial | refine cond_d (fun h => g ?_) (fun h => g ?_) | refine cond_ (fun h => g ?_) (fun h => g ?_) | (refine hKD _ _ ⟨rfl, g ?_⟩; clear hKD KD) | ((first | refine vops_ifd rfl rfl (fun h e => ?_) (fun h e => ?_) | refine vdraw_ifd rfl rfl (fun h e => ?_) (fun h e => ?_)) <;> simp only [e] <;> clear e <;> refine g ?_) | ((first | refine vops_if rfl rfl (fun h => ?_) (fun h => ?_) | refine vdraw_if rfl rfl (fun h => ?_) (fun h => ?_)) <;> simp only [h] <;> refine g ?_) | refine ix_ (by omega) (g ?_))
          refine ⟨by omega, by rw [hln]; exact hlt, ?_⟩
          refine g ?_
          repeat' (first | refine st_ rfl (g ?_) | refine hold_ (g ?_) | exact trivial | refine cond_d (fun h => g ?_) (fun h => g ?_) | refine cond_ (fun h => g ?_) (fun h => g ?_) | (refine hKD _ _ ⟨rfl, g ?_⟩; clear hKD KD) | ((first | refine vops_ifd rfl rfl (fun h e => ?_) (fun h e => ?_) | refine vdraw_ifd rfl rfl (fun h e => ?_) (fun h e => ?_)) <;> simp only [e] <;> clear e <;> refine g ?_) | ((first | refine vops_if rfl rfl (fun h => ?_) (fun h => ?_) | refine vdraw_if rfl rfl (fun h => ?_) (fun h => ?_)) <;> simp only [h] <;> refine g ?_) | refine ix_ (by omega) (g ?_))
          refine ⟨_, _, rfl, ⟨o1, trivial, o2, rfl, trivial, trivial, trivial, trivial⟩, hrow, ?_⟩
          refine g ?_
          repeat' (first | refine st_ rfl (g ?_) | refine hold_ (g ?_) | exact trivial | refine cond_d (fun h => g ?_) (fun h => g ?_) | refine cond_ (fun h => g ?_) (fun h => g ?_) | (refine hKD _ _ ⟨rfl, g ?_⟩; clear hKD KD) | ((first | refine vops_ifd rfl rfl (fun h e => ?_) (fun h e => ?_) | refine vdraw_ifd rfl rfl (fun h e => ?_) (fun h e => ?_)) <;> simp only [e] <;> clear e <;> refine g ?_) | ((first | refine vops_if rfl rfl (fun h => ?_) (fun h => ?_) | refine vdraw_if rfl rfl (fun h => ?_) (fun h => ?_)) <;> simp only [h] <;> refine g ?_) | refine ix_ (by omega) (g ?_))
          refine AW.drawn (ds := [82, 83, 84, 85, 86, 87, 88, 89, 90, 91, 92, 93, 94, 95, 96, 14]) (fin := [0, 1, 3, 4]) (bs := [3, 3, 3, 3, 3, 3, 3, 3, 3, 3, 3, 3, 3, 3, 4, 5]) [⟨[], [14], [], [], 0⟩, ⟨[], [], [], [], 0⟩, ⟨[], [], [], [], 0⟩, ⟨[(84, 2)], [], [0, 1, 2], [], 0⟩, ⟨[], [], [], [], 0⟩, ⟨[], [], [], [], 0⟩, ⟨[(87, 5)], [], [0, 1, 2], [], 0⟩, ⟨[(88, 6)], [], [0, 1, 2], [], 0⟩, ⟨[], [], [0, 1, 2], [], 0⟩, ⟨[], [], [], [], 0⟩, ⟨[(91, 9)], [], [0, 1, 2], [], 0⟩, ⟨[(90, 8), (92, 10)], [], [0, 1, 2], [], 0⟩, ⟨[(83, 1), (85, 3), (86, 4), (89, 7), (93, 11)], [], [], [], 0⟩, ⟨[(94, 12)], [], [], [], 1⟩, ⟨[(82, 0), (95, 13)], [], [0, 1, 3], [2], 1⟩, ⟨[(96, 14)], [], [], [], 0⟩] (by kernel_rfl) rfl (by kernel_rfl) rfl rfl rfl fun KD hKD => ?_
          refine g ?_
          repeat' (first | refine st_ rfl (g ?_) | refine hold_ (g ?_) | exact trivial | refine cond_d (fun h => g ?_) (fun h => g ?_) | refine cond_ (fun h => g ?_) (fun h => g ?_) | (refine hKD _ _ ⟨rfl, g ?_⟩; clear hKD KD) | ((first | refine vops_ifd rfl rfl (fun h e => ?_) (fun h e => ?_) | refine vdraw_ifd rfl rfl (fun h e => ?_) (fun h e => ?_)) <;> simp only [e] <;> clear e <;> refine g ?_) | ((first | refine vops_if rfl rfl (fun h => ?_) (fun h => ?_) | refine vdraw_if rfl rfl (fun h => ?_) (fun h => ?_)) <;> simp only [h] <;> refine g ?_) | refine ix_ (by omega) (g ?_) | refine call_ (clonespD si) rfl (g ?_) | refine call_ (vsinceS_call v iR si) rfl (g ?_))
          refine bn1 (by omega) rfl (msg_as iM o1 o2) rfl ?_
          refine g ?_
          repeat' (first | refine hold_ (g ?_) | (refine hKD _ _ ⟨rfl, g ?_⟩; clear hKD KD) | exact trivial)
          refine append_own rfl (by kernel_rfl) (by omega) (by kernel_rfl) rfl (by simp; omega) ?_
          refine g ?_
          repeat' (first | refine st_ rfl (g ?_) | refine hold_ (g ?_) | exact trivial | refine cond_d (fun h => g ?_) (fun h => g ?_) | refine cond_ (fun h => g ?_) (fun h => g ?_) | (refine hKD _ _ ⟨rfl, g ?_⟩; clear hKD KD) | ((first | refine vops_ifd rfl rfl (fun h e => ?_) (fun h e => ?_) | refine vdraw_ifd rfl rfl (fun h e => ?_) (fun h e => ?_)) <;> simp only [e] <;> clear e <;> refine g ?_) | ((first | refine vops_if rfl rfl (fun h => ?_) (fun h => ?_) | refine vdraw_if rfl rfl (fun h => ?_) (fun h => ?_)) <;> simp only [h] <;> refine g ?_) | refine ix_ (by omega) (g ?_))
          refine ⟨RenI.yes ⟨i, a, hi, ha, hd, hm, ht⟩ _ hsl (by first | rfl | (simp at h; simp [dueB, h])), fun b => if b = 9900 then 9700 else b, ⟨⟨rfl, rfl, rfl, rfl, rfl, rfl, rfl, rfl, rfl, trivial⟩, ⟨congrArg (fun C => some (BA.row 3700 _ 7 C)) (row_next hd hlt rfl), congrArg (fun C => some (BA.row 9700 _ 12 C)) map_snoc, trivial⟩, by simp [idsOf, BA.id]⟩, by show l.length - (i + 1) < l.length - i; omega⟩)
  · obtain rfl : i = l.length := by have := of_decide_eq_false h; omega
    rw [List.take_length] at ha
    have hq2 : q = (a, 0) := by rw [← hq, ha]; rfl
    subst hq2
    refine AW.exit ?_
    simp only [reduceIte]
    refine AW.freeze 3700 _ rfl trivial ?_
    simp only [go_sem, reduceIte, Nat.reduceEqDiff]
    refine AW.freeze 9900 _ rfl trivial ?_
    simp only [go_sem, reduceIte, Nat.reduceEqDiff]
    rw [List.drop_length, List.append_nil]
    refine g ?_
    repeat' (first | refine st_ rfl (g ?_) | refine hold_ (g ?_) | exact trivial | refine cond_d (fun h => g ?_) (fun h => g ?_) | refine cond_ (fun h => g ?_) (fun h => g ?_) | (refine hKD _ _ ⟨rfl, g ?_⟩; clear hKD KD) | ((first | refine vops_ifd rfl rfl (fun h e => ?_) (fun h e => ?_) | refine vdraw_ifd rfl rfl (fun h e => ?_) (fun h e => ?_)) <;> simp only [e] <;> clear e <;> refine g ?_) | ((first | refine vops_if rfl rfl (fun h => ?_) (fun h => ?_) | refine vdraw_if rfl rfl (fun h => ?_) (fun h => ?_)) <;> simp only [h] <;> refine g ?_) | refine ix_ (by omega) (g ?_))
    exact Sub1.rfl_ _
end Go.Proofs.YtaiekfeiaamemaaGreatDoor
/- What is due is asked for anew (the reference's). -/
namespace Go.Proofs.YtaiekfeiaamemaaGreatDoor
open Go.ChangeShapes Go.WideShapes Go.ChangeAt Go.RowKit
attribute [local irreducible] AW AWY vops vopsY vop vopL vdraw callW qop binQ lenQ storeQ appendQ callQ ACalls AIter setI
attribute [local go_sem] enSub_eq subI_eq vwA_eq storeQ_bp storeQ_rp
set_option maxRecDepth 100000 in
set_option maxHeartbeats 1600000 in
theorem rrenew_call (l : List Sub) (me tries : Int) (v : View) (iM : I64 me) (iR : I64 v.room) : ACalls Tryz.prog TzTab 18 [.iv (subI l), .val (.int .i64 me), .val (.int .i64 tries), vwA v] (.tup [.iv (subI (renewS l me tries v).1.done), .iv (msI (renewS l me tries v).1.msgs), .val (.int .i64 (renewS l me tries v).1.tries), .val (.int .i64 (renewS l me tries v).2)]) [] := by
  refine ACalls.ofS (n := 101) (rs := [.tmp 8, .tmp 9, .tmp 10, .tmp 11]) Tryz.func18 rfl (by kernel_rfl) Tryz.ntmps18 (by kernel_rfl) (by simp) (fun _ _ => TzTab.later) ?_
  intro hok V w0
  have hlen : l.length ≤ 1073741824 := by simpa [subI] using hok.1.1
  obtain ⟨q, hq⟩ : ∃ q, renewS l me tries v = q := ⟨_, rfl⟩
  rw [hq]
  unfold renewS at hq
  refine g ?_
  refine AW.seq ?_
  refine AW.reg rfl fun KK hKK => ?_
  refine g ?_
  repeat' (first | refine hold_ (g ?_) | (refine hKK _ (g ?_); clear hKK KK) | exact trivial)
  refine AW.freeze 800 _ rfl ⟨trivial, trivial, trivial, trivial, iR, trivial⟩ ?_
  simp only [go_sem, reduceIte, Nat.reduceEqDiff]
  refine g ?_
  repeat' (first | refine st_ rfl (g ?_) | refine hold_ (g ?_) | exact trivial | refine cond_d (fun h => g ?_) (fun h => g ?_) | refine cond_ (fun h => g ?_) (fun h => g ?_) | (refine hKD _ _ ⟨rfl, g ?_⟩; clear hKD KD) | ((first | refine vops_ifd rfl rfl (fun h e => ?_) (fun h e => ?_) | refine vdraw_ifd rfl rfl (fun h e => ?_) (fun h e => ?_)) <;> simp only [e] <;> clear e <;> refine g ?_) | ((first | refine vops_if rfl rfl (fun h => ?_) (fun h => ?_) | refine vdraw_if rfl rfl (fun h => ?_) (fun h => ?_)) <;> simp only [h] <;> refine g ?_) | refine ix_ (by omega) (g ?_) | refine call_ (rfsubs_call _) rfl (g ?_) | refine call_ (rnum_call _) rfl (g ?_) | refine call_ (rview_call v iR) rfl (g ?_) | refine call_ (rownO_call _) rfl (g ?_))
  · rw [if_neg (by simp at h; simp [h])] at hq
    exact renew_no hq.symm
  · rw [if_neg (by simp [nodeB]; omega)] at hq
    exact renew_no hq.symm
  · rw [if_neg (by simp [nodeB]; omega)] at hq
    exact renew_no hq.symm
  · rw [if_neg (by simp at h; simp [h])] at hq
    exact renew_no hq.symm
  · rw [if_neg (by simp at h; simp [h])] at hq
    exact renew_no hq.symm
  rename_i h1 h2 h3 h4
  have hnode : nodeB me = true := decide_eq_true (by omega)
  rw [if_pos (by simp at *; simp [*])] at hq
  have hnum : numB tries = true := by simpa using h4
  obtain ⟨bl, hbl⟩ : ∃ bl, blurredS v.zones = bl := ⟨_, rfl⟩
  rw [hbl] at hq
  have hzb := rzblur_call v.zones
  have hrs := rtouch_call
  rw [hbl] at hzb
  refine AW.adopt 13 9900 114 12 rfl rfl ?_
  refine AW.loop (fun x : RenI l bl me (sinceV v) tries => ⟨[(1, .val (.int .i64 me)), (2, .val (.int .i64 x.a.tries)), (7, .ip [stI v.known, znI v.zones, wrI v.held, boI v.bodies, .val (.int .i64 v.room)]), (12, .own 3900), (13, .own 9900), (14, .val (.int .i64 (x.i : Nat)))], [.row 3900 123 7 ((x.a.done ++ l.drop x.i).map enSub), .row 9900 114 12 (x.a.msgs.map enMsg)]⟩) (fun x => l.length - x.i) ⟨0, ⟨[], [], tries⟩, Nat.zero_le _, rfl, rfl, Nat.le_refl _, hnum⟩ id ⟨⟨rfl, rfl, rfl, rfl, rfl, rfl, trivial⟩, ⟨rfl, rfl, trivial⟩, by simp [idsOf, BA.id]⟩ fun ⟨i, a, hi, ha, hd, hm, ht⟩ => ?_
  simp only
  have hln : (a.done ++ l.drop i).length = l.length := by simp [hd]; omega
  have hle : ((a.done ++ l.drop i).map enSub).length = l.length := by rw [List.length_map, hln]
  repeat (refine AW.seq ?_)
  refine AW.reg rfl fun KK hKK => ?_
  refine g ?_
  repeat' (first | refine hold_ (g ?_) | (refine hKK _ (g ?_); clear hKK KK) | exact trivial)
  repeat (refine AW.seq ?_)
  refine st_ rfl ?_
  refine g ?_
  refine cond_ (fun h => ?_) (fun h => ?_)
  · have hlt : i < l.length := by have := of_decide_eq_true h; omega
    obtain ⟨s, hs⟩ : ∃ s, l[i] = s := ⟨_, rfl⟩
    have hs2 : (a.done ++ l.drop i)[i]? = some s := by
      rw [List.getElem?_append_right (by omega), hd, Nat.sub_self, List.getElem?_drop, Nat.add_zero, ← hs]
      exact List.getElem?_eq_getElem hlt
    have hsl : l[i]? = some s := by rw [← hs]; exact List.getElem?_eq_getElem hlt
    obtain ⟨sf, si, ss, sq, sl, sh, sd⟩ := s
    have hrow := get_map (f := enSub) hs2
    obtain ⟨o1, o3, o4⟩ : I64 sf ∧ I64 ss ∧ I64 sq := by
      obtain ⟨-, o, -, o3, o4, -⟩ := okR_mem (by simpa [subI] using hok.1.2) (enSub l[i]) (List.mem_map_of_mem (List.getElem_mem hlt))
      rw [hs] at o o3 o4
      exact ⟨o, o3, o4⟩
    obtain ⟨t0, t1⟩ : 0 ≤ a.tries ∧ a.tries < 1099511627776 := of_decide_eq_true ht
    obtain ⟨n0, n1⟩ := next_in t0
    have o2 : I64 (nextN a.tries) := I64.of (by omega) (by omega)
    refine g ?_
    repeat' (first | refine st_ rfl (g ?_) | refine hold_ (g ?_) | exact trivial | refine cond_ (fun h => g ?_) (fun h => g ?_) | (refine hKD _ _ ⟨rfl, g ?_⟩; clear hKD KD))
    refine ⟨by omega, by rw [hln]; exact hlt, ?_⟩
    refine g ?_
    repeat' (first | refine st_ rfl (g ?_) | refine hold_ (g ?_) | exact trivial | refine cond_ (fun h => g ?_) (fun h => g ?_) | (refine hKD _ _ ⟨rfl, g ?_⟩; clear hKD KD))
    refine ⟨_, hrow, ?_⟩
    refine g ?_
    repeat' (first | refine st_ rfl (g ?_) | refine hold_ (g ?_) | exact trivial | refine cond_ (fun h => g ?_) (fun h => g ?_) | (refine hKD _ _ ⟨rfl, g ?_⟩; clear hKD KD))
    refine AW.freeze 1600 _ rfl ⟨o1, trivial, o3, o4, trivial, trivial, trivial, trivial⟩ ?_
    simp only [go_sem, reduceIte, Nat.reduceEqDiff]
    refine AW.drawn (ds := [49, 50, 51, 52, 53, 54, 55, 56, 57, 58, 59, 60, 61, 62, 63, 64, 65, 66, 67]) (fin := [0, 1]) (bs := [2, 2, 2, 2, 2, 2, 2, 2, 2, 2, 2, 2, 2, 2, 2, 2, 2, 2, 2]) [⟨[], [], [], [], 0⟩, ⟨[(49, 0)], [], [0, 1], [], 0⟩, ⟨[(50, 1)], [], [], [], 0⟩, ⟨[], [], [], [], 0⟩, ⟨[(52, 3)], [], [0, 1], [], 0⟩, ⟨[(53, 4)], [], [], [], 0⟩, ⟨[], [], [], [], 0⟩, ⟨[(55, 6)], [], [0, 1], [], 0⟩, ⟨[(54, 5), (56, 7)], [], [], [], 0⟩, ⟨[(57, 8)], [], [], [], 0⟩, ⟨[], [], [], [], 0⟩, ⟨[(59, 10)], [], [0, 1], [], 0⟩, ⟨[], [], [], [], 0⟩, ⟨[(61, 12)], [], [0, 1], [], 0⟩, ⟨[(62, 13)], [], [0, 1], [], 0⟩, ⟨[(60, 11), (63, 14)], [], [0, 1], [], 0⟩, ⟨[(58, 9), (64, 15)], [], [], [], 0⟩, ⟨[(65, 16)], [], [], [], 0⟩, ⟨[(51, 2), (66, 17)], [], [], [], 0⟩] (by kernel_rfl) rfl (by kernel_rfl) rfl rfl rfl fun KD hKD => ?_
    have hc : sh = false ∨ (sh = true ∧ sl = false) ∨ (sh = true ∧ sl = true ∧ sd = false) ∨ (sh = true ∧ sl = true ∧ sd = true) := by cases sh <;> cases sl <;> cases sd <;> simp
    rcases hc with rfl | ⟨rfl, rfl⟩ | ⟨rfl, rfl, rfl⟩ | ⟨rfl, rfl, rfl⟩
    all_goals
      refine g ?_
      repeat' (first | refine st_ rfl (g ?_) | refine hold_ (g ?_) | exact trivial | refine cond_d (fun h => g ?_) (fun h => g ?_) | refine cond_ (fun h => g ?_) (fun h => g ?_) | (refine hKD _ _ ⟨rfl, g ?_⟩; clear hKD KD) | ((first | refine vops_ifd rfl rfl (fun h e => ?_) (fun h e => ?_) | refine vdraw_ifd rfl rfl (fun h e => ?_) (fun h e => ?_)) <;> simp only [e] <;> clear e <;> refine g ?_) | ((first | refine vops_if rfl rfl (fun h => ?_) (fun h => ?_) | refine vdraw_if rfl rfl (fun h => ?_) (fun h => ?_)) <;> simp only [h] <;> refine g ?_) | refine ix_ (by omega) (g ?_) | refine call_ (hzb) rfl (g ?_) | refine call_ (hrs si bl) rfl (g ?_) | refine call_ (rnext_call a.tries t0 (by omega)) rfl (g ?_))
    all_goals first
      | (
          refine ⟨by omega, by rw [hln]; exact hlt, ?_⟩
          refine g ?_
          repeat' (first | refine st_ rfl (g ?_) | refine hold_ (g ?_) | exact trivial | refine cond_d (fun h => g ?_) (fun h => g ?_) | refine cond_ (fun h => g ?_) (fun h => g ?_) | (refine hKD _ _ ⟨rfl, g ?_⟩; clear hKD KD) | ((first | refine vops_ifd rfl rfl (fun h e => ?_) (fun h e => ?_) | refine vdraw_ifd rfl rfl (fun h e => ?_) (fun h e => ?_)) <;> simp only [e] <;> clear e <;> refine g ?_) | ((first | refine vops_if rfl rfl (fun h => ?_) (fun h => ?_) | refine vdraw_if rfl rfl (fun h => ?_) (fun h => ?_)) <;> simp only [h] <;> refine g ?_) | refine ix_ (by omega) (g ?_))
          refine ⟨_, _, rfl, ⟨trivial, trivial⟩, hrow, ?_⟩
          refine g ?_
          repeat' (first | refine st_ rfl (g ?_) | refine hold_ (g ?_) | exact trivial | refine cond_d (fun h => g ?_) (fun h => g ?_) | refine cond_ (fun h => g ?_) (fun h => g ?_) | (refine hKD _ _ ⟨rfl, g ?_⟩; clear hKD KD) | ((first | refine vops_ifd rfl rfl (fun h e => ?_) (fun h e => ?_) | refine vdraw_ifd rfl rfl (fun h e => ?_) (fun h e => ?_)) <;> simp only [e] <;> clear e <;> refine g ?_) | ((first | refine vops_if rfl rfl (fun h => ?_) (fun h => ?_) | refine vdraw_if rfl rfl (fun h => ?_) (fun h => ?_)) <;> simp only [h] <;> refine g ?_) | refine ix_ (by omega) (g ?_))
          refine ⟨RenI.no ⟨i, a, hi, ha, hd, hm, ht⟩ _ hsl (by first | rfl | (simp at h; simp [dueB, h])), id, ⟨⟨rfl, rfl, rfl, rfl, rfl, rfl, trivial⟩, ⟨congrArg (fun C => some (BA.row 3900 _ 7 C)) (row_next hd hlt rfl), rfl, trivial⟩, by simp [idsOf, BA.id]⟩, by show l.length - (i + 1) < l.length - i; omega⟩)
      | (
          refine ⟨by omega, by rw [hln]; exact hlt, ?_⟩
          refine g ?_
          repeat' (first | refine st_ rfl (g ?_) | refine hold_ (g ?_) | exact trivial | refine cond_d (fun h => g ?_) (fun h => g ?_) | refine cond_ (fun h => g ?_) (fun h => g ?_) | (refine hKD _ _ ⟨rfl, g ?_⟩; clear hKD KD) | ((first | refine vops_ifd rfl rfl (fun h e => ?_) (fun h e => ?_) | refine vdraw_ifd rfl rfl (fun h e => ?_) (fun h e => ?_)) <;> simp only [e] <;> clear e <;> refine g ?_) | ((first | refine vops_if rfl rfl (fun h => ?_) (fun h => ?_) | refine vdraw_if rfl rfl (fun h => ?_) (fun h => ?_)) <;> simp only [h] <;> refine g ?_) | refine ix_ (by omega) (g ?_))
          refine ⟨_, _, rfl, ⟨o1, trivial, o2, rfl, trivial, trivial, trivial, trivial⟩, hrow, ?_⟩
          refine g ?_
          repeat' (first | refine st_ rfl (g ?_) | refine hold_ (g ?_) | exact trivial | refine cond_d (fun h => g ?_) (fun h => g ?_) | refine cond_ (fun h => g ?_) (fun h => g ?_) | (refine hKD _ _ ⟨rfl, g ?_⟩; clear hKD KD) | ((first | refine vops_ifd rfl rfl (fun h e => ?_) (fun h e => ?_) | refine vdraw_ifd rfl rfl (fun h e => ?_) (fun h e => ?_)) <;> simp only [e] <;> clear e <;> refine g ?_) | ((first | refine vops_if rfl rfl (fun h => ?_) (fun h => ?_) | refine vdraw_if rfl rfl (fun h => ?_) (fun h => ?_)) <;> simp only [h] <;> refine g ?_) | refine ix_ (by omega) (g ?_))
          refine AW.drawn (ds := [83, 84, 85, 86, 87, 88, 89, 90, 91, 92, 93, 94, 95, 96, 97, 13]) (fin := [0, 2, 3]) (bs := [2, 2, 2, 2, 2, 2, 2, 2, 2, 2, 2, 2, 2, 2, 3, 4]) [⟨[], [13], [], [], 0⟩, ⟨[], [], [], [], 0⟩, ⟨[], [], [], [], 0⟩, ⟨[(85, 2)], [], [0, 1], [], 0⟩, ⟨[], [], [], [], 0⟩, ⟨[], [], [], [], 0⟩, ⟨[(88, 5)], [], [0, 1], [], 0⟩, ⟨[(89, 6)], [], [0, 1], [], 0⟩, ⟨[], [], [0, 1], [], 0⟩, ⟨[], [], [], [], 0⟩, ⟨[(92, 9)], [], [0, 1], [], 0⟩, ⟨[(91, 8), (93, 10)], [], [0, 1], [], 0⟩, ⟨[(84, 1), (86, 3), (87, 4), (90, 7), (94, 11)], [], [], [], 0⟩, ⟨[(95, 12)], [], [], [], 1⟩, ⟨[(83, 0), (96, 13)], [], [0, 2], [1], 1⟩, ⟨[(97, 14)], [], [], [], 0⟩] (by kernel_rfl) rfl (by kernel_rfl) rfl rfl rfl fun KD hKD => ?_
          refine g ?_
          repeat' (first | refine st_ rfl (g ?_) | refine hold_ (g ?_) | exact trivial | refine cond_d (fun h => g ?_) (fun h => g ?_) | refine cond_ (fun h => g ?_) (fun h => g ?_) | (refine hKD _ _ ⟨rfl, g ?_⟩; clear hKD KD) | ((first | refine vops_ifd rfl rfl (fun h e => ?_) (fun h e => ?_) | refine vdraw_ifd rfl rfl (fun h e => ?_) (fun h e => ?_)) <;> simp only [e] <;> clear e <;> refine g ?_) | ((first | refine vops_if rfl rfl (fun h => ?_) (fun h => ?_) | refine vdraw_if rfl rfl (fun h => ?_) (fun h => ?_)) <;> simp only [h] <;> refine g ?_) | refine ix_ (by omega) (g ?_) | refine call_ (rscopyD si) rfl (g ?_) | refine call_ (rvsince_call v si iR) rfl (g ?_))
          refine bn1 (by omega) rfl (msg_as iM o1 o2) rfl ?_
          refine g ?_
          repeat' (first | refine hold_ (g ?_) | (refine hKD _ _ ⟨rfl, g ?_⟩; clear hKD KD) | exact trivial)
          refine append_own rfl (by kernel_rfl) (by omega) (by kernel_rfl) rfl (by simp; omega) ?_
          refine g ?_
          repeat' (first | refine st_ rfl (g ?_) | refine hold_ (g ?_) | exact trivial | refine cond_d (fun h => g ?_) (fun h => g ?_) | refine cond_ (fun h => g ?_) (fun h => g ?_) | (refine hKD _ _ ⟨rfl, g ?_⟩; clear hKD KD) | ((first | refine vops_ifd rfl rfl (fun h e => ?_) (fun h e => ?_) | refine vdraw_ifd rfl rfl (fun h e => ?_) (fun h e => ?_)) <;> simp only [e] <;> clear e <;> refine g ?_) | ((first | refine vops_if rfl rfl (fun h => ?_) (fun h => ?_) | refine vdraw_if rfl rfl (fun h => ?_) (fun h => ?_)) <;> simp only [h] <;> refine g ?_) | refine ix_ (by omega) (g ?_))
          refine ⟨RenI.yes ⟨i, a, hi, ha, hd, hm, ht⟩ _ hsl (by first | rfl | (simp at h; simp [dueB, h])), fun b => if b = 9900 then 9800 else b, ⟨⟨rfl, rfl, rfl, rfl, rfl, rfl, trivial⟩, ⟨congrArg (fun C => some (BA.row 3900 _ 7 C)) (row_next hd hlt rfl), congrArg (fun C => some (BA.row 9800 _ 12 C)) map_snoc, trivial⟩, by simp [idsOf, BA.id]⟩, by show l.length - (i + 1) < l.length - i; omega⟩)
  · obtain rfl : i = l.length := by have := of_decide_eq_false h; omega
    rw [List.take_length] at ha
    have hq2 : q = (a, 0) := by rw [← hq, ha]; rfl
    subst hq2
    refine AW.exit ?_
    simp only [reduceIte]
    refine AW.freeze 3900 _ rfl trivial ?_
    simp only [go_sem, reduceIte, Nat.reduceEqDiff]
    refine AW.freeze 9900 _ rfl trivial ?_
    simp only [go_sem, reduceIte, Nat.reduceEqDiff]
    rw [List.drop_length, List.append_nil]
    refine g ?_
    repeat' (first | refine st_ rfl (g ?_) | refine hold_ (g ?_) | exact trivial | refine cond_d (fun h => g ?_) (fun h => g ?_) | refine cond_ (fun h => g ?_) (fun h => g ?_) | (refine hKD _ _ ⟨rfl, g ?_⟩; clear hKD KD) | ((first | refine vops_ifd rfl rfl (fun h e => ?_) (fun h e => ?_) | refine vdraw_ifd rfl rfl (fun h e => ?_) (fun h e => ?_)) <;> simp only [e] <;> clear e <;> refine g ?_) | ((first | refine vops_if rfl rfl (fun h => ?_) (fun h => ?_) | refine vdraw_if rfl rfl (fun h => ?_) (fun h => ?_)) <;> simp only [h] <;> refine g ?_) | refine ix_ (by omega) (g ?_))
    exact Sub1.rfl_ _
end Go.Proofs.YtaiekfeiaamemaaGreatDoor
/- Whether two messages, two rows of messages are the same (the reference's). -/
namespace Go.Proofs.YtaiekfeiaamemaaGreatDoor
open Go.ChangeShapes Go.WideShapes Go.ChangeAt Go.RowKit
theorem str_eq {t : TypeId} {x y : Operand} {a b : ByteArray} {K : AV → Prop} (h : K (.val (.bool (decide (a = b))))) : binQ Tryz.prog .eql t x y (.val (.string a)) (.val (.string b)) K := ⟨_, fun w => by
  go_simp
  rw [ByteArray.toList_eq, ByteArray.toList_eq]
  by_cases e : a = b
  · simp [e]
  · rw [decide_eq_false e, beq_eq_false_iff_ne]
    exact fun h => e (bytes_inj h), h⟩
theorem strOf_inj : ∀ {a b : List Nat}, (∀ x ∈ a, x < 256) → (∀ x ∈ b, x < 256) → (strOf a = strOf b ↔ a = b) := fun {a b} ha hb => by
  refine ⟨fun h => ?_, fun h => h ▸ rfl⟩
  unfold strOf strOfNums at h
  injection h with h
  have h := congrArg Array.toList h
  simp only [List.map_map] at h
  have key : ∀ {a b : List Nat}, (∀ x ∈ a, x < 256) → (∀ x ∈ b, x < 256) → a.map (fun n => UInt8.ofNat n) = b.map (fun n => UInt8.ofNat n) → a = b := by
    intro a
    induction a with
    | nil => intro b _ _ h; cases b with
      | nil => rfl
      | cons _ _ => cases h
    | cons x a ih => intro b ha hb h; cases b with
      | nil => cases h
      | cons y b =>
        injection h with h1 h2
        have e := congrArg UInt8.toNat h1
        have p := ha x (by simp)
        have q := hb y (by simp)
        simp only [UInt8.toNat_ofNat'] at e
        rw [ih (fun z hz => ha z (by simp [hz])) (fun z hz => hb z (by simp [hz])) h2]
        congr 1
        omega
  exact key ha hb (by simpa [Function.comp_def] using h)
attribute [local irreducible] AW AWY vops vopsY vop vopL vdraw callW qop binQ lenQ storeQ appendQ callQ ACalls AIter setI
attribute [local go_sem] enMsg_eq msI_eq msA_eq boA_eq byI_eq storeQ_bp storeQ_rp
theorem by_lt {a : List Nat} (h : AV.okd (.iv (byI a))) : ∀ x ∈ a, x < 256 := fun x hx => by
  have h2 := okR_mem (by simpa [byI] using h.2) [IV.val (.int .u8 x)] (List.mem_map_of_mem (f := fun (b : Nat) => [IV.val (.int .u8 (b : Int))]) hx)
  have h3 : (Lit.int .u8 (x : Int)).wf = true := h2.2.1
  simp [Lit.wf, IntKind.max, IntKind.min, IntKind.signed, IntKind.bits] at h3
  omega
set_option maxRecDepth 100000 in
theorem rbysame_call (a b : List Nat) : ACalls Tryz.prog TzTab 38 [.iv (byI a), .iv (byI b)] (.val (.bool (decide (a = b)))) [] := by
  refine ACalls.of (n := 10) (rs := [.tmp 4]) Tryz.func38 rfl (by kernel_rfl) Tryz.ntmps38 (by kernel_rfl) (by simp) (fun _ _ => TzTab.later) ?_
  intro hok V w0
  obtain ⟨B, hB⟩ : ∃ B, decide (a = b) = B := ⟨_, rfl⟩
  rw [hB]
  refine g ?_
  repeat' (first | refine st_ rfl (g ?_) | refine hold_ (g ?_) | exact trivial | refine cond_d (fun h => g ?_) (fun h => g ?_) | refine cond_ (fun h => g ?_) (fun h => g ?_) | (refine hKD _ _ ⟨rfl, g ?_⟩; clear hKD KD) | ((first | refine vops_ifd rfl rfl (fun h e => ?_) (fun h e => ?_) | refine vdraw_ifd rfl rfl (fun h e => ?_) (fun h e => ?_)) <;> simp only [e] <;> clear e <;> refine g ?_) | ((first | refine vops_if rfl rfl (fun h => ?_) (fun h => ?_) | refine vdraw_if rfl rfl (fun h => ?_) (fun h => ?_)) <;> simp only [h] <;> refine g ?_) | refine ix_ (by omega) (g ?_))
  refine ⟨a, rfl, hold_ ?_⟩
  refine g ?_
  repeat' (first | refine st_ rfl (g ?_) | refine hold_ (g ?_) | exact trivial | refine cond_d (fun h => g ?_) (fun h => g ?_) | refine cond_ (fun h => g ?_) (fun h => g ?_) | (refine hKD _ _ ⟨rfl, g ?_⟩; clear hKD KD) | ((first | refine vops_ifd rfl rfl (fun h e => ?_) (fun h e => ?_) | refine vdraw_ifd rfl rfl (fun h e => ?_) (fun h e => ?_)) <;> simp only [e] <;> clear e <;> refine g ?_) | ((first | refine vops_if rfl rfl (fun h => ?_) (fun h => ?_) | refine vdraw_if rfl rfl (fun h => ?_) (fun h => ?_)) <;> simp only [h] <;> refine g ?_) | refine ix_ (by omega) (g ?_))
  refine ⟨b, rfl, hold_ ?_⟩
  refine g ?_
  repeat' (first | refine st_ rfl (g ?_) | refine hold_ (g ?_) | exact trivial | refine cond_d (fun h => g ?_) (fun h => g ?_) | refine cond_ (fun h => g ?_) (fun h => g ?_) | (refine hKD _ _ ⟨rfl, g ?_⟩; clear hKD KD) | ((first | refine vops_ifd rfl rfl (fun h e => ?_) (fun h e => ?_) | refine vdraw_ifd rfl rfl (fun h e => ?_) (fun h e => ?_)) <;> simp only [e] <;> clear e <;> refine g ?_) | ((first | refine vops_if rfl rfl (fun h => ?_) (fun h => ?_) | refine vdraw_if rfl rfl (fun h => ?_) (fun h => ?_)) <;> simp only [h] <;> refine g ?_) | refine ix_ (by omega) (g ?_))
  refine str_eq ?_
  refine g ?_
  repeat' (first | refine st_ rfl (g ?_) | refine hold_ (g ?_) | exact trivial | refine cond_d (fun h => g ?_) (fun h => g ?_) | refine cond_ (fun h => g ?_) (fun h => g ?_) | (refine hKD _ _ ⟨rfl, g ?_⟩; clear hKD KD) | ((first | refine vops_ifd rfl rfl (fun h e => ?_) (fun h e => ?_) | refine vdraw_ifd rfl rfl (fun h e => ?_) (fun h e => ?_)) <;> simp only [e] <;> clear e <;> refine g ?_) | ((first | refine vops_if rfl rfl (fun h => ?_) (fun h => ?_) | refine vdraw_if rfl rfl (fun h => ?_) (fun h => ?_)) <;> simp only [h] <;> refine g ?_) | refine ix_ (by omega) (g ?_))
  rw [← hB]
  exact decide_eq_decide.2 (strOf_inj (by_lt hok.1) (by_lt hok.2.1))
set_option maxRecDepth 100000 in
theorem rbosame_call (x y : Body) : ACalls Tryz.prog TzTab 44 [boA x, boA y] (.val (.bool (decide (x = y)))) [] := by
  refine ACalls.of (n := 24) (rs := [.tmp 4]) Tryz.func44 rfl (by kernel_rfl) Tryz.ntmps44 (by kernel_rfl) (by simp) (fun _ _ => TzTab.later) ?_
  intro hok V w0
  obtain ⟨B, hB⟩ : ∃ B, decide (x = y) = B := ⟨_, rfl⟩
  rw [hB]
  obtain ⟨xo, ⟨xc, xn⟩, xv⟩ := x
  obtain ⟨yo, ⟨yc, yn⟩, yv⟩ := y
  refine g ?_
  repeat' (first | refine st_ rfl (g ?_) | refine hold_ (g ?_) | exact trivial | refine cond_d (fun h => g ?_) (fun h => g ?_) | refine cond_ (fun h => g ?_) (fun h => g ?_) | (refine hKD _ _ ⟨rfl, g ?_⟩; clear hKD KD) | ((first | refine vops_ifd rfl rfl (fun h e => ?_) (fun h e => ?_) | refine vdraw_ifd rfl rfl (fun h e => ?_) (fun h e => ?_)) <;> simp only [e] <;> clear e <;> refine g ?_) | ((first | refine vops_if rfl rfl (fun h => ?_) (fun h => ?_) | refine vdraw_if rfl rfl (fun h => ?_) (fun h => ?_)) <;> simp only [h] <;> refine g ?_) | refine ix_ (by omega) (g ?_) | refine call_ (rbysame_call _ _) rfl (g ?_))
  · refine ⟨_, fun u => stamp_eq _ _ _ _ _ _ u, ?_⟩
    refine g ?_
    repeat' (first | refine st_ rfl (g ?_) | refine hold_ (g ?_) | exact trivial | refine cond_d (fun h => g ?_) (fun h => g ?_) | refine cond_ (fun h => g ?_) (fun h => g ?_) | (refine hKD _ _ ⟨rfl, g ?_⟩; clear hKD KD) | ((first | refine vops_ifd rfl rfl (fun h e => ?_) (fun h e => ?_) | refine vdraw_ifd rfl rfl (fun h e => ?_) (fun h e => ?_)) <;> simp only [e] <;> clear e <;> refine g ?_) | ((first | refine vops_if rfl rfl (fun h => ?_) (fun h => ?_) | refine vdraw_if rfl rfl (fun h => ?_) (fun h => ?_)) <;> simp only [h] <;> refine g ?_) | refine ix_ (by omega) (g ?_) | refine call_ (rbysame_call _ _) rfl (g ?_))
    · rw [← hB]
      have h3 : xc = yc ∧ xn = yn := by simpa using h
      rename_i h1
      rw [h1, h3.1, h3.2]
      simp
    · rw [← hB]
      refine (decide_eq_false ?_).symm
      intro e
      injection e with e1 e2 e3
      injection e2 with e4 e5
      simp [e4, e5] at h
  · rw [← hB]
    refine (decide_eq_false ?_).symm
    intro e
    injection e with e1
    exact h e1
set_option maxRecDepth 100000 in
set_option maxHeartbeats 1600000 in
theorem rmsame_two (x y : Msg) (e : x = y) : ACalls Tryz.prog TzTab 82 [msA x, msA y] (.val (.bool true)) [] := by
  refine ACalls.of (n := 66) (rs := [.tmp 4]) Tryz.func82 rfl (by kernel_rfl) Tryz.ntmps82 (by kernel_rfl) (by simp) (fun _ _ => TzTab.later) ?_
  intro hok V w0
  have h3 := rbosame_call x.body y.body
  rw [decide_eq_true (congrArg Msg.body e)] at h3
  obtain ⟨a1, a2, a3, a4, a5, a6, a7, a8, ⟨a9, ⟨b1, b2⟩, b3⟩⟩ := x
  obtain ⟨c1, c2, c3, c4, c5, c6, c7, c8, ⟨c9, ⟨d1, d2⟩, d3⟩⟩ := y
  injection e with e1 e2 e3 e4 e5 e6 e7 e8 e9
  subst e8
  refine g ?_
  repeat' (first | refine st_ rfl (g ?_) | refine hold_ (g ?_) | exact trivial | refine cond_d (fun h => g ?_) (fun h => g ?_) | refine cond_ (fun h => g ?_) (fun h => g ?_) | (refine hKD _ _ ⟨rfl, g ?_⟩; clear hKD KD) | ((first | refine vops_ifd rfl rfl (fun h e => ?_) (fun h e => ?_) | refine vdraw_ifd rfl rfl (fun h e => ?_) (fun h e => ?_)) <;> simp only [e] <;> clear e <;> refine g ?_) | ((first | refine vops_if rfl rfl (fun h => ?_) (fun h => ?_) | refine vdraw_if rfl rfl (fun h => ?_) (fun h => ?_)) <;> simp only [h] <;> refine g ?_) | refine ix_ (by omega) (g ?_) | refine call_ (rssame_call _ _) rfl (g ?_) | refine call_ (rvsame_call _ _) rfl (g ?_) | refine call_ (rall_call _) rfl (g ?_) | refine call_ (h3) rfl (g ?_))
  all_goals contradiction
theorem rmsame_call (x : Msg) : ACalls Tryz.prog TzTab 82 [msA x, msA x] (.val (.bool true)) [] := rmsame_two x x rfl
set_option maxRecDepth 100000 in
set_option maxHeartbeats 800000 in
theorem rmsgs_call (l : List Msg) : ACalls Tryz.prog TzTab 20 [.iv (msI l), .iv (msI l)] (.val (.bool true)) [] := by
  refine ACalls.of (n := 27) (rs := [.tmp 4]) Tryz.func20 rfl (by kernel_rfl) Tryz.ntmps20 (by kernel_rfl) (by simp) (fun _ _ => TzTab.later) ?_
  intro hok V w0
  have hlen : l.length ≤ 1073741824 := by simpa [msI] using hok.1.1
  refine g ?_
  repeat' (first | refine st_ rfl (g ?_) | refine hold_ (g ?_) | exact trivial | refine cond_d (fun h => g ?_) (fun h => g ?_) | refine cond_ (fun h => g ?_) (fun h => g ?_) | (refine hKD _ _ ⟨rfl, g ?_⟩; clear hKD KD) | ((first | refine vops_ifd rfl rfl (fun h e => ?_) (fun h e => ?_) | refine vdraw_ifd rfl rfl (fun h e => ?_) (fun h e => ?_)) <;> simp only [e] <;> clear e <;> refine g ?_) | ((first | refine vops_if rfl rfl (fun h => ?_) (fun h => ?_) | refine vdraw_if rfl rfl (fun h => ?_) (fun h => ?_)) <;> simp only [h] <;> refine g ?_) | refine ix_ (by omega) (g ?_))
  refine AW.loop (fun i : {i : Nat // i ≤ l.length} => ⟨[(0, .iv (msI l)), (1, .iv (msI l)), (5, .val (.int .i64 (i.1 : Nat)))], []⟩) (fun i => l.length - i.1) ⟨0, Nat.zero_le _⟩ id ⟨⟨rfl, rfl, rfl, trivial⟩, trivial, List.nodup_nil⟩ fun ⟨i, hi⟩ => ?_
  refine g ?_
  repeat' (first | refine st_ rfl (g ?_) | refine hold_ (g ?_) | exact trivial | refine cond_d (fun h => g ?_) (fun h => g ?_) | refine cond_ (fun h => g ?_) (fun h => g ?_) | (refine hKD _ _ ⟨rfl, g ?_⟩; clear hKD KD) | ((first | refine vops_ifd rfl rfl (fun h e => ?_) (fun h e => ?_) | refine vdraw_ifd rfl rfl (fun h e => ?_) (fun h e => ?_)) <;> simp only [e] <;> clear e <;> refine g ?_) | ((first | refine vops_if rfl rfl (fun h => ?_) (fun h => ?_) | refine vdraw_if rfl rfl (fun h => ?_) (fun h => ?_)) <;> simp only [h] <;> refine g ?_) | refine ix_ (by omega) (g ?_))
  have hlt : i < l.length := by omega
  have hg := get_map (f := enMsg) (List.getElem?_eq_getElem hlt)
  refine AW.drawn (ds := [17, 18, 19, 20, 21, 22, 23, 24, 25, 26]) (fin := []) (bs := [0, 0, 0, 0, 0, 0, 0, 0, 0, 0]) [⟨[], [], [], [], 0⟩, ⟨[], [], [], [], 0⟩, ⟨[(17, 0), (18, 1)], [], [], [], 0⟩, ⟨[(19, 2)], [], [], [], 0⟩, ⟨[], [], [], [], 0⟩, ⟨[], [], [], [], 0⟩, ⟨[(21, 4), (22, 5)], [], [], [], 0⟩, ⟨[(23, 6)], [], [], [], 0⟩, ⟨[(20, 3), (24, 7)], [], [], [], 0⟩, ⟨[(25, 8)], [], [], [], 0⟩] (by kernel_rfl) rfl (by kernel_rfl) rfl rfl rfl fun KD hKD => ?_
  refine g ?_
  repeat' (first | refine st_ rfl (g ?_) | refine hold_ (g ?_) | exact trivial | refine cond_d (fun h => g ?_) (fun h => g ?_) | refine cond_ (fun h => g ?_) (fun h => g ?_) | (refine hKD _ _ ⟨rfl, g ?_⟩; clear hKD KD) | ((first | refine vops_ifd rfl rfl (fun h e => ?_) (fun h e => ?_) | refine vdraw_ifd rfl rfl (fun h e => ?_) (fun h e => ?_)) <;> simp only [e] <;> clear e <;> refine g ?_) | ((first | refine vops_if rfl rfl (fun h => ?_) (fun h => ?_) | refine vdraw_if rfl rfl (fun h => ?_) (fun h => ?_)) <;> simp only [h] <;> refine g ?_) | refine ix_ (by omega) (g ?_) | refine call_ (rmsame_call _) rfl (g ?_))
  exact ⟨⟨i + 1, hlt⟩, id, ⟨⟨rfl, rfl, rfl, trivial⟩, trivial, List.nodup_nil⟩, by show l.length - (i + 1) < l.length - i; omega⟩
end Go.Proofs.YtaiekfeiaamemaaGreatDoor
/- Where the subscription of a node stands: the program's search. -/
namespace Go.Proofs.YtaiekfeiaamemaaGreatDoor
open Go.ChangeShapes Go.WideShapes Go.ChangeAt Go.RowKit

def isFrom (n : Int) (s : Sub) : Bool := decide (s.from_ = n)
theorem idxFrom_spec {α : Type} (p : α → Bool) : ∀ (l : List α) (i : Nat), (idxFrom p i l = -1 ∧ ∀ x ∈ l, p x = false) ∨ ∃ j x, l[j]? = some x ∧ p x = true ∧ idxFrom p i l = ((i + j : Nat) : Int) ∧ ∀ k y, k < j → l[k]? = some y → p y = false
  | [], i => .inl ⟨rfl, fun x h => by cases h⟩
  | x :: l, i => by
    by_cases h : p x = true
    · refine .inr ⟨0, x, rfl, h, by simp [idxFrom, h], fun k y hk => by omega⟩
    · have h' : p x = false := by simpa using h
      rcases idxFrom_spec p l (i + 1) with ⟨h1, h2⟩ | ⟨j, y, h1, h2, h3, h4⟩
      · refine .inl ⟨by simp [idxFrom, h', h1], fun y hy => ?_⟩
        rcases List.mem_cons.1 hy with rfl | hy
        · exact h'
        · exact h2 y hy
      · refine .inr ⟨j + 1, y, by simpa using h1, h2, by simp [idxFrom, h', h3]; omega, fun k z hk hz => ?_⟩
        cases k with
        | zero => simp at hz; subst hz; exact h'
        | succ k => exact h4 k z (by omega) (by simpa using hz)

theorem sessionFrom1 (n yf ys yq : Int) (A : Option Addr) (k cp : Nat) (yl yh yd : Bool) (B : Nat) (w : World) (h : w.cell? ⟨B, 0, none⟩ = some (.int .i64 n)) :
    Calls Tryz.prog 218 #[.agg #[.int .i64 yf, .slice A k cp, .int .i64 ys, .int .i64 yq, .bool yl, .bool yh, .bool yd], .pointer (some ⟨B, 0, none⟩)] w fun e w' => e = .returned (.bool (decide (yf = n))) ∧ Below w.heap.size w w' := by
  have c0 := kept_cell (balloc (o := .cells #[.int .i64 yf, .slice A k cp, .int .i64 ys, .int .i64 yq, .bool yl, .bool yh, .bool yd] 123) (Below.refl _ w)) h
  have hB := World.block_lt_of_cell? _ _ h
  simp only at hB
  go_enter Tryz.func218, Tryz.ntmps218
  go_wp2_with fail
  all_goals
    go_ret
    refine ⟨ret_bool (Bool.eq_iff_iff.2 ?_), balloc (Below.refl _ _)⟩
    simp

def fromFn (B : Nat) : Value := .func (.func 218) #[] #[.pointer (some ⟨B, 0, none⟩)]

set_option maxRecDepth 100000 in
theorem subsIndexFunc (n : Int) (l : List Sub) (B : Nat) (v : Value) (w : World) (h : Subs w w.heap.size v l) (ho : w.cell? ⟨B, 0, none⟩ = some (.int .i64 n)) :
    Calls Tryz.prog 217 #[v, fromFn B] w fun e w' => e = .returned (.int .i64 (idxFrom (isFrom n) 0 l)) ∧ Below w.heap.size w w' := by
  have hle := h.len_le
  obtain ⟨A, c, rfl, -⟩ := id h
  have Ho := Lib.hid ho
  have HH := Lib.hid h
  clear ho h
  unfold fromFn
  go_enter Tryz.func217, Tryz.ntmps217
  go_wp2_with fail
  go_loopw [8] (fun k wr => ∃ (m : Nat) (z : BW w), m ≤ l.length ∧ k = .int .i64 m ∧ idxFrom (isFrom n) 0 l = idxFrom (isFrom n) m (l.drop m) ∧ wr = z.val) (fun k _ => l.length - (intOf k).toNat)
  case atStart => exact ⟨0, BW.self w, Nat.zero_le _, rfl, rfl, rfl⟩
  case round =>
    obtain ⟨m, z, hm, rfl, hv, rfl⟩ := hrel
    by_cases hlt : m < l.length
    · obtain ⟨y, hy⟩ : ∃ y, l[m]? = some y := ⟨l[m], List.getElem?_eq_getElem hlt⟩
      obtain ⟨b, off, _, vi, hv', hbb, e0, e1, e2, e3, e4, e5, e6, hs, -, -, -⟩ := subs_at (HH.out.next z.below) hy
      injection hv' with hv1 hv2 hv3
      subst hv1
      rw [drop_cons hy, idxFrom] at hv
      obtain ⟨yf, yi, ys, yq, yl, yh, yd⟩ := y
      obtain ⟨A4, c4, rfl, -⟩ := id hs
      unfold isFrom at hv
      simp only at e0 e1 e2 e3 e4 e5 e6 hv
      have HC := Lib.hid (sessionFrom1 n yf ys yq A4 yi.length c4 yl yh yd B z.val (z.cell Ho.out))
      generalize decide (yf = n) = r at hv HC
      have HV := Lib.hid hv
      clear hv hv2 hv3 hy hs
      go_wp2_with fail
      refine BW.call (z := z) HC.out ?_
      clear HC e0 e1 e2 e3 e4 e5 e6
      intro z1
      cases r <;> go_wp2_with fail
      · refine ⟨⟨m + 1, z1, by omega, by go_num, ?_, rfl⟩, by simp [intOf]; omega⟩
        exact HV.out.trans (by rw [if_neg (by simp)]; rfl)
      · go_ret
        exact ⟨ret_int (HV.out.trans (by simp)).symm, z1.below⟩
    · obtain rfl : m = l.length := by omega
      rw [List.drop_length] at hv
      have HV := Lib.hid hv
      clear hv
      go_wp2_with fail
      go_ret
      exact ⟨ret_int HV.out.symm, z.below⟩

theorem sessionFrom (n : Int) (l : List Sub) (v : Value) (w : World) (h : Subs w w.heap.size v l) :
    Calls Tryz.prog 161 #[v, .int .i64 n] w fun e w' => e = .returned (.int .i64 (idxFrom (isFrom n) 0 l)) ∧ Below w.heap.size w w' := by
  have kB := balloc (o := .cells #[.int .i64 n] 3) (Below.refl _ w)
  have HC := Lib.hid (subsIndexFunc n l w.heap.size v _ (h.next kB) ((Blk.new w 3 #[.int .i64 n]).cell 0))
  generalize idxFrom (isFrom n) 0 l = k at HC ⊢
  unfold fromFn at HC
  obtain ⟨A, c, rfl, -⟩ := id h
  clear h
  go_enter Tryz.func161, Tryz.ntmps161
  go_wp2_with fail
  refine BW.call (z := (BW.self w).alloc _) HC.out ?_
  intro z
  go_wp2_with fail
  go_ret
  exact ⟨rfl, z.below⟩
end Go.Proofs.YtaiekfeiaamemaaGreatDoor
/- What a formed message is; small tests. -/
namespace Go.Proofs.YtaiekfeiaamemaaGreatDoor
open Go.ChangeShapes Go.WideShapes Go.ChangeAt Go.RowKit

def bodyFormed (x : Body) : Bool := decide (0 ≤ x.object ∧ x.object ≤ 255) && rightB x.stamp.count x.stamp.node && decide (x.value.length ≤ 256)
def bodyEmpty (x : Body) : Bool := decide (x.stamp.count = 0 ∧ x.stamp.node = 0) && decide (x.value.length = 0)
def msgRest (m : Msg) : Bool := decide (m.interest.length = 0 ∧ m.vector.length = 0 ∧ m.notes.length = 0 ∧ m.session = 0 ∧ m.seq = 0)
def msgFormed (m : Msg) : Bool :=
  nodeB m.from_ && nodeB m.to_ &&
  (if m.kind = 1 then decide (0 ≤ m.session ∧ m.seq = 0 ∧ m.notes.length = 0 ∧ m.body.object = 0 ∧ 0 < m.interest.length) && bodyEmpty m.body && spanFormed m.interest && vecFormed m.vector
   else if m.kind = 3 then decide (m.notes.length ≤ 257 ∧ 0 ≤ m.session ∧ 0 ≤ m.seq ∧ m.interest.length = 0 ∧ m.vector.length = 0 ∧ m.body.object = 0) && bodyEmpty m.body && m.notes.all noteFormed
   else msgRest m && (if m.kind = 2 then decide (m.body.object = 0) && bodyEmpty m.body else if m.kind = 4 then decide (0 ≤ m.body.object ∧ m.body.object ≤ 255) && bodyEmpty m.body else if m.kind = 5 then bodyFormed m.body else false))

theorem wireNode (n : Int) (w : World) : Calls Tryz.prog 215 #[.int .i64 n] w fun e w' => e = .returned (.bool (nodeB n)) ∧ w = w' := by
  go_enter Tryz.func215, Tryz.ntmps215
  go_wp2_with fail
  all_goals (go_ret; refine ⟨ret_bool (Bool.eq_iff_iff.2 ?_), rfl⟩; (simp [nodeB] <;> omega))


theorem wireRight (o c n : Int) (A : Option Addr) (k cp : Nat) (w : World) (hk : k ≤ 1073741824) :
    Calls Tryz.prog 216 #[.agg #[.int .i64 o, .int .i64 c, .int .i64 n, .slice A k cp]] w fun e w' => e = .returned (.bool (decide (0 ≤ o ∧ o ≤ 255) && rightB c n && decide (k ≤ 256))) ∧ Below w.heap.size w w' := by
  generalize hr : rightB c n = r
  have HR := Lib.hid hr
  clear hr
  by_cases ho : 0 ≤ o ∧ o ≤ 255
  · rw [decide_eq_true ho]
    obtain ⟨h1, h2⟩ := ho
    have h3 : o < 256 := by omega
    go_enter Tryz.func216, Tryz.ntmps216
    go_wp2_with fail
    have kB := balloc (o := .cells #[.int .i64 o, .int .i64 c, .int .i64 n, .slice A k cp] 66) (Below.refl _ w)
    have B := Blk.new w 66 #[.int .i64 o, .int .i64 c, .int .i64 n, .slice A k cp]
    generalize hW : w.alloc _ = W at *
    have B3 := Lib.hid (B.cell 3)
    have q3 : ∀ z : BW W, z.val.cell? ⟨w.heap.size, 3, none⟩ = some (.slice A k cp) := fun z => z.cell B3.out
    clear hW B
    refine BW.start (w := W) ?_
    intro z
    refine BW.callR (z := z) (stampRight _ _ _) (congrArg Value.bool HR.out) ?_
    clear z
    intro z
    cases r
    · go_wp2_with fail
      go_ret
      exact ⟨rfl, bnext kB z.below⟩
    · go_wp2_with fail
      go_ret
      exact ⟨ret_bool (Bool.eq_iff_iff.2 (by simp <;> omega)), bnext kB z.below⟩
  · rw [decide_eq_false ho]
    go_enter Tryz.func216, Tryz.ntmps216
    go_wp2_with fail
    all_goals first | (go_ret; exact ⟨ret_bool (Bool.eq_iff_iff.2 (by simp <;> omega)), balloc (Below.refl _ _)⟩) | (exfalso; simp at *; omega)
end Go.Proofs.YtaiekfeiaamemaaGreatDoor
/- What hearing a message and failing a session come to. -/
namespace Go.Proofs.YtaiekfeiaamemaaGreatDoor
open Go.ChangeShapes Go.WideShapes Go.ChangeAt Go.RowKit

theorem findIdx_some {α : Type} {p : α → Bool} {l : List α} {i : Nat} {x : α} (h : l[i]? = some x) (hp : p x = true) (hn : ∀ k y, k < i → l[k]? = some y → p y = false) : l.findIdx? p = some i := by
  obtain ⟨h1, h2⟩ := List.getElem?_eq_some_iff.1 h
  rw [List.findIdx?_eq_some_iff_getElem]
  refine ⟨h1, by rw [h2]; exact hp, fun j hj => ?_⟩
  rw [hn j l[j] hj (List.getElem?_eq_getElem (by omega))]
  simp
theorem findIdx_none {α : Type} {p : α → Bool} {l : List α} (h : ∀ x ∈ l, p x = false) : l.findIdx? p = none := by
  rw [List.findIdx?_eq_none_iff]
  exact h
def isSess (m : Msg) (s : Sub) : Bool := decide (s.from_ = m.from_) && decide (s.session = m.session)
def subHear (m : Msg) (s : Sub) : Sub := { s with seq := nextN m.seq, live := true, heard := true, idle := decide (m.notes.length = 0) }
def hearOk (l : List Sub) (m : Msg) : Bool := subsFormed l && msgFormed m && decide (m.kind = 3)
def hearAt (l : List Sub) (m : Msg) (i : Nat) (s : Sub) : List Sub × Int := if m.seq < s.seq then ([], 13) else if s.seq < m.seq then ([], 3) else (l.set i (subHear m s), 0)
def hearS (l : List Sub) (m : Msg) : List Sub × Int :=
  if hearOk l m = true then (match l.findIdx? (isSess m) with
    | none => ([], 13)
    | some i => match l[i]? with
      | none => ([], 13)
      | some s => hearAt l m i s) else ([], 1)
theorem hearS_bad {l : List Sub} {m : Msg} (h : hearOk l m = false) : hearS l m = ([], 1) := by rw [hearS, if_neg (by simp [h])]
theorem hearS_at {l : List Sub} {m : Msg} {i : Nat} {x : Sub} (hf : hearOk l m = true) (h : l[i]? = some x) (hp : isSess m x = true) (hn : ∀ k y, k < i → l[k]? = some y → isSess m y = false) : hearS l m = hearAt l m i x := by
  rw [hearS, if_pos hf, findIdx_some h hp hn]
  simp only [h]
theorem hearS_none {l : List Sub} {m : Msg} (hf : hearOk l m = true) (h : ∀ x ∈ l, isSess m x = false) : hearS l m = ([], 13) := by
  rw [hearS, if_pos hf, findIdx_none h]
/-- nodes rise, so that each stands once -/
theorem subsFrom_above : ∀ {l : List Sub} {e : Int}, subsFrom e l = true → ∀ {x : Sub}, x ∈ l → e < x.from_
  | [], _, _, _, hx => by cases hx
  | y :: l, e, h, x, hx => by
    simp only [subsFrom, Bool.and_eq_true, decide_eq_true_eq] at h
    rcases List.mem_cons.1 hx with rfl | hx
    · exact h.1.1.1.1
    · have := subsFrom_above h.2 hx
      omega
theorem subsFrom_once : ∀ {l : List Sub} {e : Int}, subsFrom e l = true → ∀ {i j : Nat} {x y : Sub}, l[i]? = some x → l[j]? = some y → x.from_ = y.from_ → i = j
  | [], _, _, i, _, _, _, h, _, _ => by simp at h
  | z :: l, e, h, i, j, x, y, hx, hy, he => by
    simp only [subsFrom, Bool.and_eq_true, decide_eq_true_eq] at h
    cases i with
    | zero =>
      cases j with
      | zero => rfl
      | succ j =>
        simp at hx hy
        subst hx
        have := subsFrom_above h.2 (List.mem_of_getElem? hy)
        omega
    | succ i =>
      cases j with
      | zero =>
        simp at hx hy
        subst hy
        have := subsFrom_above h.2 (List.mem_of_getElem? hx)
        omega
      | succ j => exact congrArg (· + 1) (subsFrom_once h.2 (i := i) (j := j) (x := x) (y := y) (by simpa using hx) (by simpa using hy) he)
theorem subsFormed_num {l : List Sub} (h : subsFormed l = true) {x : Sub} (hx : x ∈ l) : numB x.seq = true ∧ numB x.session = true ∧ nodeB x.from_ = true := by
  have : ∀ {l : List Sub} {e : Int}, subsFrom e l = true → x ∈ l → numB x.seq = true ∧ numB x.session = true ∧ nodeB x.from_ = true := by
    intro l
    induction l with
    | nil => intro e _ hx; cases hx
    | cons y l ih =>
      intro e h hx
      simp only [subsFrom, Bool.and_eq_true] at h
      rcases List.mem_cons.1 hx with rfl | hx
      · exact ⟨h.1.2, h.1.1.2, h.1.1.1.2.1⟩
      · exact ih h.2 hx
  simp only [subsFormed, Bool.and_eq_true] at h
  exact this h.1 hx
theorem sess_none {l : List Sub} {m : Msg} {i : Nat} {x : Sub} (hf : subsFormed l = true) (h : l[i]? = some x) (h1 : x.from_ = m.from_) (h2 : ¬ x.session = m.session) : ∀ y ∈ l, isSess m y = false := by
  intro y hy
  simp only [subsFormed, Bool.and_eq_true] at hf
  obtain ⟨j, hj⟩ := List.mem_iff_getElem?.1 hy
  by_cases e : y.from_ = m.from_
  · have := subsFrom_once hf.1 h hj (by rw [h1, e])
    subst this
    rw [h] at hj
    injection hj with hj
    subst hj
    simp [isSess, h2]
  · simp [isSess, e]

/-- a list of subscriptions and a number of an error come back; the list lies in what V shows and in new blocks -/
def RetSubs (r : List Sub × Int) (V w : World) (e : Ending) (w' : World) : Prop := ∃ v, e = .returned (.tuple #[v, .int .i64 r.2]) ∧ Subs (mixW V w w') (mixW V w w').heap.size v r.1 ∧ Below w.heap.size w w'
theorem RetSubs.nil_ {n : Int} {r : List Sub × Int} {V w w' : World} (hr : r = ([], n)) (hb : Below w.heap.size w w') : RetSubs r V w (.returned (.tuple #[.slice none 0 0, .int .i64 n])) w' := by
  subst hr
  exact ⟨_, rfl, Sl.nil_ (by unfold maxLen; omega) _, hb⟩
end Go.Proofs.YtaiekfeiaamemaaGreatDoor
/- A session fails: the program's and the reference's. -/
namespace Go.Proofs.YtaiekfeiaamemaaGreatDoor
open Go.ChangeShapes Go.WideShapes Go.ChangeAt Go.RowKit

theorem OwnSubs.setB {V w0 w : World} {base : Nat} {e : TypeId} {g c i j : Nat} {l : List Sub} {u : Value} {x x' : Sub} (h : OwnSubs V w0 w base e (.slice (some ⟨g, 0, none⟩) l.length c) l) (hi : l[i]? = some x) (hj : j < 7)
    (hR : ∀ W cs, SubR W W.heap.size cs x → cs.length = 7 → SubR W W.heap.size (cs.set j u) x') : OwnSubs V w0 (w.setCell ⟨g, i * 7 + j, none⟩ u) base e (.slice (some ⟨g, 0, none⟩) (l.set i x').length c) (l.set i x') :=
  OwnN.set_ h hi hj fun cs => hR _ cs


end Go.Proofs.YtaiekfeiaamemaaGreatDoor
/- Contract of the program's test of a message that subscribes. -/
namespace Go.Proofs.YtaiekfeiaamemaaGreatDoor
open Go.ChangeShapes Go.WideShapes Go.ChangeAt Go.RowKit

set_option maxRecDepth 100000 in
set_option maxHeartbeats 1600000 in
theorem wireFormed1 (x : Msg) (vi vv vn vb : Value) (w : World) (hI : MsgI x) (h : MsgV w w.heap.size vi vv vn vb x) (hT : TzTab w) (k1 : x.kind = 1) :
    Calls Tryz.prog 160 #[.agg #[.int .i64 x.kind, .int .i64 x.from_, .int .i64 x.to_, .int .i64 x.session, .int .i64 x.seq, vi, vv, vn, .int .i64 x.body.object, .int .i64 x.body.stamp.count, .int .i64 x.body.stamp.node, vb]] w fun e w' => e = .returned (.bool (msgFormed x)) ∧ Below w.heap.size w w' := by
  have hl1 := h.interest.len_le
  have hl2 := h.vector.len_le
  have hl3 := h.notes.len_le
  have hl4 := h.value.len_le
  obtain ⟨A1, c1, rfl, -⟩ := id h.interest
  obtain ⟨A2, c2, rfl, -⟩ := id h.vector
  obtain ⟨A3, c3, rfl, -⟩ := id h.notes
  obtain ⟨A4, c4, rfl, -⟩ := id h.value
  have HH := Lib.hid h
  have HT := Lib.hid hT
  clear h hT
  obtain ⟨kd, fr, tt, se, sq, li, lv, ln, ⟨bo, ⟨bc, bn⟩, lb⟩⟩ := x
  dsimp only at *
  unfold msgFormed
  dsimp only
  generalize hv : (nodeB fr && nodeB tt && _ : Bool) = V
  unfold msgRest bodyFormed bodyEmpty at hv
  dsimp only at hv
  generalize hr1 : nodeB fr = r1 at hv
  generalize hr2 : nodeB tt = r2 at hv
  have HE := Lib.hid (rfl : ln = ln)
  generalize hn1 : li.length = n1 at *
  generalize hn2 : lv.length = n2 at *
  generalize hn3 : ln.length = n3 at *
  generalize hn4 : lb.length = n4 at *
  have HV := Lib.hid hv
  have HN1 := Lib.hid hn1
  have HN2 := Lib.hid hn2
  have HN3 := Lib.hid hn3
  have H1 := Lib.hid hr1
  have H2 := Lib.hid hr2
  clear hr1 hr2 hv hn1 hn2 hn3 hn4 hI
  subst k1
  go_enter Tryz.func160, Tryz.ntmps160
  go_wp2_with fail
  refine BW.sameR (wireNode _ _) (congrArg Value.bool H1.out) ?_
  cases r1
  · go_wp2_with fail
    go_ret
    exact ⟨ret_bool (by rw [← HV.out]; simp), balloc (Below.refl _ _)⟩
  go_wp2_with fail
  refine BW.sameR (wireNode _ _) (congrArg Value.bool H2.out) ?_
  cases r2
  · go_wp2_with fail
    go_ret
    exact ⟨ret_bool (by rw [← HV.out]; simp), balloc (Below.refl _ _)⟩
  clear H1 H2
  by_cases hok : 0 ≤ se ∧ sq = 0 ∧ n3 = 0 ∧ bo = 0 ∧ 0 < n1 ∧ bc = 0 ∧ bn = 0 ∧ n4 = 0
  · obtain ⟨q1, rfl, rfl, rfl, q2, rfl, rfl, rfl⟩ := hok
    generalize hr1 : spanFormed li = r1 at HV
    generalize hr2 : vecFormed lv = r2 at HV
    have H1 := Lib.hid hr1
    have H2 := Lib.hid hr2
    have HW := Lib.hid (show V = (r1 && r2) by rw [← HV.out]; simp [q1, q2])
    clear HV hr1 hr2
    go_wp2_with fail
    have kB := balloc (o := .cells #[.int .i64 1, .int .i64 fr, .int .i64 tt, .int .i64 se, .int .i64 0, .slice A1 n1 c1, .slice A2 n2 c2, .slice A3 0 c3, .int .i64 0, .int .i64 0, .int .i64 0, .slice A4 0 c4] 114) (Below.refl _ w)
    have B := Blk.new w 114 #[.int .i64 1, .int .i64 fr, .int .i64 tt, .int .i64 se, .int .i64 0, .slice A1 n1 c1, .slice A2 n2 c2, .slice A3 0 c3, .int .i64 0, .int .i64 0, .int .i64 0, .slice A4 0 c4]
    generalize hW : w.alloc _ = W at *
    have B5 := Lib.hid (B.cell 5)
    have B6 := Lib.hid (B.cell 6)
    have q6 : ∀ z : BW W, z.val.cell? ⟨w.heap.size, 6, none⟩ = some (.slice A2 n2 c2) := fun z => z.cell B6.out
    clear hW B
    refine BW.start (w := W) ?_
    intro z
    refine BW.callR (z := z) (spanFormedWalk li _ _ ((HH.out.next kB).next z.below).interest) (congrArg Value.bool H1.out) ?_
    clear z
    intro z
    cases r1
    · go_wp2_with fail
      go_ret
      exact ⟨ret_bool (by rw [HW.out]; rfl), bnext kB z.below⟩
    go_wp2_with fail
    refine BW.callR (z := z) (vectorFormed lv _ _ ((HH.out.next kB).next z.below).vector) (congrArg Value.bool H2.out) ?_
    clear z
    intro z
    go_wp2_with fail
    go_ret
    exact ⟨ret_bool (by rw [HW.out]; rfl), bnext kB z.below⟩
  · obtain rfl : V = false := by
      rw [← HV.out]
      simp
      omega
    go_wp2_with fail
    all_goals first | (go_ret; exact ⟨rfl, balloc (Below.refl _ _)⟩) | (exfalso; simp at *; omega)

end Go.Proofs.YtaiekfeiaamemaaGreatDoor
/- Contract of the program's test of a message of notes. -/
namespace Go.Proofs.YtaiekfeiaamemaaGreatDoor
open Go.ChangeShapes Go.WideShapes Go.ChangeAt Go.RowKit

set_option maxRecDepth 100000 in
set_option maxHeartbeats 1600000 in
theorem wireFormed3 (x : Msg) (vi vv vn vb : Value) (w : World) (hI : MsgI x) (h : MsgV w w.heap.size vi vv vn vb x) (hT : TzTab w) (k3 : x.kind = 3) :
    Calls Tryz.prog 160 #[.agg #[.int .i64 x.kind, .int .i64 x.from_, .int .i64 x.to_, .int .i64 x.session, .int .i64 x.seq, vi, vv, vn, .int .i64 x.body.object, .int .i64 x.body.stamp.count, .int .i64 x.body.stamp.node, vb]] w fun e w' => e = .returned (.bool (msgFormed x)) ∧ Below w.heap.size w w' := by
  have hl1 := h.interest.len_le
  have hl2 := h.vector.len_le
  have hl3 := h.notes.len_le
  have hl4 := h.value.len_le
  obtain ⟨A1, c1, rfl, -⟩ := id h.interest
  obtain ⟨A2, c2, rfl, -⟩ := id h.vector
  obtain ⟨A3, c3, rfl, -⟩ := id h.notes
  obtain ⟨A4, c4, rfl, -⟩ := id h.value
  have HH := Lib.hid h
  have HT := Lib.hid hT
  clear h hT
  obtain ⟨kd, fr, tt, se, sq, li, lv, ln, ⟨bo, ⟨bc, bn⟩, lb⟩⟩ := x
  dsimp only at *
  unfold msgFormed
  dsimp only
  generalize hv : (nodeB fr && nodeB tt && _ : Bool) = V
  unfold msgRest bodyFormed bodyEmpty at hv
  dsimp only at hv
  generalize hr1 : nodeB fr = r1 at hv
  generalize hr2 : nodeB tt = r2 at hv
  have HE := Lib.hid (rfl : ln = ln)
  generalize hn1 : li.length = n1 at *
  generalize hn2 : lv.length = n2 at *
  generalize hn3 : ln.length = n3 at *
  generalize hn4 : lb.length = n4 at *
  have HV := Lib.hid hv
  have HN1 := Lib.hid hn1
  have HN2 := Lib.hid hn2
  have HN3 := Lib.hid hn3
  have H1 := Lib.hid hr1
  have H2 := Lib.hid hr2
  clear hr1 hr2 hv hn1 hn2 hn3 hn4 hI
  subst k3
  go_enter Tryz.func160, Tryz.ntmps160
  go_wp2_with fail
  refine BW.sameR (wireNode _ _) (congrArg Value.bool H1.out) ?_
  cases r1
  · go_wp2_with fail
    go_ret
    exact ⟨ret_bool (by rw [← HV.out]; simp), balloc (Below.refl _ _)⟩
  go_wp2_with fail
  refine BW.sameR (wireNode _ _) (congrArg Value.bool H2.out) ?_
  cases r2
  · go_wp2_with fail
    go_ret
    exact ⟨ret_bool (by rw [← HV.out]; simp), balloc (Below.refl _ _)⟩
  clear H1 H2
  by_cases hok : n3 ≤ 257 ∧ 0 ≤ se ∧ 0 ≤ sq ∧ n1 = 0 ∧ n2 = 0 ∧ bo = 0 ∧ bc = 0 ∧ bn = 0 ∧ n4 = 0
  · obtain ⟨q1, q2, q3, rfl, rfl, rfl, rfl, rfl, rfl⟩ := hok
    have HW := Lib.hid (show V = ln.all noteFormed by rw [← HV.out]; simp [q1, q2, q3])
    clear HV
    have HB := Lib.hid hl3
    go_wp2_with fail
    have kB := balloc (o := .cells #[.int .i64 3, .int .i64 fr, .int .i64 tt, .int .i64 se, .int .i64 sq, .slice A1 0 c1, .slice A2 0 c2, .slice A3 n3 c3, .int .i64 0, .int .i64 0, .int .i64 0, .slice A4 0 c4] 114) (Below.refl _ w)
    go_loopw [115] (fun i wr => ∃ (m : Nat) (z : BW w), m ≤ n3 ∧ i = .int .i64 m ∧ ln.all noteFormed = (ln.drop m).all noteFormed ∧ wr = z.val) (fun i _ => n3 - (intOf i).toNat)
    case atStart => exact ⟨0, ⟨_, kB⟩, Nat.zero_le _, rfl, rfl, rfl⟩
    case round =>
      obtain ⟨m, z, hm, rfl, hv, rfl⟩ := hrel
      by_cases hlt : m < n3
      · obtain ⟨y, hy⟩ : ∃ y, ln[m]? = some y := ⟨ln[m]'(by rw [HN3.out]; exact hlt), List.getElem?_eq_getElem (by rw [HN3.out]; exact hlt)⟩
        obtain ⟨b, off, c', v0, v1, v2, v3, hv', hbb, e0, e1, e2, e3, hn⟩ := notes_at HH.out.notes hy
        rw [HN3.out] at hv'
        injection hv' with hv1 hv2 hv3
        rw [drop_cons hy, List.all_cons] at hv
        subst hv1
        replace e0 := z.cell e0
        replace e1 := z.cell e1
        replace e2 := z.cell e2
        replace e3 := z.cell e3
        obtain ⟨a0, d0, rfl, -⟩ := id hn.start
        obtain ⟨a1, d1, rfl, -⟩ := id hn.end_
        obtain ⟨a2, d2, rfl, -⟩ := id hn.blur
        obtain ⟨a3, d3, rfl, -⟩ := id hn.writes
        generalize hr : noteFormed y = r at hv
        have HR := Lib.hid hr
        have HY := Lib.hid hv
        have HQ := Lib.hid hn
        clear hv hv2 hv3 hr hy hn kB
        generalize hs0 : y.start.length = s0 at *
        generalize hs1 : y.end_.length = s1 at *
        generalize hs2 : y.blur.length = s2 at *
        generalize hs3 : y.writes.length = s3 at *
        clear hs0 hs1 hs2 hs3
        go_wp2_with fail
        refine BW.callR (z := z.alloc _) (noteFormedWalk y _ _ _ _ _ (HQ.out.next (z.alloc _).below) (HT.out.next (z.alloc _).below)) (congrArg Value.bool HR.out) ?_
        intro z1
        clear e0 e1 e2 e3
        cases r
        · go_wp2_with fail
          go_ret
          exact ⟨ret_bool (by rw [HW.out, HY.out]; rfl), z1.below⟩
        · go_wp2_with fail
          refine ⟨⟨m + 1, z1, by omega, by go_num, ?_, rfl⟩, by simp [intOf]; omega⟩
          rw [HY.out]; rfl
      · obtain rfl : m = n3 := by omega
        have HX := Lib.hid (show V = true by rw [HW.out, hv, List.drop_of_length_le (by rw [HN3.out]; exact Nat.le_refl _)]; rfl)
        clear hv
        go_wp2_with fail
        go_ret
        exact ⟨ret_bool HX.out.symm, z.below⟩
  · obtain rfl : V = false := by
      rw [← HV.out]
      simp
      omega
    go_wp2_with fail
    all_goals first | (go_ret; exact ⟨rfl, balloc (Below.refl _ _)⟩) | (exfalso; simp at *; omega)

end Go.Proofs.YtaiekfeiaamemaaGreatDoor
/- Contract of the program's test of a message of another kind. -/
namespace Go.Proofs.YtaiekfeiaamemaaGreatDoor
open Go.ChangeShapes Go.WideShapes Go.ChangeAt Go.RowKit

set_option maxRecDepth 100000 in
set_option maxHeartbeats 1600000 in
theorem wireFormed0 (x : Msg) (vi vv vn vb : Value) (w : World) (hI : MsgI x) (h : MsgV w w.heap.size vi vv vn vb x) (hT : TzTab w) (k1 : ¬ x.kind = 1) (k3 : ¬ x.kind = 3) :
    Calls Tryz.prog 160 #[.agg #[.int .i64 x.kind, .int .i64 x.from_, .int .i64 x.to_, .int .i64 x.session, .int .i64 x.seq, vi, vv, vn, .int .i64 x.body.object, .int .i64 x.body.stamp.count, .int .i64 x.body.stamp.node, vb]] w fun e w' => e = .returned (.bool (msgFormed x)) ∧ Below w.heap.size w w' := by
  have hl1 := h.interest.len_le
  have hl2 := h.vector.len_le
  have hl3 := h.notes.len_le
  have hl4 := h.value.len_le
  obtain ⟨A1, c1, rfl, -⟩ := id h.interest
  obtain ⟨A2, c2, rfl, -⟩ := id h.vector
  obtain ⟨A3, c3, rfl, -⟩ := id h.notes
  obtain ⟨A4, c4, rfl, -⟩ := id h.value
  have HH := Lib.hid h
  have HT := Lib.hid hT
  clear h hT
  obtain ⟨kd, fr, tt, se, sq, li, lv, ln, ⟨bo, ⟨bc, bn⟩, lb⟩⟩ := x
  dsimp only at *
  unfold msgFormed
  dsimp only
  generalize hv : (nodeB fr && nodeB tt && _ : Bool) = V
  unfold msgRest bodyFormed bodyEmpty at hv
  dsimp only at hv
  generalize hr1 : nodeB fr = r1 at hv
  generalize hr2 : nodeB tt = r2 at hv
  have HE := Lib.hid (rfl : ln = ln)
  generalize hn1 : li.length = n1 at *
  generalize hn2 : lv.length = n2 at *
  generalize hn3 : ln.length = n3 at *
  generalize hn4 : lb.length = n4 at *
  have HV := Lib.hid hv
  have HN1 := Lib.hid hn1
  have HN2 := Lib.hid hn2
  have HN3 := Lib.hid hn3
  have H1 := Lib.hid hr1
  have H2 := Lib.hid hr2
  clear hr1 hr2 hv hn1 hn2 hn3 hn4 hI
  go_enter Tryz.func160, Tryz.ntmps160
  go_wp2_with fail
  refine BW.sameR (wireNode _ _) (congrArg Value.bool H1.out) ?_
  cases r1
  · go_wp2_with fail
    go_ret
    exact ⟨ret_bool (by rw [← HV.out]; simp), balloc (Below.refl _ _)⟩
  go_wp2_with fail
  refine BW.sameR (wireNode _ _) (congrArg Value.bool H2.out) ?_
  cases r2
  · go_wp2_with fail
    go_ret
    exact ⟨ret_bool (by rw [← HV.out]; simp), balloc (Below.refl _ _)⟩
  clear H1 H2
  have k1' : (kd == 1) = false := by simpa using k1
  have k3' : (kd == 3) = false := by simpa using k3
  simp only [if_neg k1, if_neg k3] at HV
  by_cases hok : n1 = 0 ∧ n2 = 0 ∧ n3 = 0 ∧ se = 0 ∧ sq = 0
  · obtain ⟨rfl, rfl, rfl, rfl, rfl⟩ := hok
    by_cases k2 : kd = 2
    · subst k2
      by_cases hb : bc = 0 ∧ bn = 0 ∧ n4 = 0 ∧ bo = 0
      · obtain ⟨rfl, rfl, rfl, rfl⟩ := hb
        obtain rfl : V = true := by rw [← HV.out]; rfl
        go_wp2_with fail
        go_ret
        exact ⟨rfl, balloc (Below.refl _ _)⟩
      · obtain rfl : V = false := by
          rw [← HV.out]
          simp
          omega
        go_wp2_with fail
        all_goals first | (go_ret; exact ⟨rfl, balloc (Below.refl _ _)⟩) | (go_ret; exact ⟨ret_bool (Bool.eq_iff_iff.2 (by simp <;> omega)), balloc (Below.refl _ _)⟩) | (exfalso; simp at *; omega)
    have k2' : (kd == 2) = false := by simpa using k2
    by_cases k4 : kd = 4
    · subst k4
      by_cases hb : bc = 0 ∧ bn = 0 ∧ n4 = 0 ∧ 0 ≤ bo ∧ bo ≤ 255
      · obtain ⟨rfl, rfl, rfl, g1, g2⟩ := hb
        have g3 : bo < 256 := by omega
        obtain rfl : V = true := by rw [← HV.out]; simp [g1, g2]
        go_wp2_with fail
        go_ret
        exact ⟨rfl, balloc (Below.refl _ _)⟩
      · obtain rfl : V = false := by
          rw [← HV.out]
          simp
          omega
        go_wp2_with fail
        all_goals first | (go_ret; exact ⟨rfl, balloc (Below.refl _ _)⟩) | (go_ret; exact ⟨ret_bool (Bool.eq_iff_iff.2 (by simp <;> omega)), balloc (Below.refl _ _)⟩) | (exfalso; simp at *; omega)
    have k4' : (kd == 4) = false := by simpa using k4
    by_cases k5 : kd = 5
    · subst k5
      have HW := Lib.hid (show V = (decide (0 ≤ bo ∧ bo ≤ 255) && rightB bc bn && decide (n4 ≤ 256)) by rw [← HV.out]; simp)
      clear HV
      go_wp2_with fail
      all_goals
        refine BW.callR (z := (BW.self w).alloc _) (wireRight _ _ _ _ _ _ _ hl4) rfl ?_
        intro z
        go_wp2_with fail
        go_ret
        exact ⟨ret_bool (by rw [HW.out]; simp [*]), z.below⟩
    · have k5' : (kd == 5) = false := by simpa using k5
      obtain rfl : V = false := by
        rw [← HV.out]
        simp [k2, k4, k5]
      go_wp2_with fail
      all_goals first | (go_ret; exact ⟨rfl, balloc (Below.refl _ _)⟩) | (go_ret; exact ⟨ret_bool (Bool.eq_iff_iff.2 (by simp <;> omega)), balloc (Below.refl _ _)⟩) | (exfalso; simp at *; omega)
  · obtain rfl : V = false := by
      rw [← HV.out]
      simp
      omega
    have hcs : (0 : Int) < (n1 : Int) + n2 ∨ (n1 = 0 ∧ n2 = 0 ∧ (0 : Int) < (n3 : Int)) ∨ (n1 = 0 ∧ n2 = 0 ∧ n3 = 0 ∧ ¬ se = 0) ∨ (n1 = 0 ∧ n2 = 0 ∧ n3 = 0 ∧ se = 0 ∧ ¬ sq = 0) := by omega
    rcases hcs with g | ⟨rfl, rfl, g⟩ | ⟨rfl, rfl, rfl, g⟩ | ⟨rfl, rfl, rfl, rfl, g⟩
    · go_wp2_with fail
      all_goals (go_ret; exact ⟨rfl, balloc (Below.refl _ _)⟩)
    · go_wp2_with fail
      all_goals (go_ret; exact ⟨rfl, balloc (Below.refl _ _)⟩)
    · have g' : (se != 0) = true := by simpa using g
      go_wp2_with fail
      all_goals (go_ret; exact ⟨rfl, balloc (Below.refl _ _)⟩)
    · have g' : (sq != 0) = true := by simpa using g
      go_wp2_with fail
      all_goals (go_ret; exact ⟨rfl, balloc (Below.refl _ _)⟩)

theorem wireFormed (x : Msg) (vi vv vn vb : Value) (w : World) (hI : MsgI x) (h : MsgV w w.heap.size vi vv vn vb x) (hT : TzTab w) :
    Calls Tryz.prog 160 #[.agg (msgCells vi vv vn vb x)] w fun e w' => e = .returned (.bool (msgFormed x)) ∧ Below w.heap.size w w' := by
  by_cases k3 : x.kind = 3
  · exact wireFormed3 x vi vv vn vb w hI h hT k3
  · by_cases k1 : x.kind = 1
    · exact wireFormed1 x vi vv vn vb w hI h hT k1
    · exact wireFormed0 x vi vv vn vb w hI h hT k1 k3
end Go.Proofs.YtaiekfeiaamemaaGreatDoor
/- A message of a session is heard: the program's. -/
namespace Go.Proofs.YtaiekfeiaamemaaGreatDoor
open Go.ChangeShapes Go.WideShapes Go.ChangeAt Go.RowKit

set_option maxRecDepth 100000 in
set_option maxHeartbeats 3200000 in
theorem sessionHear (m : Msg) (l : List Sub) (v vi vv vn vb : Value) (V w : World) (hV : Ext V w) (h : Subs V V.heap.size v l) (hI : MsgI m) (hM : MsgV w w.heap.size vi vv vn vb m) (hT : TzTab w) :
    Calls Tryz.prog 68 #[v, .agg (msgCells vi vv vn vb m)] w fun e w' => RetSubs (hearS l m) V w e w' := by
  have hle := h.len_le
  have HH0 := Lib.hid h
  have HH := Lib.hid (Subs.ext h hV)
  have HM := Lib.hid hM
  have HT := Lib.hid hT
  have HI := Lib.hid hI
  obtain ⟨A, c, rfl, -⟩ := id h
  obtain ⟨A1, c1, rfl, -⟩ := id hM.interest
  obtain ⟨A2, c2, rfl, -⟩ := id hM.vector
  obtain ⟨A3, c3, rfl, -⟩ := id hM.notes
  obtain ⟨A4, c4, rfl, -⟩ := id hM.value
  have hl3 := hM.notes.len_le
  generalize hr1 : subsFormed l = r1
  generalize hr2 : msgFormed m = r2
  have H1 := Lib.hid hr1
  have H2 := Lib.hid hr2
  generalize hs : hearS l m = res
  have HS := Lib.hid hs
  clear h hr1 hr2 hs hM hT hI
  have HC2 := Lib.hid (fun (W : World) (z : BW W) (kB : Below w.heap.size w W) => wireFormed m _ _ _ _ z.val HI.out ((HM.out.next kB).next z.below) ((HT.out.next kB).next z.below))
  rw [H2.out] at HC2
  obtain ⟨kd, fr, tt, se, sq, li, lv, ln, ⟨bo, ⟨bc, bn⟩, lb⟩⟩ := m
  dsimp only [msgCells] at *
  go_enter Tryz.func68, Tryz.ntmps68
  go_wp2_with fail
  have kB := balloc (o := .cells #[.int .i64 kd, .int .i64 fr, .int .i64 tt, .int .i64 se, .int .i64 sq, .slice A1 li.length c1, .slice A2 lv.length c2, .slice A3 ln.length c3, .int .i64 bo, .int .i64 bc, .int .i64 bn, .slice A4 lb.length c4] 114) (Below.refl _ w)
  have B := Blk.new w 114 #[.int .i64 kd, .int .i64 fr, .int .i64 tt, .int .i64 se, .int .i64 sq, .slice A1 li.length c1, .slice A2 lv.length c2, .slice A3 ln.length c3, .int .i64 bo, .int .i64 bc, .int .i64 bn, .slice A4 lb.length c4]
  generalize hW : w.alloc _ = W at *
  have HB := Lib.hid B
  clear hW B
  have q0 : ∀ z : BW W, z.val.cell? ⟨w.heap.size, 0, none⟩ = some (.int .i64 kd) := fun z => z.cell (HB.out.cell 0)
  have q1 : ∀ z : BW W, z.val.cell? ⟨w.heap.size, 1, none⟩ = some (.int .i64 fr) := fun z => z.cell (HB.out.cell 1)
  have q2 : ∀ z : BW W, z.val.cell? ⟨w.heap.size, 2, none⟩ = some (.int .i64 tt) := fun z => z.cell (HB.out.cell 2)
  have q3 : ∀ z : BW W, z.val.cell? ⟨w.heap.size, 3, none⟩ = some (.int .i64 se) := fun z => z.cell (HB.out.cell 3)
  have q4 : ∀ z : BW W, z.val.cell? ⟨w.heap.size, 4, none⟩ = some (.int .i64 sq) := fun z => z.cell (HB.out.cell 4)
  have q5 : ∀ z : BW W, z.val.cell? ⟨w.heap.size, 5, none⟩ = some (.slice A1 li.length c1) := fun z => z.cell (HB.out.cell 5)
  have q6 : ∀ z : BW W, z.val.cell? ⟨w.heap.size, 6, none⟩ = some (.slice A2 lv.length c2) := fun z => z.cell (HB.out.cell 6)
  have q7 : ∀ z : BW W, z.val.cell? ⟨w.heap.size, 7, none⟩ = some (.slice A3 ln.length c3) := fun z => z.cell (HB.out.cell 7)
  have q8 : ∀ z : BW W, z.val.cell? ⟨w.heap.size, 8, none⟩ = some (.int .i64 bo) := fun z => z.cell (HB.out.cell 8)
  have q9 : ∀ z : BW W, z.val.cell? ⟨w.heap.size, 9, none⟩ = some (.int .i64 bc) := fun z => z.cell (HB.out.cell 9)
  have q10 : ∀ z : BW W, z.val.cell? ⟨w.heap.size, 10, none⟩ = some (.int .i64 bn) := fun z => z.cell (HB.out.cell 10)
  have q11 : ∀ z : BW W, z.val.cell? ⟨w.heap.size, 11, none⟩ = some (.slice A4 lb.length c4) := fun z => z.cell (HB.out.cell 11)
  refine BW.start (w := W) ?_
  intro z
  refine BW.callR (z := z) (sessionFormedSubs l _ _ ((HH.out.next kB).next z.below)) (congrArg Value.bool H1.out) ?_
  clear z
  intro z
  cases r1
  · go_wp2_with fail
    go_ret2
    exact RetSubs.nil_ (by rw [← HS.out]; exact hearS_bad (by simp [hearOk, H1.out])) (bnext kB z.below)
  by_cases k3 : ¬ kd = 3
  · have k3' : (kd == 3) = false := by simpa using k3
    go_wp2_with fail
    go_ret2
    exact RetSubs.nil_ (by rw [← HS.out]; exact hearS_bad (by simp [hearOk, k3])) (bnext kB z.below)
  obtain rfl : kd = 3 := by omega
  clear k3
  go_wp2_with fail
  refine BW.call (z := z) (HC2.out W z kB) ?_
  clear z
  intro z
  cases r2
  · go_wp2_with fail
    go_ret2
    exact RetSubs.nil_ (by rw [← HS.out]; exact hearS_bad (by simp [hearOk, H2.out])) (bnext kB z.below)
  have HOK := Lib.hid (show hearOk l ⟨3, fr, tt, se, sq, li, lv, ln, ⟨bo, ⟨bc, bn⟩, lb⟩⟩ = true by simp [hearOk, H1.out, H2.out])
  clear HC2
  go_wp2_with fail
  refine BW.call (z := z) (sessionFrom fr l _ _ ((HH.out.next kB).next z.below)) ?_
  clear z
  intro z
  rcases idxFrom_spec (isFrom fr) l 0 with ⟨hk, hno⟩ | ⟨i, x, hx, hp, hk, hno⟩
  · rw [hk]
    have HX := Lib.hid (HS.out.symm.trans (hearS_none HOK.out fun x hx => by have := hno x hx; simp only [isFrom, decide_eq_false_iff_not] at this; simp [isSess, this]))
    clear hk hno
    go_wp2_with fail
    go_ret2
    exact RetSubs.nil_ HX.out (bnext kB z.below)
  · rw [hk, Nat.zero_add]
    have hil := (List.getElem?_eq_some_iff.1 hx).1
    have HN := Lib.hid hno
    have HX0 := Lib.hid hx
    simp only [isFrom, decide_eq_true_eq] at hp
    obtain ⟨b, off, _, vi', hv, hbb, e0, e1, e2, e3, e4, e5, e6, hs, i1, i2, i3⟩ := subs_at (HH.out.next kB) hx
    injection hv with hv1 hv2 hv3
    subst hv1
    have p2 : ∀ z : BW W, z.val.cell? ⟨b, off + i * 7 + 2, none⟩ = some (.int .i64 x.session) := fun z => z.cell e2
    have p3 : ∀ z : BW W, z.val.cell? ⟨b, off + i * 7 + 3, none⟩ = some (.int .i64 x.seq) := fun z => z.cell e3
    have hi3 : (i : Int) < (l.length : Int) := by omega
    have hi4 : (0 : Int) ≤ (i : Int) := by omega
    clear hk hno hv2 hv3 e0 e1 e2 e3 e4 e5 e6 hs hx hbb
    by_cases g1 : ¬ x.session = se
    · have HX := Lib.hid (HS.out.symm.trans (hearS_none HOK.out (sess_none H1.out HX0.out hp g1)))
      have g2 : (x.session != se) = true := by simpa using g1
      go_wp2_with fail
      refine region_bw (z0 := z) (by kernel_rfl) (by kernel_rfl) ?_
      repeat (go_big_quiet_step (fail))
      refine wpQuiet_nil ?_
      clear z
      intro z
      go_wp2_with fail
      go_ret2
      exact RetSubs.nil_ HX.out (bnext kB z.below)
    obtain rfl : se = x.session := by omega
    clear g1
    have HX1 := Lib.hid (HS.out.symm.trans (hearS_at HOK.out HX0.out (by simp [isSess, hp]) fun k y hk hy => by
      have := HN.out k y hk hy
      simp only [isFrom, decide_eq_false_iff_not] at this
      simp [isSess, this]))
    obtain ⟨n1, n2, n3⟩ := subsFormed_num H1.out (List.mem_of_getElem? HX0.out)
    simp only [numB, decide_eq_true_eq] at n1
    obtain ⟨n4, n5⟩ := n1
    clear n2 n3
    by_cases g1 : sq < x.seq
    · have HX := Lib.hid (HX1.out.trans (show hearAt _ _ _ _ = ([], 13) by rw [hearAt, if_pos g1]))
      go_wp2_with fail
      refine region_bw (z0 := z) (by kernel_rfl) (by kernel_rfl) ?_
      repeat (go_big_quiet_step (fail))
      refine wpQuiet_nil ?_
      clear z
      intro z
      go_wp2_with fail
      refine region_bw (z0 := z) (by kernel_rfl) (by kernel_rfl) ?_
      repeat (go_big_quiet_step (fail))
      refine wpQuiet_nil ?_
      clear z
      intro z
      go_wp2_with fail
      go_ret2
      exact RetSubs.nil_ HX.out (bnext kB z.below)
    by_cases g2 : x.seq < sq
    · have HX := Lib.hid (HX1.out.trans (show hearAt _ _ _ _ = ([], 3) by rw [hearAt, if_neg g1, if_pos g2]))
      go_wp2_with fail
      refine region_bw (z0 := z) (by kernel_rfl) (by kernel_rfl) ?_
      repeat (go_big_quiet_step (fail))
      refine wpQuiet_nil ?_
      clear z
      intro z
      go_wp2_with fail
      refine region_bw (z0 := z) (by kernel_rfl) (by kernel_rfl) ?_
      repeat (go_big_quiet_step (fail))
      refine wpQuiet_nil ?_
      clear z
      intro z
      go_wp2_with fail
      refine region_bw (z0 := z) (by kernel_rfl) (by kernel_rfl) ?_
      repeat (go_big_quiet_step (fail))
      refine wpQuiet_nil ?_
      clear z
      intro z
      go_wp2_with fail
      go_ret2
      exact RetSubs.nil_ HX.out (bnext kB z.below)
    obtain rfl : sq = x.seq := by omega
    have HX := Lib.hid (HX1.out.trans (show hearAt _ _ _ _ = (l.set i (subHear _ x), 0) by rw [hearAt, if_neg g1, if_neg g2]))
    clear g1 g2
    go_wp2_with fail
    refine region_bw (z0 := z) (by kernel_rfl) (by kernel_rfl) ?_
    repeat (go_big_quiet_step (fail))
    refine wpQuiet_nil ?_
    clear z
    intro z
    go_wp2_with fail
    refine region_bw (z0 := z) (by kernel_rfl) (by kernel_rfl) ?_
    repeat (go_big_quiet_step (fail))
    refine wpQuiet_nil ?_
    clear z
    intro z
    go_wp2_with fail
    refine region_bw (z0 := z) (by kernel_rfl) (by kernel_rfl) ?_
    repeat (go_big_quiet_step (fail))
    refine wpQuiet_nil ?_
    clear z
    intro z
    go_wp2_with fail
    refine (sessionSubs l _ V _ ((hV.trans (Ext.of_below kB)).trans z.ext) HH0.out).mono ?_
    rintro e w2 ⟨⟨v2, rfl, hown⟩, hb2⟩
    rcases hown.forms with ⟨rfl, rfl⟩ | ⟨g, c5, rfl, hg1, hg2⟩
    · simp at hil
    obtain ⟨cs, ⟨vi, rfl, -, -, -, -⟩, -, hc⟩ := OwnSl.at_ hown HX0.out
    have e3 := hc 3 _ rfl
    have e4 := hc 4 _ rfl
    have e5 := hc 5 _ rfl
    have e6 := hc 6 _ rfl
    have z3 := OwnSl.frozen hown (i * 7 + 3)
    have z4 := OwnSl.frozen hown (i * 7 + 4)
    have z5 := OwnSl.frozen hown (i * 7 + 5)
    have z6 := OwnSl.frozen hown (i * 7 + 6)
    have HO := Lib.hid hown
    have m4 := kept_cell hb2 (q4 z)
    have m7 := kept_cell hb2 (q7 z)
    clear hown hc q0 q1 q2 q3 q4 q5 q6 q7 q8 q9 q10 q11 p2 p3
    have hg3 : ¬ g = w.heap.size := by have := z.size; have := (HB.out).lt; omega
    go_wp2_with fail
    go_region
    go_wp2_with fail
    have h3 := OwnSubs.setB (j := 3) (u := .int .i64 ((x.seq + 1) % 1099511627776)) (x' := { x with seq := nextN x.seq }) HO.out HX0.out (by omega) (by
      rintro W cs ⟨vi, rfl, i1, i2, i3, hs⟩ _
      exact ⟨vi, rfl, i1, i2, I64.of (by simp only [nextN]; omega) (by simp only [nextN]; omega), hs⟩)
    have h4 := OwnSubs.setB (i := i) (j := 4) (u := .bool true) (x := { x with seq := nextN x.seq }) (x' := { x with seq := nextN x.seq, live := true }) h3 (by simp [hil]) (by omega) (by
      rintro W cs ⟨vi, rfl, i1, i2, i3, hs⟩ _
      exact ⟨vi, rfl, i1, i2, i3, hs⟩)
    have h5 := OwnSubs.setB (i := i) (j := 5) (u := .bool true) (x := { x with seq := nextN x.seq, live := true }) (x' := { x with seq := nextN x.seq, live := true, heard := true }) h4 (by simp [hil]) (by omega) (by
      rintro W cs ⟨vi, rfl, i1, i2, i3, hs⟩ _
      exact ⟨vi, rfl, i1, i2, i3, hs⟩)
    have h6 := OwnSubs.setB (i := i) (j := 6) (u := .bool ((ln.length : Int) == 0)) (x := { x with seq := nextN x.seq, live := true, heard := true }) (x' := { x with seq := nextN x.seq, live := true, heard := true, idle := ((ln.length : Int) == 0) }) h5 (by simp [hil]) (by omega) (by
      rintro W cs ⟨vi, rfl, i1, i2, i3, hs⟩ _
      exact ⟨vi, rfl, i1, i2, i3, hs⟩)
    simp only [List.set_set] at h6
    have hbb : ∀ {W' : World} {j : Nat} {u : Value}, Below w.heap.size w W' → Below w.heap.size w (W'.setCell ⟨g, j, none⟩ u) := fun h => bset h (by have := z.size; have := kB.size; simp; omega)
    have hb6 := hbb (j := i * 7 + 6) (u := .bool ((ln.length : Int) == 0)) (hbb (j := i * 7 + 5) (u := .bool true) (hbb (j := i * 7 + 4) (u := .bool true) (hbb (j := i * 7 + 3) (u := .int .i64 ((x.seq + 1) % 1099511627776)) (bnext (bnext kB z.below) hb2))))
    have e7 : ((ln.length : Int) == 0) = decide (ln.length = 0) := by rw [Bool.eq_iff_iff]; simp
    have H6 := Lib.hid (Subs.ext (OwnN.sl h6 extSub (Nat.le_refl _)) (mix_later hV (Nat.le_trans kB.size z.size)))
    clear h3 h4 h5 h6
    go_ret2
    refine ⟨.slice (some ⟨g, 0, none⟩) l.length c5, by rw [HX.out]; rfl, ?_, hb6.drew⟩
    rw [HX.out]
    have := H6.out
    rw [List.length_set] at this
    simp only [subHear]
    rw [← e7]
    exact Subs.ext this (mix_below (Below.refl _ _).drew)
end Go.Proofs.YtaiekfeiaamemaaGreatDoor
/- The fixed fact of the laws of layer 17. -/
namespace Go.Proofs.YtaiekfeiaamemaaGreatDoor
open Go.ChangeShapes Go.WideShapes Go.ChangeAt Go.RowKit

theorem i64_lit {n : Int} (h : (-9223372036854775808 ≤ n && n ≤ 9223372036854775807) = true) : I64 n := by
  simp only [Bool.and_eq_true, decide_eq_true_eq] at h
  exact I64.of h.1 h.2
def aliveSub : Sub := ⟨2, [⟨0, 3⟩], 5, 0, false, false, false⟩
def aliveMsg (n : Int) : Msg := ⟨3, 2, 0, 5, n, [], [], [], ⟨0, ⟨0, 0⟩, []⟩⟩
theorem alive1 : hearS [aliveSub] (aliveMsg 0) = ([⟨2, [⟨0, 3⟩], 5, 1, true, true, true⟩], 0) := by decide +kernel
theorem alive2 : hearS [aliveSub] (aliveMsg 1) = ([], 3) := by decide +kernel
theorem msgV_nil {w : World} {B : Nat} {k f t s q o c n : Int} : MsgV w B (.slice none 0 0) (.slice none 0 0) (.slice none 0 0) (.slice none 0 0) ⟨k, f, t, s, q, [], [], [], ⟨o, ⟨c, n⟩, []⟩⟩ :=
  ⟨Sl.nil_ (by unfold maxLen; omega) _, Sl.nil_ (by unfold maxLen; omega) _, Sl.nil_ (by unfold maxLen; omega) _, Sl.nil_ (by unfold maxLen; omega) _⟩

set_option maxRecDepth 100000 in
set_option maxHeartbeats 1600000 in
theorem alive17 (w : World) (hT : TzTab w) :
    Calls Tryz.prog 15 #[] w fun e w' => e = .returned (.bool true) ∧ Below w.heap.size w w' := by
  have HT := Lib.hid hT
  clear hT
  go_enter Tryz.func15, Tryz.ntmps15
  go_wp2_with fail
  have hb := balloc (o := .cells #[.int .i64 2, .slice (some ⟨w.heap.size, 0, none⟩) 1 1, .int .i64 5, .int .i64 0, .bool false, .bool false, .bool false] 123) (balloc (o := .cells #[.int .i64 0, .int .i64 3] 46) (Below.refl _ w))
  have hsp : Spans _ _ _ [⟨0, 3⟩] := ((OwnSl.of_blk (R := SpanR) (k := 2) (l := [⟨0, 3⟩]) (Blk.new w 46 #[.int .i64 0, .int .i64 3]) (Chunks.one rfl ⟨rfl, i64_lit rfl, i64_lit rfl⟩) (by simp)).sl)
  have hsu : Subs _ _ _ [aliveSub] := ((OwnSl.of_blk (R := SubR _ _) (k := 7) (l := [aliveSub]) (Blk.new (w.alloc (.cells #[.int .i64 0, .int .i64 3] 46)) 123 #[.int .i64 2, .slice (some ⟨w.heap.size, 0, none⟩) 1 1, .int .i64 5, .int .i64 0, .bool false, .bool false, .bool false]) (Chunks.one rfl ⟨_, rfl, i64_lit rfl, i64_lit rfl, i64_lit rfl, hsp.next (balloc (Below.refl _ _))⟩) (by simp)).sl)
  generalize hW : (w.alloc (.cells #[.int .i64 0, .int .i64 3] 46)).alloc _ = W at *
  have hz : (w.alloc (.cells #[.int .i64 0, .int .i64 3] 46)).heap.size = w.heap.size + 1 := by simp
  rw [hz] at hsu
  have HS := Lib.hid hsu
  clear hW hsp hsu hz
  have HC := Lib.hid (fun n (hi : I64 n) (z : BW W) => sessionHear (aliveMsg n) [aliveSub] _ _ _ _ _ z.val z.val (Ext.refl _) (HS.out.next z.below) ⟨i64_lit rfl, i64_lit rfl, i64_lit rfl, i64_lit rfl, hi, i64_lit rfl⟩ msgV_nil ((HT.out.next hb).next z.below))
  refine (HC.out 0 (i64_lit rfl) (BW.self W)).mono ?_
  rw [alive1]
  rintro e w1 ⟨v1, rfl, hs1, hb1⟩
  replace hs1 := Subs.ext hs1 (mix_ext_w (Ext.refl _) hb1)
  obtain ⟨A1, c1, rfl, -⟩ := id hs1
  have HS1 := Lib.hid hs1
  clear hs1
  go_wp2_with fail
  refine (HC.out 1 (i64_lit rfl) ((BW.self W).to hb1)).mono ?_
  rw [alive2]
  rintro e w2 ⟨v2, rfl, hs2, hb2⟩
  obtain ⟨A2, c2, rfl, -⟩ := id hs2
  obtain ⟨b, off, _, vi, hv, hbb, e0, e1, e2, e3, e4, e5, e6, -⟩ := subs_at (HS1.out.next hb2) (m := 0) rfl
  injection hv with hv1 hv2 hv3
  subst hv1
  simp only [Nat.zero_mul, Nat.add_zero] at e0 e1 e2 e3 e4 e5 e6
  clear hs2 hv2 hv3
  go_wp2_with fail
  go_ret
  exact ⟨rfl, bnext (bnext hb hb1) hb2⟩
end Go.Proofs.YtaiekfeiaamemaaGreatDoor
/- The law SessionRenews: what is due is asked for anew as the reference says, or refused. -/
namespace Go.Proofs.YtaiekfeiaamemaaGreatDoor
open Go.ChangeShapes Go.WideShapes Go.ChangeAt Go.RowKit
attribute [local irreducible] AW AWY vops vopsY vop vopL vdraw callW qop binQ lenQ storeQ appendQ callQ ACalls AIter setI
attribute [local go_sem] vwA_eq storeQ_bp storeQ_rp
theorem renew_from (bl : List Span) (me : Int) (sn : List Span → List Stamp) : ∀ (l : List Sub) (e : Int) (a : RenewA), subsFrom e l = true → numB a.tries = true → ∃ d, (l.foldl (renewStep bl me sn) a).done = a.done ++ d ∧ subsFrom e d = true ∧ d.length = l.length
  | [], e, a, _, _ => ⟨[], by simp, rfl, rfl⟩
  | s :: l, e, a, h, ht => by
    simp only [subsFrom, Bool.and_eq_true] at h
    obtain ⟨⟨⟨⟨h1, h2⟩, h3⟩, h4⟩, h5⟩ := h
    have ht2 : numB (nextN a.tries) = true := decide_eq_true (next_in (of_decide_eq_true ht).1)
    rw [List.foldl_cons]
    unfold renewStep
    by_cases hd : dueB bl s = true
    · rw [if_pos hd]
      obtain ⟨d, q1, q2, q3⟩ := renew_from bl me sn l s.from_ ⟨a.done ++ [renewSub s (nextN a.tries)], a.msgs ++ [renewMsg me s (nextN a.tries) (sn s.interest)], nextN a.tries⟩ h5 ht2
      exact ⟨renewSub s (nextN a.tries) :: d, by unfold renewStep at q1; rw [q1]; simp, by simp only [subsFrom, renewSub, Bool.and_eq_true]; exact ⟨⟨⟨⟨h1, h2⟩, ht2⟩, rfl⟩, q2⟩, by simp [q3]⟩
    · rw [if_neg hd]
      obtain ⟨d, q1, q2, q3⟩ := renew_from bl me sn l s.from_ ⟨a.done ++ [{ s with heard := false }], a.msgs, a.tries⟩ h5 ht
      exact ⟨{ s with heard := false } :: d, by unfold renewStep at q1; rw [q1]; simp, by simp only [subsFrom, Bool.and_eq_true]; exact ⟨⟨⟨⟨h1, h2⟩, h3⟩, h4⟩, q2⟩, by simp [q3]⟩
theorem renew_formed {l : List Sub} {me t : Int} {v : View} (h : (renewS l me t v).2 = 0) : subsFormed (renewS l me t v).1.done = true := by
  unfold renewS at h ⊢
  split at h
  · rename_i hc
    rw [if_pos hc]
    simp only [Bool.and_eq_true] at hc
    obtain ⟨⟨⟨h1, _⟩, h3⟩, _⟩ := hc
    simp only [subsFormed, Bool.and_eq_true, decide_eq_true_eq] at h1 ⊢
    obtain ⟨d, q1, q2, q3⟩ := renew_from (blurredS v.zones) me (sinceV v) l (-1) ⟨[], [], t⟩ h1.1 h3
    unfold renewAll
    rw [q1, List.nil_append]
    exact ⟨q2, by omega⟩
  · cases h
theorem alive17_call : ACalls Tryz.prog TzTab 15 [] (.val (.bool true)) [] :=
  bridge_val Tryz.func15 rfl (by kernel_rfl) fun V w E vs hV hG hr => by
    obtain rfl : vs = #[] := by
      have := hr.1
      simpa using this
    exact alive17 w hG
set_option maxRecDepth 100000 in
set_option maxHeartbeats 1600000 in
theorem lawRenews (l : List Sub) (p q : Int) (v : View) (iP : I64 p) (iQ : I64 q) (iR : I64 v.room) : ACalls Tryz.prog TzTab 3 [.iv (subI l), .agg [.val (.int .i64 p), .val (.int .i64 q)], vwA v] (.val (.bool true)) [] := by
  refine ACalls.of (n := 75) (rs := [.tmp 6]) Tryz.func3 rfl (by kernel_rfl) Tryz.ntmps3 (by kernel_rfl) (by simp) (fun _ _ => TzTab.later) ?_
  intro hok V w0
  have hp := renew_call l p q v iP iR
  have hr := rrenew_call l p q v iP iR
  have hF := renew_formed (l := l) (me := p) (t := q) (v := v)
  generalize renewS l p q v = x at hp hr hF
  obtain ⟨⟨D, M, T⟩, c⟩ := x
  simp only at hp hr hF
  have hs := rsubs_call D D
  have hs2 := rsubs_call l l
  have hm := rmsgs_call M
  have hf := fsubs_call D
  simp only [decide_true] at hs hs2
  refine g ?_
  refine AW.seq ?_
  refine AW.reg rfl fun KK hKK => ?_
  refine g ?_
  repeat' (first | refine hold_ (g ?_) | (refine hKK _ (g ?_); clear hKK KK) | exact trivial)
  refine AW.freeze 500 _ rfl ⟨iP, iQ, trivial⟩ ?_
  simp only [go_sem, reduceIte, Nat.reduceEqDiff]
  refine AW.freeze 600 _ rfl ⟨trivial, trivial, trivial, trivial, iR, trivial⟩ ?_
  simp only [go_sem, reduceIte, Nat.reduceEqDiff]
  refine g ?_
  repeat' (first | refine st_ rfl (g ?_) | refine hold_ (g ?_) | exact trivial | refine cond_d (fun h => g ?_) (fun h => g ?_) | refine cond_ (fun h => g ?_) (fun h => g ?_) | (refine hKD _ _ ⟨rfl, g ?_⟩; clear hKD KD) | ((first | refine vops_ifd rfl rfl (fun h e => ?_) (fun h e => ?_) | refine vdraw_ifd rfl rfl (fun h e => ?_) (fun h e => ?_)) <;> simp only [e] <;> clear e <;> refine g ?_) | ((first | refine vops_if rfl rfl (fun h => ?_) (fun h => ?_) | refine vdraw_if rfl rfl (fun h => ?_) (fun h => ?_)) <;> simp only [h] <;> refine g ?_) | refine ix_ (by omega) (g ?_) | refine call_ (alive17_call) rfl (g ?_) | refine call_ (rown_call _) rfl (g ?_) | refine call_ (hp) rfl (g ?_) | refine call_ (hr) rfl (g ?_) | refine call_ (hs) rfl (g ?_) | refine call_ (hm) rfl (g ?_) | refine call_ (hs2) rfl (g ?_) | refine call_ (hf) rfl (g ?_))
  exact hF (Decidable.of_not_not h)
end Go.Proofs.YtaiekfeiaamemaaGreatDoor
/- A world that holds math/bits.deBruijn64tab as it is laid; and what a row's list gives of it. -/
namespace Go.Proofs.YtaiekfeiaamemaaGreatDoor
open Go.ChangeShapes Go.WideShapes Go.ChangeAt Go.RowKit

def laying (cs : Array Value) : Obj → Obj
  | .cells _ t frozen => .cells cs t frozen
  | o => o
def tzCells : Array Value := #[.int .u8 0, .int .u8 1, .int .u8 56, .int .u8 2, .int .u8 57, .int .u8 49, .int .u8 28, .int .u8 3, .int .u8 61, .int .u8 58, .int .u8 42, .int .u8 50, .int .u8 38, .int .u8 29, .int .u8 17, .int .u8 4, .int .u8 62, .int .u8 47, .int .u8 59, .int .u8 36, .int .u8 45, .int .u8 43, .int .u8 51, .int .u8 22, .int .u8 53, .int .u8 39, .int .u8 33, .int .u8 30, .int .u8 24, .int .u8 18, .int .u8 12, .int .u8 5, .int .u8 63, .int .u8 55, .int .u8 48, .int .u8 27, .int .u8 60, .int .u8 41, .int .u8 37, .int .u8 16, .int .u8 46, .int .u8 35, .int .u8 44, .int .u8 21, .int .u8 52, .int .u8 32, .int .u8 23, .int .u8 11, .int .u8 54, .int .u8 26, .int .u8 40, .int .u8 15, .int .u8 34, .int .u8 20, .int .u8 31, .int .u8 10, .int .u8 25, .int .u8 14, .int .u8 19, .int .u8 9, .int .u8 13, .int .u8 8, .int .u8 7, .int .u8 6]
noncomputable def tzWorld (os : Os) : World :=
  { World.holding Tryz.prog os ⟨#[], #[], []⟩ with heap := (World.holding Tryz.prog os ⟨#[], #[], []⟩).heap.modify 0 (laying tzCells) }
theorem tzName : Tryz.prog.globalNamed "math/bits.deBruijn64tab" = some 0 := by kernel_rfl
theorem tzType : (Tryz.prog.globals[0]?).map (·.type) = some 288 := by kernel_rfl
theorem tz_of_laid {laid : List (String × DataW Unit)} {W : World} (e : (laid.filter fun x => x.1 == "math/bits.deBruijn64tab") = [("math/bits.deBruijn64tab", Lib.tabData .u8 (Lib.deBruijn64tab.map Int.ofNat))]) (h : laidMetH Tryz.prog laid W) : TzTab W := by
  have h1 := h.filter (fun x => x.1 == "math/bits.deBruijn64tab")
  rw [e] at h1
  have h2 := Lib.tabIs_of_head (rest := []) tzName tzType Tryz.underlying288 Tryz.underlying5 (by kernel_rfl) (by kernel_rfl) h1
  intro j hj
  have h3 := h2.cell tzName j (by simpa using hj)
  rw [h3]
  simp [List.getD, hj]
theorem small_part {H : Type} {l : List (DataW H)} (h : Rows.uptoSmall H l = true) : ∀ d, d ∈ l → Rows.uptoBulk d ≤ 1048576 := by
  have h2 : Rows.uptoBulkAll l ≤ 1048576 := of_decide_eq_true h
  intro d hd
  have := bulk_part hd
  omega
end Go.Proofs.YtaiekfeiaamemaaGreatDoor
namespace Go.Proofs.YtaiekfeiaamemaaGreatDoor
open Go.ChangeShapes Go.WideShapes Go.ChangeAt Go.RowKit

namespace cSessionRenews
set_option maxRecDepth 100000 in
theorem contract (H : Type) (enc : TypeId × Value → H) (W : World) (base : Nat) (args : Array Value) (ds gs : List (DataW H)) (before : List MemPlace)
    (hval : ∀ (j : Nat) t v, Tryz.f3.params[j]? = some t → args[j]? = some v → Value.okWide Tryz.prog W .any base t v)
    (hW : DataW.Whole enc Tryz.prog Tryz.f3.params.toList Rows.sessionRenewsSpec.vars false W args.toList ds gs before) (hk : Rows.uptoSmall H (ds ++ gs) = true) (hL : laidMetH Tryz.prog Rows.sessionRenewsRow.laid W) :
    Calls Tryz.prog 3 args W fun e W' => ∃ v, e = .returned v ∧ Rows.sessionRenewsSpec.post enc Tryz.prog Tryz.f3 false true false false W args v W' := by
  have hW' := hW
  obtain ⟨p, q, hA0, hV, rfl, hfz, hnd⟩ := hW
  have hA : DataW.TrodAll enc Tryz.prog W 0 (fun _ => true) true Tryz.f3.params.toList args.toList ds p := hA0
  rw [Tryz.params3] at hA hval
  obtain ⟨v0, vs0, d0, ds0, p0, q0, hargs, rfl, rfl, h0, r0⟩ := trodAll_cons hA
  obtain ⟨v1, vs1, d1, ds1, p1, q1, rfl, rfl, rfl, h1, r1⟩ := trodAll_cons r0
  obtain ⟨v2, vs2, d2, ds2, p2, q2, rfl, rfl, rfl, h2, r2⟩ := trodAll_cons r1
  obtain ⟨rfl, rfl, rfl⟩ := trodAll_nil r2
  obtain rfl : args = #[v0, v1, v2] := by cases args; simp_all
  obtain ⟨rfl, rfl⟩ := trodVars_none hV
  have hpart := small_part hk
  obtain ⟨_, _, _, rfl⟩ := okWide_slice Tryz.underlying22 (hval 0 _ v0 rfl rfl)
  obtain ⟨n0, hn0⟩ := h0
  obtain ⟨_, l0, u0, hv0, hl0⟩ := opens_subs (w := W) H enc n0 _ _ ⟨hn0, hpart d0 (by simp)⟩
  simp only [Value.cells, List.cons.injEq, and_true] at hv0
  subst hv0
  obtain ⟨cs1, rfl, hs1⟩ := okWide_array Tryz.underlying23 (hval 1 _ v1 rfl rfl)
  obtain ⟨n1, hn1⟩ := h1
  obtain ⟨_, x1, e1, i1, i2⟩ := opens_two (w := W) H enc n1 _ _ ⟨hn1, hpart d1 (by simp)⟩
  obtain rfl : cs1 = #[.int .i64 x1.1, .int .i64 x1.2] := Array.toList_inj.1 (by simpa only [Value.cells] using e1)
  obtain ⟨cs2, rfl, hs2⟩ := okWide_struct Tryz.underlying29 (hval 2 _ v2 rfl rfl)
  obtain ⟨n2, hn2⟩ := h2
  obtain ⟨_, x2, va, vb, vc, vd, e2, hK, hZ, hH, hB, iR⟩ := opens_view (w := W) H enc n2 _ _ ⟨hn2, hpart d2 (by simp)⟩
  obtain rfl : cs2 = #[va, vb, vc, vd, .int .i64 x2.room] := Array.toList_inj.1 (by simpa only [Value.cells] using e2)
  have hT : TzTab W := tz_of_laid (by kernel_rfl) hL
  clear hA0
  refine ((lawRenews l0 x1.1 x1.2 x2 i1 i2 iR).law hT (RepAs.cons (.iv (subs_rep hl0)) (RepAs.cons two_rep (RepAs.cons (view_rep hK hZ hH hB) RepAs.nil)))).mono fun e W' ⟨he, hb⟩ => ?_
  subst he
  exact ⟨_, rfl, law_post laidOut (by kernel_rfl) (by kernel_rfl) Tryz.underlying4 rfl rfl rfl rfl hW' hb⟩

theorem laid_met (os : Os) : laidMet Tryz.prog Rows.sessionRenewsRow.laid ((tzWorld os).forCall (fun _ _ => 0) ⟨#[], #[.slice none 0 0, .agg #[.int .i64 0, .int .i64 0], .agg #[.slice none 0 0, .slice none 0 0, .slice none 0 0, .slice none 0 0, .int .i64 0]], []⟩).memory :=
  laidMet_of_run' 8 (by kernel_rfl) (by kernel_rfl)
theorem reads (os : Os) {H : Type} (enc : TypeId × Value → H) : ∃ places, DataW.whole enc Tryz.prog ((tzWorld os).forCall (fun _ _ => 0) ⟨#[], #[.slice none 0 0, .agg #[.int .i64 0, .int .i64 0], .agg #[.slice none 0 0, .slice none 0 0, .slice none 0 0, .slice none 0 0, .int .i64 0]], []⟩).memory Tryz.f3.params.toList Rows.sessionRenewsSpec.vars false (#[.slice none 0 0, .agg #[.int .i64 0, .int .i64 0], .agg #[.slice none 0 0, .slice none 0 0, .slice none 0 0, .slice none 0 0, .int .i64 0]] : Array Value).toList 8 = some ([.nil, .agg [.lit (.int .i64 0), .lit (.int .i64 0)], .agg [.nil, .nil, .nil, .nil, .lit (.int .i64 0)]], [], places) :=
  ⟨[], by kernel_rfl⟩

set_option maxRecDepth 100000 in
theorem lifted (os : Os) (started : os.Started) (H : Type) (enc : TypeId × Value → H) (F : Stop.Interp) :
    ReturnsInHanded {} Tryz.checked os 3 .any ((Rows.OpenSpec.upto Rows.sessionRenewsSpec).preRow enc Tryz.prog Tryz.f3 Rows.sessionRenewsUptoRow.domain false Rows.sessionRenewsUptoRow.laid) (((Rows.OpenSpec.upto Rows.sessionRenewsSpec).at F).post enc Tryz.prog Tryz.f3 false true false false) := by
  obtain ⟨places, hx⟩ := reads os enc
  refine returnsInHanded_of_row (C := Tryz.checked) (s := Rows.OpenSpec.upto Rows.sessionRenewsSpec) own started (by kernel_rfl) Tryz.func3
    (witness_row_at (enc := enc) (C := Tryz.checked) false (tzWorld os) #[.slice none 0 0, .agg #[.int .i64 0, .int .i64 0], .agg #[.slice none 0 0, .slice none 0 0, .slice none 0 0, .slice none 0 0, .int .i64 0]] rfl (by kernel_rfl) (by kernel_rfl) (by kernel_rfl)
      (OpenSpec.preRow_of_cond 8 hx (by kernel_rfl) (fun k hk => by cases hk; kernel_rfl) (by kernel_rfl) (laid_met os))) ?_
  intro W base args ds gs before hval hW _ hcond _ hL _ _
  exact contract H enc W base args ds gs before hval hW (hcond _ rfl) hL

theorem c1 : laidOutB Tryz.pinned.checked.prog = true := by kernel_rfl
theorem c2 : mapsRowed Tryz.pinned.checked.prog = true := by kernel_rfl
theorem c3 : (Rows.sessionRenewsUptoRow.inPlace == Tryz.pinned.checked.prog.inPlace 3) = true := by kernel_rfl
theorem c4 : (Rows.sessionRenewsUptoRow.unfollowed == Tryz.pinned.checked.prog.unfollowed 3) = true := by kernel_rfl
theorem c5 : (Rows.sessionRenewsUptoRow.recurses == Tryz.pinned.checked.prog.recurses 3) = true := by kernel_rfl
theorem c6 : (Rows.sessionRenewsUptoRow.named == Tryz.pinned.checked.prog.varsNamed 3) = true := by kernel_rfl
theorem closed : joinedFacts Tryz.pinned.checked.prog 3 Tryz.f3 (Rows.OpenSpec.upto Rows.sessionRenewsSpec).bare Rows.sessionRenewsUptoRow = true := by
  unfold joinedFacts
  rw [c1, c2, c3, c4, c5, c6]
  kernel_rfl
theorem said : Rows.SessionRenewsUptoSaid :=
  OpenClaim.holds_of_cond 3 Tryz.f3 rfl rfl rfl rfl rfl rfl rfl ⟨rfl, rfl, rfl, rfl, rfl⟩ rfl rfl rfl rfl rfl (by kernel_rfl) Tryz.func3 closed
    (of_decide_eq_true (by kernel_rfl)) (by unfold Func.isWrapper; first | (rw [if_pos (by decide +kernel)]; kernel_rfl) | (rw [if_neg (by decide +kernel)]; exact ⟨rfl, rfl⟩))
    (fun os started H enc _ F => by rw [OpenClaim.pre_eq_preRow]; exact lifted os started H enc F)

theorem plain (f : FuncId) (fn : Func) (hf : Tryz.pinned.checked.prog.funcNamed "telltale/telltalelaw17.SessionRenews" = some f) (hfn : Tryz.pinned.checked.prog.funcs[f]? = some fn) :
    false = Tryz.pinned.checked.prog.looks [] ∧ ∀ (j : Nat) t, fn.params[j]? = some t → Tryz.pinned.checked.prog.wantsStandIn t = false := by
  obtain rfl : f = 3 := Option.some.inj ((show Tryz.prog.funcNamed "telltale/telltalelaw17.SessionRenews" = some 3 by kernel_rfl).symm.trans hf) |>.symm
  obtain rfl : fn = Tryz.f3 := (Option.some.inj (Tryz.func3.symm.trans hfn)).symm
  refine ⟨by kernel_rfl, fun j t ht => ?_⟩
  rw [Tryz.params3] at ht
  have hm := Array.mem_of_getElem? ht
  simp at hm
  rcases hm with rfl | rfl | rfl
  · exact (show Tryz.prog.wantsStandIn 22 = false by kernel_rfl)
  · exact (show Tryz.prog.wantsStandIn 23 = false by kernel_rfl)
  · exact (show Tryz.prog.wantsStandIn 29 = false by kernel_rfl)

theorem card : Rows.SessionRenewsUptoCardSaid :=
  Claim7.holds_tied_plain_at .later [] _ _ _ _ said (fun _ h => by cases h) (by as_aux_lemma => kernel_rfl) (fun _ h => by cases h) sessionRenewsUpto_row_tie rfl ⟨rfl, rfl⟩ (by as_aux_lemma => kernel_rfl) rfl plain (by as_aux_lemma => kernel_rfl)
#print axioms card
end cSessionRenews
end Go.Proofs.YtaiekfeiaamemaaGreatDoor
