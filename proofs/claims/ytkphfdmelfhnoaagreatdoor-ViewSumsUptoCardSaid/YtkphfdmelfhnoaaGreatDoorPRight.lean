/- Contracts of a stamp's right form, the program's and the reference's. -/
import Derived.Test.YtkphfdmelfhnoaaGreatDoorRows
import Derived.WalkKit
import Derived.ProofKit
import Derived.OpenShut
import Derived.Outline
import Derived.LoopTactic
import Derived.WalkLawsBesides
import Derived.WalkSpells
import Derived.Deep.RegionHeld3
import Derived.Deep.QuietTactic
import Derived.BigQuiet
import Derived.Lib.Hide
import Derived.Deep.DeepCutAuto
import Derived.Deep.DeepHandedRow
set_option linter.all false
set_option linter.unnecessarySimpa false
set_option linter.unusedSimpArgs false
set_option linter.unusedVariables false
namespace Go.Proofs.YtkphfdmelfhnoaaGreatDoor
open Go.ChangeShapes Go.WideShapes Go.ChangeAt Go.RowKit
theorem own : ownKnob Tryz.prog.godebug = none := by kernel_rfl
theorem laidOut : laidOutB Tryz.prog = true := by kernel_rfl
theorem wf_hi {n : Int} (w : (Lit.int .i64 n).wf = true) : n ≤ 9223372036854775807 := by
 simp [Lit.wf, IntKind.max, IntKind.min, IntKind.signed, IntKind.bits] at w; omega
theorem wf_lo {n : Int} (w : (Lit.int .i64 n).wf = true) : -9223372036854775808 ≤ n := by
 simp [Lit.wf, IntKind.max, IntKind.min, IntKind.signed, IntKind.bits] at w; omega
theorem ret_int {k : IntKind} {a b : Int} (h : a = b) : Ending.returned (.int k a) = .returned (.int k b) := by rw [h]
theorem ret_bool {a b : Bool} (h : a = b) : Ending.returned (.bool a) = .returned (.bool b) := by rw [h]
theorem bnext {w w1 w2 : World} (h : Below w.heap.size w w1) (h2 : Below w1.heap.size w1 w2) : Below w.heap.size w w2 := h.trans (h2.mono h.size)
theorem balloc {w w1 : World} {o : Obj} (h : Below w.heap.size w w1) : Below w.heap.size w (w1.alloc o) := h.alloc h.size o
theorem kept_cell {W w1 : World} {a : Addr} {v : Value} (hb : Below W.heap.size W w1) (h : W.cell? a = some v) : w1.cell? a = some v :=
 (hb.cell (World.block_lt_of_cell? W a h)).trans h
section
variable {H : Type} {enc : TypeId × Value → H} {P : Program}
theorem trodAll_below (hl : laidOutB P = true) {W W' : World} (hb : Below W.heap.size W W') {sp : Nat → Bool} : ∀ (ts : List TypeId) (vs : List Value) (ds : List (DataW H)) (p : List MemPlace),
  ts.all (fun t => P.readableRec t && decide (t < P.types.size)) = true → DataW.TrodAll enc P W 0 (fun _ => true) true ts vs ds p → (∀ x ∈ p, x.block < W.heap.size) → (∀ x ∈ p, sp x.block = true) →
  DataW.TrodAll enc P W' 0 sp true ts vs ds p
 | [], [], [], p, _, h, _, _ => h
 | t :: ts, v :: vs, d :: ds, p, ht, ⟨p1, q1, h1, h2, he⟩, hlt, hsp => by
  simp only [List.all_cons, Bool.and_eq_true, decide_eq_true_eq] at ht
  subst he
  refine ⟨p1, q1, ?_, trodAll_below hl hb ts vs ds q1 ht.2 h2 (fun x hx => hlt x (List.mem_append_right _ hx)) (fun x hx => hsp x (List.mem_append_right _ hx)), rfl⟩
  exact WideElems.Trod_stays hl ht.1.1 ht.1.2 h1 (fun x hx => hb.same (hlt x (List.mem_append_left _ hx))) (fun x hx => hsp x (List.mem_append_left _ hx))
 | [], _ :: _, _, _, _, h, _, _ => h.elim
 | [], [], _ :: _, _, _, h, _, _ => h.elim
 | _ :: _, [], _, _, _, h, _, _ => h.elim
 | _ :: _, _ :: _, [], _, _, h, _, _ => h.elim
theorem law_post {f : Func} {s : ChangeSpec} {tb : TypeId} {W W' : World} {args : Array Value} {ds gs : List (DataW H)} {before : List MemPlace}
  (hl : laidOutB P = true) (hts : f.params.toList.all (fun t => P.readableRec t && decide (t < P.types.size)) = true) (hr : f.resultTypes = #[tb]) (htb : P.underlying tb = some .bool) (hvars : s.vars = [])
  (hres : (s.fn H (ds ++ gs)).results = [.lit (.bool true)]) (hargs : (s.fn H (ds ++ gs)).args = ds) (hv : (s.fn H (ds ++ gs)).vars = [])
  (hW : DataW.Whole enc P f.params.toList s.vars false W args.toList ds gs before) (hb : Below W.heap.size W W') :
  s.post enc P f false true false false W args (.bool true) W' := by
 have hlt : ∀ p ∈ before, p.block < W.heap.size := fun p hp => hW.lt p hp
 have hold : ∀ p ∈ before, (fun b => decide (b < W.heap.size)) p.block = true := fun p hp => by simpa using hlt p hp
 have hW' := hW
 obtain ⟨p, q, hA, hV, hpq, hfz, hnd⟩ := hW
 rw [hvars] at hV
 obtain ⟨rfl, rfl⟩ := trodVars_none hV
 simp only [List.append_nil] at hpq
 subst hpq
 refine ⟨ds, [], before, [], before, [], hW', ?_, ?_, ?_, hb.frame _, fun h => by cases h⟩
 ·rw [hres, hr]
  exact trodAll_mk1 (shut_bool htb _)
 ·rw [hargs]
  exact trodAll_below hl hb _ _ _ _ hts hA hlt hold
 ·rw [hv, hvars]
  rfl
end
def rightB (c n : Int) : Bool := decide (1 ≤ c ∧ 0 ≤ n ∧ n < 64)
theorem stampRight (c n : Int) (w : World) :
  Calls Tryz.prog 171 #[.agg #[.int .i64 c, .int .i64 n]] w fun e w' => e = .returned (.bool (rightB c n)) ∧ Below w.heap.size w w' := by
 go_enter Tryz.func171, Tryz.ntmps171
 go_wp2
 all_goals (go_ret; refine ⟨ret_bool (Bool.eq_iff_iff.2 ?_), (Below.refl _ _).alloc (Nat.le_refl _) _⟩; (simp [rightB] <;> omega))
theorem refRight (c n : Int) (w : World) :
  Calls Tryz.prog 97 #[.agg #[.int .i64 c, .int .i64 n]] w fun e w' => e = .returned (.bool (rightB c n)) ∧ Below w.heap.size w w' := by
 go_enter Tryz.func97, Tryz.ntmps97
 go_wp2
 all_goals (go_ret; refine ⟨ret_bool (Bool.eq_iff_iff.2 ?_), (Below.refl _ _).alloc (Nat.le_refl _) _⟩; (simp [rightB] <;> omega))
end Go.Proofs.YtkphfdmelfhnoaaGreatDoor
