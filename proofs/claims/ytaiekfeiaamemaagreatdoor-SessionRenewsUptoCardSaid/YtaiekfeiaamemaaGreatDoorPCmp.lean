/- cmp.Compare at int. -/
import Derived.Test.YtaiekfeiaamemaaGreatDoorPRight
set_option linter.all false
set_option linter.unnecessarySimpa false
set_option linter.unusedSimpArgs false
set_option linter.unusedVariables false
/- A region that draws its order, whose operations read and whose callees make memory at most (nothing that was there turns): one walk of the text's order serves every order. No program is known here. -/
namespace Go.Proofs.YtaiekfeiaamemaaGreatDoor
open Go.ChangeShapes Go.WideShapes Go.ChangeAt Go.RowKit

/-- a world in which all that lay in w lies as it lay -/
structure BW (w : World) where
  val : World
  below : Below w.heap.size w val
instance (w : World) : Nonempty (BW w) := ⟨⟨w, Below.refl _ w⟩⟩
theorem BW.cell {w : World} (z : BW w) {a : Addr} {v : Value} (h : w.cell? a = some v) : z.val.cell? a = some v := kept_cell z.below h
theorem BW.frozen {w : World} (z : BW w) {a : Addr} {b : Bool} (h : a.block < w.heap.size) (hf : w.frozen? a = b) : z.val.frozen? a = b := (z.below.frozen h).trans hf
theorem BW.size {w : World} (z : BW w) : w.heap.size ≤ z.val.heap.size := z.below.size
theorem BW.heap {w : World} (z : BW w) {g : Nat} {o : Obj} (h : w.heap[g]? = some o) : z.val.heap[g]? = some o :=
  (z.below.block g (Array.getElem?_eq_some_iff.1 h).1).trans h

theorem region_below {P : Program} {id : Nat} {Q : Exit → Act → World → Prop} {a : Act} {w : World} {l : List Oper} (hm : P.follows .mixedOrders = true) (hB : Region.lexB .any l.toArray = true)
    (h : wpQuiet P l.toArray (fun w' => ∃ z : BW w, w' = z.val) (fun a' => ∀ w1, Below w.heap.size w w1 → Q .normal a' w1) l a) : (Code.region id l.toArray true).wp P Q a w := by
  refine wp_region_quiet (C := fun w' => ∃ z : BW w, w' = z.val) hm hB ⟨⟨_, (Below.refl _ w).drew⟩, rfl⟩ ?_
  have e : (fun a' => ∀ w', (∃ z : BW w, w' = z.val) → Q .normal a' w') = fun a' => ∀ w1, Below w.heap.size w w1 → Q .normal a' w1 := by
    funext a'
    exact propext ⟨fun h w1 hb => h _ ⟨⟨w1, hb⟩, rfl⟩, fun h _ ⟨z, e⟩ => e ▸ h z.val z.below⟩
  rw [e]
  simpa using h

theorem region_bw {P : Program} {id : Nat} {Q : Exit → Act → World → Prop} {a : Act} {W : World} {z0 : BW W} {l : List Oper} (hm : P.follows .mixedOrders = true) (hB : Region.lexB .any l.toArray = true)
    (h : wpQuiet P l.toArray (fun w' => ∃ z : BW W, w' = z.val) (fun a' => ∀ z : BW W, Q .normal a' z.val) l a) : (Code.region id l.toArray true).wp P Q a z0.val := by
  refine wp_region_quiet (C := fun w' => ∃ z : BW W, w' = z.val) hm hB ⟨⟨_, z0.below.drew⟩, rfl⟩ ?_
  have e : (fun a' => ∀ w', (∃ z : BW W, w' = z.val) → Q .normal a' w') = fun a' => ∀ z : BW W, Q .normal a' z.val := by
    funext a'
    exact propext ⟨fun h z => h _ ⟨z, rfl⟩, fun h _ ⟨z, e⟩ => e ▸ h z⟩
  rw [e]
  simpa using h

/-- a callee's contract, met in such a world -/
theorem below_of {P : Program} {f : FuncId} {args : Array Value} {w : World} {z : BW w} {v : Value} (h : Calls P f args z.val fun e w' => e = .returned v ∧ Below z.val.heap.size z.val w') :
    Calls P f args z.val fun e w'' => e = .returned v ∧ ∃ z' : BW w, w'' = z'.val :=
  h.mono fun _ w' ⟨he, hb⟩ => ⟨he, ⟨w', z.below.trans (hb.mono z.below.size)⟩, rfl⟩
theorem below_of_same {P : Program} {f : FuncId} {args : Array Value} {w : World} {z : BW w} {v : Value} (h : Calls P f args z.val fun e w' => e = .returned v ∧ z.val = w') :
    Calls P f args z.val fun e w'' => e = .returned v ∧ ∃ z' : BW w, w'' = z'.val :=
  h.mono fun _ _ ⟨he, hb⟩ => ⟨he, z, hb.symm⟩

/-- the walk in the style of such worlds: a call leads from one to the next, and what is known of all of them stays known -/
theorem BW.start {P : Program} {f : FuncId} {args : Array Value} {w : World} {Q : Ending → World → Prop} (h : ∀ z : BW w, Calls P f args z.val Q) : Calls P f args w Q := h ⟨w, Below.refl _ w⟩
def BW.self (w : World) : BW w := ⟨w, Below.refl _ w⟩
def BW.up {w W : World} (z : BW W) (hb : Below w.heap.size w W) : BW w := ⟨z.val, bnext hb z.below⟩
def BW.alloc {w : World} (z : BW w) (o : Obj) : BW w := ⟨z.val.alloc o, balloc z.below⟩
def BW.to {w w1 : World} (z : BW w) (hb : Below z.val.heap.size z.val w1) : BW w := ⟨w1, bnext z.below hb⟩
theorem BW.call {P : Program} {f : FuncId} {args : Array Value} {w : World} {z : BW w} {v : Value} {Q : Ending → World → Prop} (h : Calls P f args z.val fun e w' => e = .returned v ∧ Below z.val.heap.size z.val w')
    (k : ∀ z' : BW w, Q (.returned v) z'.val) : Calls P f args z.val Q :=
  h.mono fun _ w' ⟨he, hb⟩ => he ▸ k ⟨w', z.below.trans (hb.mono z.below.size)⟩
theorem BW.callR {P : Program} {f : FuncId} {args : Array Value} {w : World} {z : BW w} {v v' : Value} {Q : Ending → World → Prop} (h : Calls P f args z.val fun e w' => e = .returned v ∧ Below z.val.heap.size z.val w')
    (hv : v = v') (k : ∀ z' : BW w, Q (.returned v') z'.val) : Calls P f args z.val Q := BW.call (hv ▸ h) k
theorem BW.same {P : Program} {f : FuncId} {args : Array Value} {w : World} {v : Value} {Q : Ending → World → Prop} (h : Calls P f args w fun e w' => e = .returned v ∧ w = w')
    (k : Q (.returned v) w) : Calls P f args w Q :=
  h.mono fun _ _ ⟨he, hb⟩ => he ▸ hb ▸ k
theorem BW.sameR {P : Program} {f : FuncId} {args : Array Value} {w : World} {v v' : Value} {Q : Ending → World → Prop} (h : Calls P f args w fun e w' => e = .returned v ∧ w = w')
    (hv : v = v') (k : Q (.returned v') w) : Calls P f args w Q := BW.same (hv ▸ h) k
end Go.Proofs.YtaiekfeiaamemaaGreatDoor
namespace Go.Proofs.YtaiekfeiaamemaaGreatDoor
open Go.ChangeShapes Go.WideShapes Go.ChangeAt Go.RowKit

def cmpI (a b : Int) : Int := if a < b then -1 else if b < a then 1 else 0
theorem cmpCompare (a b : Int) (w : World) : Calls Tryz.prog 221 #[.int .i64 a, .int .i64 b] w fun e w' => e = .returned (.int .i64 (cmpI a b)) ∧ w = w' := by
  go_enter Tryz.func221, Tryz.ntmps221
  go_wp2
  all_goals (go_ret; exact ⟨by unfold cmpI; simp [*] <;> omega, rfl⟩)
theorem cmpI_lt {a b : Int} : cmpI a b < 0 ↔ a < b := by unfold cmpI; split <;> (try split) <;> omega
theorem cmpI_eq {a b : Int} : cmpI a b = 0 ↔ a = b := by unfold cmpI; split <;> (try split) <;> omega
end Go.Proofs.YtaiekfeiaamemaaGreatDoor
