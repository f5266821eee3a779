/- A function that enters a range over a function round by round of a plain loop leaves with as many marks among its deferred calls: they are taken one by one. No program is known here. -/
import Derived.Test.YtaiekfeiaamemaaGreatDoorPExt
import Derived.RangeFuncNested
import Derived.RangeFuncBound
import Derived.RangeFuncCalls
import Derived.RangeFuncLeaves
set_option linter.all false
set_option linter.unnecessarySimpa false
set_option linter.unusedSimpArgs false
set_option linter.unusedVariables false
/- A range over a function whose rounds are handed what can be read: the iterator's word tells the round, beside the elements that came, what lies in memory of the one that comes. No program is known here. -/
namespace Go.Proofs.YtaiekfeiaamemaaGreatDoor
open Go.ChangeShapes Go.WideShapes Go.ChangeAt Go.RowKit

/-- the record of a loop, by its state -/
structure RecAt (l K : Nat) (mk : LoopState → Option Code → Loop) (st : LoopState) (pe : Option Code) (W : World) : Prop where
  rec_ : W.heap[l]? = some (.loop (mk st pe))
  dfr : W.heap[K]? = some (.deferred (some []))
theorem RecAt.abides {l K : Nat} {mk : LoopState → Option Code → Loop} {st : LoopState} {pe : Option Code} {A B : World} {row : Option Nat} (h : RecAt l K mk st pe A) (hg : A.grownBy B row) (hr : ∀ r, row = some r → ∃ o : Obj, A.heap[r]? = some o ∧ o.isWalk = true) : RecAt l K mk st pe B :=
  ⟨(grownBy_keeps hg hr h.rec_ rfl).trans h.rec_, (grownBy_keeps hg hr h.dfr rfl).trans h.dfr⟩

variable {F : Fence} {n : Nat} {P : Program}
end Go.Proofs.YtaiekfeiaamemaaGreatDoor
namespace Go.Proofs.YtaiekfeiaamemaaGreatDoor
open Go.ChangeShapes Go.WideShapes Go.ChangeAt Go.RowKit

/-- the blocks for the rounds' deferred calls, none of which was made -/
structure Marks (B : Nat) (Ds : List Nat) (W : World) : Prop where
  nodup : Ds.Nodup
  at_ : ∀ D ∈ Ds, B ≤ D ∧ W.heap[D]? = some (.deferred (some []))
def marksOf (Ds : List Nat) : List Deferred := Ds.map fun D => { target := .collected D, args := #[] }
def shut : List Nat → World → World
  | [], W => W
  | D :: Ds, W => shut Ds (W.putObj D (.deferred none))
theorem Marks.nil (B : Nat) (W : World) : Marks B [] W := ⟨List.nodup_nil, fun _ h => by cases h⟩
theorem Marks.tail {B : Nat} {D : Nat} {Ds : List Nat} {W : World} (h : Marks B (D :: Ds) W) : Marks B Ds (W.putObj D (.deferred none)) :=
  ⟨(List.nodup_cons.1 h.nodup).2, fun E hE => ⟨(h.at_ E (List.mem_cons_of_mem _ hE)).1, (World.putObj_heap_other (fun e => (List.nodup_cons.1 h.nodup).1 (by rw [← e]; exact hE))).trans (h.at_ E (List.mem_cons_of_mem _ hE)).2⟩⟩
/-- one more, laid behind all -/
theorem Marks.more {B D : Nat} {Ds : List Nat} {W : World} (h : Marks B Ds W) (hlt : ∀ E ∈ Ds, E < D) (hB : B ≤ D) (hD : W.heap[D]? = some (.deferred (some []))) : Marks B (D :: Ds) W :=
  ⟨List.nodup_cons.2 ⟨fun hm => by have := hlt D hm; omega, h.nodup⟩, fun E hE => by
    rcases List.mem_cons.1 hE with rfl | hE
    · exact ⟨hB, hD⟩
    · exact h.at_ E hE⟩
theorem Marks.lt {B : Nat} {Ds : List Nat} {W : World} (h : Marks B Ds W) : ∀ E ∈ Ds, E < W.heap.size := fun E hE => (Array.getElem?_eq_some_iff.1 (h.at_ E hE).2).1
theorem Marks.next {B : Nat} {Ds : List Nat} {W W' : World} (h : Marks B Ds W) (hb : Below W.heap.size W W') : Marks B Ds W' := ⟨h.nodup, fun D hD => ⟨(h.at_ D hD).1, (hb.block D (h.lt D hD)).trans (h.at_ D hD).2⟩⟩
theorem Marks.own {B B' : Nat} {β : Type} {I : β → World → Prop} (hI : OwnFrom B' I) (hB : B' ≤ B) {s : β} : ∀ (Ds : List Nat) (W : World), Marks B Ds W → I s W → I s (shut Ds W) := by
  intro Ds
  induction Ds with
  | nil => exact fun _ _ h => h
  | cons D Ds ih =>
    intro W h hs
    exact ih _ h.tail (hI.putObj _ hs (by have := (h.at_ D (List.mem_cons_self ..)).1; omega) (h.at_ D (List.mem_cons_self ..)).2 rfl)

theorem leaves_marks {F : Fence} {n : Nat} {P : Program} {fn : Func} {tmps : Array Value} {R : Ending → World → Prop} {B : Nat} : ∀ (Ds : List Nat) (W : World), Marks B Ds W →
    (∃ v, (results fn tmps).run P (shut Ds W) = .ok v (shut Ds W) ∧ R (.returned v) (shut Ds W)) → LeavesInM F n P fn tmps R (marksOf Ds) .returning W := by
  intro Ds
  induction Ds with
  | nil => exact fun _ _ h => h
  | cons D Ds ih => exact fun W hm h => ⟨by simp, .inl ⟨D, _, rfl, run_takeDeferred (hm.at_ D (List.mem_cons_self ..)).2, ih _ hm.tail h⟩⟩
end Go.Proofs.YtaiekfeiaamemaaGreatDoor
