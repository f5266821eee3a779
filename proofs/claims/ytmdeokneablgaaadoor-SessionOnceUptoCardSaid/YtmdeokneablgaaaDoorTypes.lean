/- How this program's own types are read: stamps. -/
import Derived.Test.YtmdeokneablgaaaDoorRep
namespace Go.Proofs.YtmdeokneablgaaaDoor
open Go.ChangeShapes Go.WideShapes Go.ChangeAt Go.RowKit

structure Stamp where
  count : Int
  node : Int
  deriving DecidableEq

def StampR (cs : List Value) (s : Stamp) : Prop := cs = [.int .i64 s.count, .int .i64 s.node] ∧ I64 s.count ∧ I64 s.node

theorem opens_stamp {w : World} : Opens Tryd.prog w 38 2 StampR := by
  intro H enc fuel cs x h
  obtain ⟨hl, n, hf⟩ := struct_pieces Tryd.underlying38 h
  have hk : Tryd.prog.cellsOf 38 = 2 := by kernel_rfl
  have hi : Tryd.prog.cellsOf 3 = 1 := by kernel_rfl
  rw [hk] at hl
  refine ⟨hl, ?_⟩
  match cs, hl with
  | [v0, v1], _ =>
    obtain ⟨y0, h0⟩ := hf 0 3 0 1 rfl hi
    obtain ⟨y1, h1⟩ := hf 1 3 1 1 rfl hi
    obtain ⟨_, a, e0, ia⟩ := opens_int (w := w) Tryd.underlying3 H enc n _ _ h0
    obtain ⟨_, b, e1, ib⟩ := opens_int (w := w) Tryd.underlying3 H enc n _ _ h1
    simp at e0 e1
    subst e0 e1
    exact ⟨⟨a, b⟩, rfl, ia, ib⟩

abbrev Stamps := Sl StampR 2
theorem opens_stamps {w : World} : Opens Tryd.prog w 27 1 (fun cs l => ∃ v, cs = [v] ∧ Stamps w w.heap.size v l) :=
  opens_slice Tryd.underlying27 (by kernel_rfl) (by omega) opens_stamp
end Go.Proofs.YtmdeokneablgaaaDoor
