/- The arguments of a stream's laws: logs and asks, as they are read and as data. -/
import Derived.Test.YtdbeoigbkkdpdaaGreatDoorPAbsNil
import Derived.Test.YtdbeoigbkkdpdaaGreatDoorPEnc
import Derived.Test.YtdbeoigbkkdpdaaGreatDoorPStreamSpec
set_option linter.all false
set_option linter.unnecessarySimpa false
set_option linter.unusedSimpArgs false
set_option linter.unusedVariables false
namespace Go.Proofs.YtdbeoigbkkdpdaaGreatDoor
open Go.ChangeShapes Go.WideShapes Go.ChangeAt Go.RowKit

def LogR (w : World) (B : Nat) (cs : List Value) (l : Log) : Prop := ∃ v0 v1, cs = [v0, v1, .int .i64 l.sure] ∧ Stamps w B v0 l.base ∧ Notes w B v1 l.notes ∧ I64 l.sure
theorem opens_log {w : World} : Opens Tryz.prog w 42 3 (LogR w w.heap.size) := by
  intro H enc fuel cs x h
  obtain ⟨hl, n, hf⟩ := struct_pieces Tryz.underlying42 h
  have hk : Tryz.prog.cellsOf 42 = 3 := by kernel_rfl
  have hs : Tryz.prog.cellsOf 24 = 1 := by kernel_rfl
  have hn : Tryz.prog.cellsOf 40 = 1 := by kernel_rfl
  have hi : Tryz.prog.cellsOf 3 = 1 := by kernel_rfl
  rw [hk] at hl
  refine ⟨hl, ?_⟩
  match cs, hl with
  | [v0, v1, v2], _ =>
    obtain ⟨y0, h0⟩ := hf 0 24 0 1 rfl hs
    obtain ⟨y1, h1⟩ := hf 1 40 1 1 rfl hn
    obtain ⟨y2, h2⟩ := hf 2 3 2 1 rfl hi
    obtain ⟨_, a, _, e0, s0⟩ := opens_stamps (w := w) H enc n _ _ h0
    obtain ⟨_, b, _, e1, s1⟩ := opens_notes (w := w) H enc n _ _ h1
    obtain ⟨_, c, e2, i2⟩ := opens_int (w := w) Tryz.underlying3 H enc n _ _ h2
    simp at e0 e1 e2
    subst e0 e1 e2
    exact ⟨⟨a, b, c⟩, _, _, rfl, s0, s1, i2⟩
structure Ask where
  at_ : Int
  most : Int
def AskR (cs : List Value) (a : Ask) : Prop := cs = [.int .i64 a.at_, .int .i64 a.most] ∧ I64 a.at_ ∧ I64 a.most
theorem opens_ask {w : World} : Opens Tryz.prog w 44 2 AskR := by
  intro H enc fuel cs x h
  obtain ⟨hl, n, hf⟩ := struct_pieces Tryz.underlying44 h
  have hk : Tryz.prog.cellsOf 44 = 2 := by kernel_rfl
  have hi : Tryz.prog.cellsOf 3 = 1 := by kernel_rfl
  rw [hk] at hl
  refine ⟨hl, ?_⟩
  match cs, hl with
  | [v0, v1], _ =>
    obtain ⟨y0, h0⟩ := hf 0 3 0 1 rfl hi
    obtain ⟨y1, h1⟩ := hf 1 3 1 1 rfl hi
    obtain ⟨_, a, e0, i0⟩ := opens_int (w := w) Tryz.underlying3 H enc n _ _ h0
    obtain ⟨_, b, e1, i1⟩ := opens_int (w := w) Tryz.underlying3 H enc n _ _ h1
    simp at e0 e1
    subst e0 e1
    exact ⟨⟨a, b⟩, rfl, i0, i1⟩
def logA (l : Log) : AV := .agg [.iv (stI l.base), .iv (noI l.notes), .val (.int .i64 l.sure)]
theorem logA_eq (l : Log) : logA l = .agg [.iv (stI l.base), .iv (noI l.notes), .val (.int .i64 l.sure)] := rfl
theorem n_rep {X : World} {cs : List Value} {x : Note} (h : NoteR X X.heap.size cs x) : RepVs X cs (enN x) := by
  obtain ⟨v0, v1, v2, v3, rfl, h⟩ := h
  exact ⟨stamps_rep h.start (Nat.le_refl _), stamps_rep h.end_ (Nat.le_refl _), spans_rep h.blur (Nat.le_refl _), writes_rep h.writes (Nat.le_refl _), trivial⟩
theorem notes_rep {X : World} {v : Value} {l : List Note} (h : Notes X X.heap.size v l) : RepV X v (noI l) := RepV.of_typed (fun _ _ h => n_rep h) h (Nat.le_refl _)
theorem log_rep {E : Env} {X : World} {v0 v1 : Value} {l : Log} (h0 : Stamps X X.heap.size v0 l.base) (h1 : Notes X X.heap.size v1 l.notes) : RepA E X (.agg #[v0, v1, .int .i64 l.sure]) (logA l) :=
  .agg rfl fun j v c a b => by
    match j, a, b with
    | 0, a, b => simp at a b; subst a b; exact .iv (stamps_rep h0 (Nat.le_refl _))
    | 1, a, b => simp at a b; subst a b; exact .iv (notes_rep h1)
    | 2, a, b => simp at a b; subst a b; exact .val
    | j + 3, a, b => simp at a
theorem ask_rep {E : Env} {X : World} {a : Ask} : RepA E X (.agg #[.int .i64 a.at_, .int .i64 a.most]) (.agg [.val (.int .i64 a.at_), .val (.int .i64 a.most)]) :=
  .agg rfl fun j v c e1 e2 => by
    match j, e1, e2 with
    | 0, a, b => simp at a b; subst a b; exact .val
    | 1, a, b => simp at a b; subst a b; exact .val
    | j + 2, a, b => simp at a
theorem ACalls.law {P : Program} {G : World → Prop} {f : FuncId} {args : List AV} {r : Value} (h : ACalls P G f args (.val r) []) {W : World} {vs : Array Value} (hG : G W) (hr : RepAs ⟨fun _ => 0, fun _ => undef⟩ W vs.toList args) :
    Calls P f vs W fun e w' => e = .returned r ∧ Below W.heap.size W w' :=
  (h.2 W W _ vs (Ext.refl W) hG hr).mono fun _ _ ⟨v, E', h1, h2, _, _, _, h6⟩ => by
    cases h6
    exact ⟨h1, h2⟩
end Go.Proofs.YtdbeoigbkkdpdaaGreatDoor
