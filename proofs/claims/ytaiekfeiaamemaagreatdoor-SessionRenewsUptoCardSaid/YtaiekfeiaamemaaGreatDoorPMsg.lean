/- Bodies, messages and subscriptions: how they are read. -/
import Derived.Test.YtaiekfeiaamemaaGreatDoorPNote
set_option linter.all false
set_option linter.unnecessarySimpa false
set_option linter.unusedSimpArgs false
set_option linter.unusedVariables false
namespace Go.Proofs.YtaiekfeiaamemaaGreatDoor
open Go.ChangeShapes Go.WideShapes Go.ChangeAt Go.RowKit

/-- a byte -/
def ByteR (cs : List Value) (b : Nat) : Prop := cs = [.int .u8 b] ∧ b < 256
theorem opens_byte {w : World} : Opens Tryz.prog w 5 1 ByteR := by
  intro H enc fuel cs x h
  obtain ⟨n, rfl, _, hw⟩ := DataW.trod_int Tryz.underlying5 h.1
  have h0 : 0 ≤ n ∧ n < 256 := by
    simp [Lit.wf, IntKind.max, IntKind.min, IntKind.signed, IntKind.bits] at hw
    omega
  refine ⟨rfl, n.toNat, ?_, by omega⟩
  rw [show ((n.toNat : Nat) : Int) = n by omega]
abbrev Bytes := Sl ByteR 1
theorem opens_bytes {w : World} : Opens Tryz.prog w 64 1 (fun cs l => ∃ v, cs = [v] ∧ Bytes w w.heap.size v l) :=
  opens_slice Tryz.underlying64 (by kernel_rfl) (by omega) opens_byte

structure Body where
  object : Int
  stamp : Stamp
  value : List Nat
  deriving DecidableEq
def BodyR (w : World) (B : Nat) (cs : List Value) (x : Body) : Prop :=
  ∃ v, cs = [.int .i64 x.object, .int .i64 x.stamp.count, .int .i64 x.stamp.node, v] ∧ I64 x.object ∧ I64 x.stamp.count ∧ I64 x.stamp.node ∧ Bytes w B v x.value
theorem opens_body {w : World} : Opens Tryz.prog w 66 4 (BodyR w w.heap.size) := by
  intro H enc fuel cs x h
  obtain ⟨hl, n, hf⟩ := struct_pieces Tryz.underlying66 h
  have hk : Tryz.prog.cellsOf 66 = 4 := by kernel_rfl
  have hs : Tryz.prog.cellsOf 63 = 2 := by kernel_rfl
  have hi : Tryz.prog.cellsOf 3 = 1 := by kernel_rfl
  have hb : Tryz.prog.cellsOf 64 = 1 := by kernel_rfl
  rw [hk] at hl
  refine ⟨hl, ?_⟩
  match cs, hl with
  | [v0, v1, v2, v3], _ =>
    obtain ⟨y0, h0⟩ := hf 0 3 0 1 rfl hi
    obtain ⟨y1, h1⟩ := hf 1 63 1 2 rfl hs
    obtain ⟨y2, h2⟩ := hf 2 64 3 1 rfl hb
    obtain ⟨_, a, e0, i0⟩ := opens_int (w := w) Tryz.underlying3 H enc n _ _ h0
    obtain ⟨_, s, e1, i1, i2⟩ := opens_stamp (w := w) H enc n _ _ h1
    obtain ⟨_, b, v, e2, hv⟩ := opens_bytes (w := w) H enc n _ _ h2
    simp at e0 e1 e2
    obtain ⟨rfl, rfl⟩ := e1
    subst e0 e2
    exact ⟨⟨a, s, b⟩, _, rfl, i0, i1, i2, hv⟩

structure Sub where
  from_ : Int
  interest : List Span
  session : Int
  seq : Int
  live : Bool
  heard : Bool
  idle : Bool
  deriving DecidableEq
def SubR (w : World) (B : Nat) (cs : List Value) (x : Sub) : Prop :=
  ∃ v, cs = [.int .i64 x.from_, v, .int .i64 x.session, .int .i64 x.seq, .bool x.live, .bool x.heard, .bool x.idle] ∧ I64 x.from_ ∧ I64 x.session ∧ I64 x.seq ∧ Spans w B v x.interest
theorem opens_sub {w : World} : Opens Tryz.prog w 123 7 (SubR w w.heap.size) := by
  intro H enc fuel cs x h
  obtain ⟨hl, n, hf⟩ := struct_pieces Tryz.underlying123 h
  have hk : Tryz.prog.cellsOf 123 = 7 := by kernel_rfl
  have hs : Tryz.prog.cellsOf 47 = 1 := by kernel_rfl
  have hi : Tryz.prog.cellsOf 3 = 1 := by kernel_rfl
  have hb : Tryz.prog.cellsOf 4 = 1 := by kernel_rfl
  rw [hk] at hl
  refine ⟨hl, ?_⟩
  match cs, hl with
  | [v0, v1, v2, v3, v4, v5, v6], _ =>
    obtain ⟨y0, h0⟩ := hf 0 3 0 1 rfl hi
    obtain ⟨y1, h1⟩ := hf 1 47 1 1 rfl hs
    obtain ⟨y2, h2⟩ := hf 2 3 2 1 rfl hi
    obtain ⟨y3, h3⟩ := hf 3 3 3 1 rfl hi
    obtain ⟨y4, h4⟩ := hf 4 4 4 1 rfl hb
    obtain ⟨y5, h5⟩ := hf 5 4 5 1 rfl hb
    obtain ⟨y6, h6⟩ := hf 6 4 6 1 rfl hb
    obtain ⟨_, a, e0, i0⟩ := opens_int (w := w) Tryz.underlying3 H enc n _ _ h0
    obtain ⟨_, l, v, e1, hv⟩ := opens_spans (w := w) H enc n _ _ h1
    obtain ⟨_, b, e2, i2⟩ := opens_int (w := w) Tryz.underlying3 H enc n _ _ h2
    obtain ⟨_, c, e3, i3⟩ := opens_int (w := w) Tryz.underlying3 H enc n _ _ h3
    obtain ⟨_, d, e4⟩ := opens_bool (w := w) Tryz.underlying4 H enc n _ _ h4
    obtain ⟨_, f, e5⟩ := opens_bool (w := w) Tryz.underlying4 H enc n _ _ h5
    obtain ⟨_, g, e6⟩ := opens_bool (w := w) Tryz.underlying4 H enc n _ _ h6
    simp at e0 e1 e2 e3 e4 e5 e6
    subst e0 e1 e2 e3 e4 e5 e6
    exact ⟨⟨a, l, b, c, d, f, g⟩, _, rfl, i0, i2, i3, hv⟩
abbrev Subs (w : World) (B : Nat) := Sl (SubR w B) 7 w B
theorem Subs.next {w w' : World} {v : Value} {l : List Sub} (h : Subs w w.heap.size v l) (hb : Below w.heap.size w w') : Subs w' w'.heap.size v l :=
  h.keep (fun _ _ ⟨v, e, h1, h2, h3, h4⟩ => ⟨v, e, h1, h2, h3, h4.next hb⟩) hb.size fun _ hp => hb.cell hp
theorem opens_subs {w : World} : Opens Tryz.prog w 22 1 (fun cs l => ∃ v, cs = [v] ∧ Subs w w.heap.size v l) :=
  opens_slice Tryz.underlying22 (by kernel_rfl) (by omega) opens_sub

structure Out where
  to_ : Int
  session : Int
  interest : List Span
  at_ : Int
  seq : Int
  deriving DecidableEq
def OutR (w : World) (B : Nat) (cs : List Value) (x : Out) : Prop :=
  ∃ v, cs = [.int .i64 x.to_, .int .i64 x.session, v, .int .i64 x.at_, .int .i64 x.seq] ∧ I64 x.to_ ∧ I64 x.session ∧ I64 x.at_ ∧ I64 x.seq ∧ Spans w B v x.interest
abbrev Outs (w : World) (B : Nat) := Sl (OutR w B) 5 w B
theorem Outs.next {w w' : World} {v : Value} {l : List Out} (h : Outs w w.heap.size v l) (hb : Below w.heap.size w w') : Outs w' w'.heap.size v l :=
  h.keep (fun _ _ ⟨v, e, h1, h2, h3, h4, h5⟩ => ⟨v, e, h1, h2, h3, h4, h5.next hb⟩) hb.size fun _ hp => hb.cell hp
structure Msg where
  kind : Int
  from_ : Int
  to_ : Int
  session : Int
  seq : Int
  interest : List Span
  vector : List Stamp
  notes : List Note
  body : Body
  deriving DecidableEq
/-- the four slices of a message -/
structure MsgV (w : World) (B : Nat) (vi vv vn vb : Value) (x : Msg) : Prop where
  interest : Spans w B vi x.interest
  vector : Stamps w B vv x.vector
  notes : Notes w B vn x.notes
  value : Bytes w B vb x.body.value
theorem MsgV.next {w w' : World} {v0 v1 v2 v3 : Value} {x : Msg} (h : MsgV w w.heap.size v0 v1 v2 v3 x) (hb : Below w.heap.size w w') : MsgV w' w'.heap.size v0 v1 v2 v3 x :=
  ⟨h.interest.next hb, h.vector.next hb, h.notes.next hb, h.value.next hb⟩
def msgCells (vi vv vn vb : Value) (x : Msg) : Array Value :=
  #[.int .i64 x.kind, .int .i64 x.from_, .int .i64 x.to_, .int .i64 x.session, .int .i64 x.seq, vi, vv, vn, .int .i64 x.body.object, .int .i64 x.body.stamp.count, .int .i64 x.body.stamp.node, vb]
structure MsgI (x : Msg) : Prop where
  kind : I64 x.kind
  from_ : I64 x.from_
  to_ : I64 x.to_
  session : I64 x.session
  seq : I64 x.seq
  object : I64 x.body.object
end Go.Proofs.YtaiekfeiaamemaaGreatDoor
