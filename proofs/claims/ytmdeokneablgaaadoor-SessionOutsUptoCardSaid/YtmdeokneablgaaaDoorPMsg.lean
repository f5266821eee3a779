/- Bodies, messages and subscriptions: how they are read. -/
import Derived.Test.YtmdeokneablgaaaDoorPNote
namespace Go.Proofs.YtmdeokneablgaaaDoor
open Go.ChangeShapes Go.WideShapes Go.ChangeAt Go.RowKit

/-- a byte -/
def ByteR (cs : List Value) (b : Nat) : Prop := cs = [.int .u8 b] ∧ b < 256
theorem opens_byte {w : World} : Opens Tryd.prog w 5 1 ByteR := by
  intro H enc fuel cs x h
  obtain ⟨n, rfl, _, hw⟩ := DataW.trod_int Tryd.underlying5 h.1
  have h0 : 0 ≤ n ∧ n < 256 := by
    simp [Lit.wf, IntKind.max, IntKind.min, IntKind.signed, IntKind.bits] at hw
    omega
  refine ⟨rfl, n.toNat, ?_, by omega⟩
  rw [show ((n.toNat : Nat) : Int) = n by omega]
abbrev Bytes := Sl ByteR 1
theorem opens_bytes {w : World} : Opens Tryd.prog w 22 1 (fun cs l => ∃ v, cs = [v] ∧ Bytes w w.heap.size v l) :=
  opens_slice Tryd.underlying22 (by kernel_rfl) (by omega) opens_byte

structure Body where
  object : Int
  stamp : Stamp
  value : List Nat
  deriving DecidableEq
def BodyR (w : World) (B : Nat) (cs : List Value) (x : Body) : Prop :=
  ∃ v, cs = [.int .i64 x.object, .int .i64 x.stamp.count, .int .i64 x.stamp.node, v] ∧ I64 x.object ∧ I64 x.stamp.count ∧ I64 x.stamp.node ∧ Bytes w B v x.value
theorem opens_body {w : World} : Opens Tryd.prog w 40 4 (BodyR w w.heap.size) := by
  intro H enc fuel cs x h
  obtain ⟨hl, n, hf⟩ := struct_pieces Tryd.underlying40 h
  have hk : Tryd.prog.cellsOf 40 = 4 := by kernel_rfl
  have hs : Tryd.prog.cellsOf 38 = 2 := by kernel_rfl
  have hi : Tryd.prog.cellsOf 3 = 1 := by kernel_rfl
  have hb : Tryd.prog.cellsOf 22 = 1 := by kernel_rfl
  rw [hk] at hl
  refine ⟨hl, ?_⟩
  match cs, hl with
  | [v0, v1, v2, v3], _ =>
    obtain ⟨y0, h0⟩ := hf 0 3 0 1 rfl hi
    obtain ⟨y1, h1⟩ := hf 1 38 1 2 rfl hs
    obtain ⟨y2, h2⟩ := hf 2 22 3 1 rfl hb
    obtain ⟨_, a, e0, i0⟩ := opens_int (w := w) Tryd.underlying3 H enc n _ _ h0
    obtain ⟨_, s, e1, i1, i2⟩ := opens_stamp (w := w) H enc n _ _ h1
    obtain ⟨_, b, v, e2, hv⟩ := opens_bytes (w := w) H enc n _ _ h2
    simp at e0 e1 e2
    obtain ⟨rfl, rfl⟩ := e1
    subst e0 e2
    exact ⟨⟨a, s, b⟩, _, rfl, i0, i1, i2, hv⟩

structure Sub where
  from_ : Int
  interest : List Span
  session : Int
  seq : Int
  live : Bool
  heard : Bool
  idle : Bool
  deriving DecidableEq
def SubR (w : World) (B : Nat) (cs : List Value) (x : Sub) : Prop :=
  ∃ v, cs = [.int .i64 x.from_, v, .int .i64 x.session, .int .i64 x.seq, .bool x.live, .bool x.heard, .bool x.idle] ∧ I64 x.from_ ∧ I64 x.session ∧ I64 x.seq ∧ Spans w B v x.interest
theorem opens_sub {w : World} : Opens Tryd.prog w 35 7 (SubR w w.heap.size) := by
  intro H enc fuel cs x h
  obtain ⟨hl, n, hf⟩ := struct_pieces Tryd.underlying35 h
  have hk : Tryd.prog.cellsOf 35 = 7 := by kernel_rfl
  have hs : Tryd.prog.cellsOf 28 = 1 := by kernel_rfl
  have hi : Tryd.prog.cellsOf 3 = 1 := by kernel_rfl
  have hb : Tryd.prog.cellsOf 4 = 1 := by kernel_rfl
  rw [hk] at hl
  refine ⟨hl, ?_⟩
  match cs, hl with
  | [v0, v1, v2, v3, v4, v5, v6], _ =>
    obtain ⟨y0, h0⟩ := hf 0 3 0 1 rfl hi
    obtain ⟨y1, h1⟩ := hf 1 28 1 1 rfl hs
    obtain ⟨y2, h2⟩ := hf 2 3 2 1 rfl hi
    obtain ⟨y3, h3⟩ := hf 3 3 3 1 rfl hi
    obtain ⟨y4, h4⟩ := hf 4 4 4 1 rfl hb
    obtain ⟨y5, h5⟩ := hf 5 4 5 1 rfl hb
    obtain ⟨y6, h6⟩ := hf 6 4 6 1 rfl hb
    obtain ⟨_, a, e0, i0⟩ := opens_int (w := w) Tryd.underlying3 H enc n _ _ h0
    obtain ⟨_, l, v, e1, hv⟩ := opens_spans (w := w) H enc n _ _ h1
    obtain ⟨_, b, e2, i2⟩ := opens_int (w := w) Tryd.underlying3 H enc n _ _ h2
    obtain ⟨_, c, e3, i3⟩ := opens_int (w := w) Tryd.underlying3 H enc n _ _ h3
    obtain ⟨_, d, e4⟩ := opens_bool (w := w) Tryd.underlying4 H enc n _ _ h4
    obtain ⟨_, f, e5⟩ := opens_bool (w := w) Tryd.underlying4 H enc n _ _ h5
    obtain ⟨_, g, e6⟩ := opens_bool (w := w) Tryd.underlying4 H enc n _ _ h6
    simp at e0 e1 e2 e3 e4 e5 e6
    subst e0 e1 e2 e3 e4 e5 e6
    exact ⟨⟨a, l, b, c, d, f, g⟩, _, rfl, i0, i2, i3, hv⟩
abbrev Subs (w : World) (B : Nat) := Sl (SubR w B) 7 w B
theorem Subs.next {w w' : World} {v : Value} {l : List Sub} (h : Subs w w.heap.size v l) (hb : Below w.heap.size w w') : Subs w' w'.heap.size v l :=
  h.keep (fun _ _ ⟨v, e, h1, h2, h3, h4⟩ => ⟨v, e, h1, h2, h3, h4.next hb⟩) hb.size fun _ hp => hb.cell hp
theorem opens_subs {w : World} : Opens Tryd.prog w 36 1 (fun cs l => ∃ v, cs = [v] ∧ Subs w w.heap.size v l) :=
  opens_slice Tryd.underlying36 (by kernel_rfl) (by omega) opens_sub

structure Out where
  to_ : Int
  session : Int
  interest : List Span
  at_ : Int
  seq : Int
  deriving DecidableEq
def OutR (w : World) (B : Nat) (cs : List Value) (x : Out) : Prop :=
  ∃ v, cs = [.int .i64 x.to_, .int .i64 x.session, v, .int .i64 x.at_, .int .i64 x.seq] ∧ I64 x.to_ ∧ I64 x.session ∧ I64 x.at_ ∧ I64 x.seq ∧ Spans w B v x.interest
theorem opens_out {w : World} : Opens Tryd.prog w 54 5 (OutR w w.heap.size) := by
  intro H enc fuel cs x h
  obtain ⟨hl, n, hf⟩ := struct_pieces Tryd.underlying54 h
  have hk : Tryd.prog.cellsOf 54 = 5 := by kernel_rfl
  have hs : Tryd.prog.cellsOf 28 = 1 := by kernel_rfl
  have hi : Tryd.prog.cellsOf 3 = 1 := by kernel_rfl
  rw [hk] at hl
  refine ⟨hl, ?_⟩
  match cs, hl with
  | [v0, v1, v2, v3, v4], _ =>
    obtain ⟨y0, h0⟩ := hf 0 3 0 1 rfl hi
    obtain ⟨y1, h1⟩ := hf 1 3 1 1 rfl hi
    obtain ⟨y2, h2⟩ := hf 2 28 2 1 rfl hs
    obtain ⟨y3, h3⟩ := hf 3 3 3 1 rfl hi
    obtain ⟨y4, h4⟩ := hf 4 3 4 1 rfl hi
    obtain ⟨_, a, e0, i0⟩ := opens_int (w := w) Tryd.underlying3 H enc n _ _ h0
    obtain ⟨_, b, e1, i1⟩ := opens_int (w := w) Tryd.underlying3 H enc n _ _ h1
    obtain ⟨_, l, v, e2, hv⟩ := opens_spans (w := w) H enc n _ _ h2
    obtain ⟨_, c, e3, i3⟩ := opens_int (w := w) Tryd.underlying3 H enc n _ _ h3
    obtain ⟨_, d, e4, i4⟩ := opens_int (w := w) Tryd.underlying3 H enc n _ _ h4
    simp at e0 e1 e2 e3 e4
    subst e0 e1 e2 e3 e4
    exact ⟨⟨a, b, l, c, d⟩, _, rfl, i0, i1, i3, i4, hv⟩
abbrev Outs (w : World) (B : Nat) := Sl (OutR w B) 5 w B
theorem Outs.next {w w' : World} {v : Value} {l : List Out} (h : Outs w w.heap.size v l) (hb : Below w.heap.size w w') : Outs w' w'.heap.size v l :=
  h.keep (fun _ _ ⟨v, e, h1, h2, h3, h4, h5⟩ => ⟨v, e, h1, h2, h3, h4, h5.next hb⟩) hb.size fun _ hp => hb.cell hp
theorem opens_outs {w : World} : Opens Tryd.prog w 52 1 (fun cs l => ∃ v, cs = [v] ∧ Outs w w.heap.size v l) :=
  opens_slice Tryd.underlying52 (by kernel_rfl) (by omega) opens_out

structure Msg where
  kind : Int
  from_ : Int
  to_ : Int
  session : Int
  seq : Int
  interest : List Span
  vector : List Stamp
  notes : List Note
  body : Body
  deriving DecidableEq
/-- the four slices of a message -/
structure MsgV (w : World) (B : Nat) (vi vv vn vb : Value) (x : Msg) : Prop where
  interest : Spans w B vi x.interest
  vector : Stamps w B vv x.vector
  notes : Notes w B vn x.notes
  value : Bytes w B vb x.body.value
theorem MsgV.next {w w' : World} {v0 v1 v2 v3 : Value} {x : Msg} (h : MsgV w w.heap.size v0 v1 v2 v3 x) (hb : Below w.heap.size w w') : MsgV w' w'.heap.size v0 v1 v2 v3 x :=
  ⟨h.interest.next hb, h.vector.next hb, h.notes.next hb, h.value.next hb⟩
def msgCells (vi vv vn vb : Value) (x : Msg) : Array Value :=
  #[.int .i64 x.kind, .int .i64 x.from_, .int .i64 x.to_, .int .i64 x.session, .int .i64 x.seq, vi, vv, vn, .int .i64 x.body.object, .int .i64 x.body.stamp.count, .int .i64 x.body.stamp.node, vb]
structure MsgI (x : Msg) : Prop where
  kind : I64 x.kind
  from_ : I64 x.from_
  to_ : I64 x.to_
  session : I64 x.session
  seq : I64 x.seq
  object : I64 x.body.object
def MsgR (w : World) (B : Nat) (cs : List Value) (x : Msg) : Prop := ∃ vi vv vn vb, cs = (msgCells vi vv vn vb x).toList ∧ MsgI x ∧ MsgV w B vi vv vn vb x
theorem opens_msg {w : World} : Opens Tryd.prog w 42 12 (MsgR w w.heap.size) := by
  intro H enc fuel cs x h
  obtain ⟨hl, n, hf⟩ := struct_pieces Tryd.underlying42 h
  have hk : Tryd.prog.cellsOf 42 = 12 := by kernel_rfl
  have hi : Tryd.prog.cellsOf 3 = 1 := by kernel_rfl
  have hs : Tryd.prog.cellsOf 28 = 1 := by kernel_rfl
  have hv : Tryd.prog.cellsOf 27 = 1 := by kernel_rfl
  have hn : Tryd.prog.cellsOf 23 = 1 := by kernel_rfl
  have hb : Tryd.prog.cellsOf 40 = 4 := by kernel_rfl
  rw [hk] at hl
  refine ⟨hl, ?_⟩
  match cs, hl with
  | [v0, v1, v2, v3, v4, v5, v6, v7, v8, v9, v10, v11], _ =>
    obtain ⟨y0, h0⟩ := hf 0 3 0 1 rfl hi
    obtain ⟨y1, h1⟩ := hf 1 3 1 1 rfl hi
    obtain ⟨y2, h2⟩ := hf 2 3 2 1 rfl hi
    obtain ⟨y3, h3⟩ := hf 3 3 3 1 rfl hi
    obtain ⟨y4, h4⟩ := hf 4 3 4 1 rfl hi
    obtain ⟨y5, h5⟩ := hf 5 28 5 1 rfl hs
    obtain ⟨y6, h6⟩ := hf 6 27 6 1 rfl hv
    obtain ⟨y7, h7⟩ := hf 7 23 7 1 rfl hn
    obtain ⟨y8, h8⟩ := hf 8 40 8 4 rfl hb
    obtain ⟨_, a0, e0, i0⟩ := opens_int (w := w) Tryd.underlying3 H enc n _ _ h0
    obtain ⟨_, a1, e1, i1⟩ := opens_int (w := w) Tryd.underlying3 H enc n _ _ h1
    obtain ⟨_, a2, e2, i2⟩ := opens_int (w := w) Tryd.underlying3 H enc n _ _ h2
    obtain ⟨_, a3, e3, i3⟩ := opens_int (w := w) Tryd.underlying3 H enc n _ _ h3
    obtain ⟨_, a4, e4, i4⟩ := opens_int (w := w) Tryd.underlying3 H enc n _ _ h4
    obtain ⟨_, a5, _, e5, s5⟩ := opens_spans (w := w) H enc n _ _ h5
    obtain ⟨_, a6, _, e6, s6⟩ := opens_stamps (w := w) H enc n _ _ h6
    obtain ⟨_, a7, _, e7, s7⟩ := opens_notes (w := w) H enc n _ _ h7
    obtain ⟨_, a8, _, e8, j0, j1, j2, s8⟩ := opens_body (w := w) H enc n _ _ h8
    simp at e0 e1 e2 e3 e4 e5 e6 e7 e8
    obtain ⟨rfl, rfl, rfl, rfl⟩ := e8
    subst e0 e1 e2 e3 e4 e5 e6 e7
    exact ⟨⟨a0, a1, a2, a3, a4, a5, a6, a7, a8⟩, _, _, _, _, rfl, ⟨i0, i1, i2, i3, i4, j0⟩, s5, s6, s7, s8⟩
end Go.Proofs.YtmdeokneablgaaaDoor
