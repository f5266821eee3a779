/- Bodies, messages and subscriptions: how they are read. -/
import Derived.Test.YtkphfdmelfhnoaaGreatDoorPSpanSet
import Derived.Test.YtkphfdmelfhnoaaGreatDoorPCovers
set_option linter.all false
set_option linter.unnecessarySimpa false
set_option linter.unusedSimpArgs false
set_option linter.unusedVariables false
namespace Go.Proofs.YtkphfdmelfhnoaaGreatDoor
open Go.ChangeShapes Go.WideShapes Go.ChangeAt Go.RowKit
def spanHas (l : List Span) (o : Int) : Bool := decide (0 ≤ o ∧ o ≤ 255) && memB l o
def idxFrom {α : Type} (p : α → Bool) : Nat → List α → Int
 | _, [] => -1
 | i, x :: l => if p x then i else idxFrom p (i + 1) l
theorem idxFrom_any {α : Type} (p : α → Bool) : ∀ (l : List α) (i : Nat), decide (0 ≤ idxFrom p i l) = l.any p
 | [], _ => rfl
 | x :: l, i => by
  rw [idxFrom, List.any_cons]
  cases h : p x with
  | true => rw [if_pos rfl, Bool.true_or, decide_eq_true (by omega)]
  | false => rw [if_neg (by simp), Bool.false_or]; exact idxFrom_any p l (i + 1)
def inSpan (o : Int) (s : Span) : Bool := decide (s.lo ≤ o) && decide (o ≤ s.hi)
theorem memB_any (l : List Span) (o : Int) : memB l o = l.any (inSpan o) := rfl
theorem spanHas1 (o : Int) (s : Span) (B : Nat) (w : World) (h : w.cell? ⟨B, 0, none⟩ = some (.int .i64 o)) :
  Calls Tryz.prog 180 #[.agg #[.int .i64 s.lo, .int .i64 s.hi], .pointer (some ⟨B, 0, none⟩)] w fun e w' => e = .returned (.bool (inSpan o s)) ∧ Below w.heap.size w w' := by
 obtain ⟨lo, hi⟩ := s
 have c0 := kept_cell (balloc (o := .cells #[.int .i64 lo, .int .i64 hi] 78) (Below.refl _ w)) h
 have hB := World.block_lt_of_cell? _ _ h
 simp only at hB
 go_enter Tryz.func180, Tryz.ntmps180
 go_wp2_with fail
 all_goals
  go_ret
  refine ⟨ret_bool ?_, balloc (Below.refl _ _)⟩
  simp [inSpan] <;> omega
def hasFn (B : Nat) : Value := .func (.func 180) #[] #[.pointer (some ⟨B, 0, none⟩)]
theorem spanIndexFunc (o : Int) (l : List Span) (B : Nat) (v : Value) (w : World) (h : Spans w w.heap.size v l) (ho : w.cell? ⟨B, 0, none⟩ = some (.int .i64 o)) :
  Calls Tryz.prog 229 #[v, hasFn B] w fun e w' => e = .returned (.int .i64 (idxFrom (inSpan o) 0 l)) ∧ Below w.heap.size w w' := by
 have hle := h.len_le
 obtain ⟨A, c, rfl, _⟩ := id h
 have Ho := Lib.hid ho
 clear ho
 unfold hasFn
 go_enter Tryz.func229, Tryz.ntmps229
 go_wp2_with fail
 go_loopw [8] (fun k wr => ∃ m : Nat, m ≤ l.length ∧ k = .int .i64 m ∧ idxFrom (inSpan o) 0 l = idxFrom (inSpan o) m (l.drop m) ∧ Below w.heap.size w wr) (fun k _ => l.length - (intOf k).toNat)
 case atStart => exact ⟨0, Nat.zero_le _, rfl, rfl, Below.refl _ _⟩
 case round =>
  obtain ⟨m, hm, rfl, hv, hb⟩ := hrel
  by_cases hlt : m < l.length
  ·obtain ⟨x, hx⟩ : ∃ x, l[m]? = some x := ⟨l[m], List.getElem?_eq_getElem hlt⟩
   obtain ⟨b, off, c', hv', hbb, e0, e1, _, _⟩ := spans_at h hx
   injection hv' with hv1 hv2 hv3
   subst hv1
   have f0 := (hb.cell (p := ⟨b, off + m * 2, none⟩) hbb).trans e0
   have f1 := (hb.cell (p := ⟨b, off + m * 2 + 1, none⟩) hbb).trans e1
   rw [drop_cons hx, idxFrom] at hv
   have HC := Lib.hid (spanHas1 o x B wr (kept_cell hb Ho.out))
   generalize inSpan o x = r at hv HC
   obtain ⟨lo, hi⟩ := x
   simp only at f0 f1 HC
   have HV := Lib.hid hv
   clear hv hv2 hv3 e0 e1 hx
   go_wp2_with fail
   refine HC.out.mono ?_
   rintro e w1 ⟨rfl, hb1⟩
   have k1 := bnext hb hb1
   clear hb1 HC f0 f1
   cases r <;> go_wp2_with fail
   ·refine ⟨⟨m + 1, by omega, by go_num, ?_, k1⟩, by simp [intOf]; omega⟩
    rw [HV.out, if_neg (by simp)]
   ·go_ret
    exact ⟨ret_int (by rw [HV.out]; simp), k1⟩
  ·obtain rfl : m = l.length := by omega
   rw [List.drop_length] at hv
   have HV := Lib.hid hv
   clear hv
   go_wp2_with fail
   go_ret
   exact ⟨ret_int HV.out.symm, hb⟩
theorem spanContainsFunc (o : Int) (l : List Span) (B : Nat) (v : Value) (w : World) (h : Spans w w.heap.size v l) (ho : w.cell? ⟨B, 0, none⟩ = some (.int .i64 o)) :
  Calls Tryz.prog 179 #[v, hasFn B] w fun e w' => e = .returned (.bool (memB l o)) ∧ Below w.heap.size w w' := by
 obtain ⟨A, c, rfl, _⟩ := id h
 have hany := idxFrom_any (inSpan o) l 0
 rw [← memB_any] at hany
 have HC := Lib.hid (spanIndexFunc o l B _ w h ho)
 generalize idxFrom (inSpan o) 0 l = k at hany HC
 rw [← hany]
 clear hany ho h
 unfold hasFn at *
 go_enter Tryz.func179, Tryz.ntmps179
 go_wp2_with fail
 refine HC.out.mono ?_
 rintro e w1 ⟨rfl, hb1⟩
 go_wp2_with fail
 go_ret
 exact ⟨rfl, hb1⟩
theorem spanHasWalk (l : List Span) (o : Int) (v : Value) (w : World) (h : Spans w w.heap.size v l) :
  Calls Tryz.prog 107 #[v, .int .i64 o] w fun e w' => e = .returned (.bool (spanHas l o)) ∧ Below w.heap.size w w' := by
 obtain ⟨A, c, rfl, _⟩ := id h
 have B0 := Blk.new w 3 #[.int .i64 o]
 have c0 := B0.cell 0
 simp only [List.getElem?_toArray, List.getElem?_cons_zero] at c0
 by_cases h0 : 0 ≤ o ∧ o ≤ 255
 ·obtain ⟨h1, h2⟩ := h0
  have Hres := Lib.hid (show spanHas l o = memB l o by rw [spanHas, decide_eq_true ⟨h1, h2⟩, Bool.true_and])
  have HC := Lib.hid (spanContainsFunc o l w.heap.size _ _ (h.next (balloc (o := .cells #[.int .i64 o] 3) (Below.refl _ _))) c0)
  unfold hasFn at HC
  clear h B0
  go_enter Tryz.func107, Tryz.ntmps107
  go_wp2_with fail
  refine HC.out.mono ?_
  rintro e w1 ⟨rfl, hb1⟩
  go_wp2_with fail
  go_ret
  exact ⟨ret_bool Hres.out.symm, bnext (balloc (Below.refl _ _)) hb1⟩
 ·have Hres := Lib.hid (show spanHas l o = false by rw [spanHas, decide_eq_false h0, Bool.false_and])
  have hc : o < 0 ∨ (0 ≤ o ∧ 255 < o) := by omega
  clear h0 h B0
  rcases hc with h1 | ⟨h1, h2⟩
  all_goals
   go_enter Tryz.func107, Tryz.ntmps107
   go_wp2_with fail
   go_ret
   exact ⟨ret_bool Hres.out.symm, balloc (Below.refl _ _)⟩
structure Write where
 stamp : Stamp
 object : Int
 gone : Bool
 deriving DecidableEq
def WriteR (cs : List Value) (x : Write) : Prop := cs = [.int .i64 x.stamp.count, .int .i64 x.stamp.node, .int .i64 x.object, .bool x.gone] ∧ I64 x.stamp.count ∧ I64 x.stamp.node ∧ I64 x.object
theorem opens_write {w : World} : Opens Tryz.prog w 55 4 WriteR := by
 intro H enc fuel cs x h
 obtain ⟨hl, n, hf⟩ := struct_pieces Tryz.underlying55 h
 have hk : Tryz.prog.cellsOf 55 = 4 := by kernel_rfl
 have hs : Tryz.prog.cellsOf 49 = 2 := by kernel_rfl
 have hi : Tryz.prog.cellsOf 3 = 1 := by kernel_rfl
 have hb : Tryz.prog.cellsOf 4 = 1 := by kernel_rfl
 rw [hk] at hl
 refine ⟨hl, ?_⟩
 match cs, hl with
 | [v0, v1, v2, v3], _ =>
  obtain ⟨y0, h0⟩ := hf 0 49 0 2 rfl hs
  obtain ⟨y1, h1⟩ := hf 1 3 2 1 rfl hi
  obtain ⟨y2, h2⟩ := hf 2 4 3 1 rfl hb
  obtain ⟨_, a, e0, i1, i2⟩ := opens_stamp (w := w) H enc n _ _ h0
  obtain ⟨_, b, e1, i3⟩ := opens_int (w := w) Tryz.underlying3 H enc n _ _ h1
  obtain ⟨_, g, e2⟩ := opens_bool (w := w) Tryz.underlying4 H enc n _ _ h2
  simp at e0 e1 e2
  obtain ⟨rfl, rfl⟩ := e0
  subst e1 e2
  exact ⟨⟨a, b, g⟩, rfl, i1, i2, i3⟩
abbrev Writes := Sl WriteR 4
theorem opens_writes {w : World} : Opens Tryz.prog w 24 1 (fun cs l => ∃ v, cs = [v] ∧ Writes w w.heap.size v l) :=
 opens_slice Tryz.underlying24 (by kernel_rfl) (by omega) opens_write
theorem writes_at {w : World} {B : Nat} {v : Value} {l : List Write} (h : Writes w B v l) {m : Nat} {x : Write} (hx : l[m]? = some x) :
  ∃ b off c, v = .slice (some ⟨b, off, none⟩) l.length c ∧ b < B ∧ w.cell? ⟨b, off + m * 4, none⟩ = some (.int .i64 x.stamp.count) ∧ w.cell? ⟨b, off + m * 4 + 1, none⟩ = some (.int .i64 x.stamp.node) ∧
   w.cell? ⟨b, off + m * 4 + 2, none⟩ = some (.int .i64 x.object) ∧ w.cell? ⟨b, off + m * 4 + 3, none⟩ = some (.bool x.gone) ∧ I64 x.object := by
 obtain ⟨A, c, rfl, _, _, h3⟩ := h
 obtain ⟨b, off, rfl, hb, h4⟩ := h3 (by rintro rfl; simp at hx)
 obtain ⟨cs, ⟨rfl, i1, i2, i3⟩, _, h5⟩ := h4 m x hx
 exact ⟨b, off, c, rfl, hb, h5 0 _ rfl, h5 1 _ rfl, h5 2 _ rfl, h5 3 _ rfl, i3⟩
structure Note where
 start : List Stamp
 end_ : List Stamp
 blur : List Span
 writes : List Write
 deriving DecidableEq
structure NoteV (w : World) (B : Nat) (v0 v1 v2 v3 : Value) (x : Note) : Prop where
 start : Stamps w B v0 x.start
 end_ : Stamps w B v1 x.end_
 blur : Spans w B v2 x.blur
 writes : Writes w B v3 x.writes
theorem NoteV.next {w w' : World} {v0 v1 v2 v3 : Value} {x : Note} (h : NoteV w w.heap.size v0 v1 v2 v3 x) (hb : Below w.heap.size w w') : NoteV w' w'.heap.size v0 v1 v2 v3 x :=
 ⟨h.start.next hb, h.end_.next hb, h.blur.next hb, h.writes.next hb⟩
def NoteR (w : World) (B : Nat) (cs : List Value) (x : Note) : Prop := ∃ v0 v1 v2 v3, cs = [v0, v1, v2, v3] ∧ NoteV w B v0 v1 v2 v3 x
abbrev Notes (w : World) (B : Nat) := Sl (NoteR w B) 4 w B
def writesFrom (x : Note) : Int → List Write → Bool
 | _, [] => true
 | e, y :: l => (decide (e < y.object ∧ 0 ≤ y.object ∧ y.object ≤ 255) && !spanHas x.blur y.object && vecHas x.end_ y.stamp) && writesFrom x y.object l
def noteFormed (x : Note) : Bool := vecFormed x.start && vecFormed x.end_ && coversB x.end_ x.start && spanFormed x.blur && writesFrom x (-1) x.writes
def ByteR (cs : List Value) (b : Nat) : Prop := cs = [.int .u8 b] ∧ b < 256
theorem opens_byte {w : World} : Opens Tryz.prog w 5 1 ByteR := by
 intro H enc fuel cs x h
 obtain ⟨n, rfl, _, hw⟩ := DataW.trod_int Tryz.underlying5 h.1
 have h0 : 0 ≤ n ∧ n < 256 := by
  simp [Lit.wf, IntKind.max, IntKind.min, IntKind.signed, IntKind.bits] at hw
  omega
 refine ⟨rfl, n.toNat, ?_, by omega⟩
 rw [show ((n.toNat : Nat) : Int) = n by omega]
abbrev Bytes := Sl ByteR 1
theorem opens_bytes {w : World} : Opens Tryz.prog w 45 1 (fun cs l => ∃ v, cs = [v] ∧ Bytes w w.heap.size v l) :=
 opens_slice Tryz.underlying45 (by kernel_rfl) (by omega) opens_byte
structure Body where
 object : Int
 stamp : Stamp
 value : List Nat
 deriving DecidableEq
def BodyR (w : World) (B : Nat) (cs : List Value) (x : Body) : Prop :=
 ∃ v, cs = [.int .i64 x.object, .int .i64 x.stamp.count, .int .i64 x.stamp.node, v] ∧ I64 x.object ∧ I64 x.stamp.count ∧ I64 x.stamp.node ∧ Bytes w B v x.value
theorem opens_body {w : World} : Opens Tryz.prog w 51 4 (BodyR w w.heap.size) := by
 intro H enc fuel cs x h
 obtain ⟨hl, n, hf⟩ := struct_pieces Tryz.underlying51 h
 have hk : Tryz.prog.cellsOf 51 = 4 := by kernel_rfl
 have hs : Tryz.prog.cellsOf 49 = 2 := by kernel_rfl
 have hi : Tryz.prog.cellsOf 3 = 1 := by kernel_rfl
 have hb : Tryz.prog.cellsOf 45 = 1 := by kernel_rfl
 rw [hk] at hl
 refine ⟨hl, ?_⟩
 match cs, hl with
 | [v0, v1, v2, v3], _ =>
  obtain ⟨y0, h0⟩ := hf 0 3 0 1 rfl hi
  obtain ⟨y1, h1⟩ := hf 1 49 1 2 rfl hs
  obtain ⟨y2, h2⟩ := hf 2 45 3 1 rfl hb
  obtain ⟨_, a, e0, i0⟩ := opens_int (w := w) Tryz.underlying3 H enc n _ _ h0
  obtain ⟨_, s, e1, i1, i2⟩ := opens_stamp (w := w) H enc n _ _ h1
  obtain ⟨_, b, v, e2, hv⟩ := opens_bytes (w := w) H enc n _ _ h2
  simp at e0 e1 e2
  obtain ⟨rfl, rfl⟩ := e1
  subst e0 e2
  exact ⟨⟨a, s, b⟩, _, rfl, i0, i1, i2, hv⟩
structure Sub where
 from_ : Int
 interest : List Span
 session : Int
 seq : Int
 live : Bool
 heard : Bool
 idle : Bool
 deriving DecidableEq
def SubR (w : World) (B : Nat) (cs : List Value) (x : Sub) : Prop :=
 ∃ v, cs = [.int .i64 x.from_, v, .int .i64 x.session, .int .i64 x.seq, .bool x.live, .bool x.heard, .bool x.idle] ∧ I64 x.from_ ∧ I64 x.session ∧ I64 x.seq ∧ Spans w B v x.interest
abbrev Subs (w : World) (B : Nat) := Sl (SubR w B) 7 w B
structure Out where
 to_ : Int
 session : Int
 interest : List Span
 at_ : Int
 seq : Int
 deriving DecidableEq
def OutR (w : World) (B : Nat) (cs : List Value) (x : Out) : Prop :=
 ∃ v, cs = [.int .i64 x.to_, .int .i64 x.session, v, .int .i64 x.at_, .int .i64 x.seq] ∧ I64 x.to_ ∧ I64 x.session ∧ I64 x.at_ ∧ I64 x.seq ∧ Spans w B v x.interest
abbrev Outs (w : World) (B : Nat) := Sl (OutR w B) 5 w B
structure Msg where
 kind : Int
 from_ : Int
 to_ : Int
 session : Int
 seq : Int
 interest : List Span
 vector : List Stamp
 notes : List Note
 body : Body
 deriving DecidableEq
structure MsgV (w : World) (B : Nat) (vi vv vn vb : Value) (x : Msg) : Prop where
 interest : Spans w B vi x.interest
 vector : Stamps w B vv x.vector
 notes : Notes w B vn x.notes
 value : Bytes w B vb x.body.value
def msgCells (vi vv vn vb : Value) (x : Msg) : Array Value :=
 #[.int .i64 x.kind, .int .i64 x.from_, .int .i64 x.to_, .int .i64 x.session, .int .i64 x.seq, vi, vv, vn, .int .i64 x.body.object, .int .i64 x.body.stamp.count, .int .i64 x.body.stamp.node, vb]
structure MsgI (x : Msg) : Prop where
 kind : I64 x.kind
 from_ : I64 x.from_
 to_ : I64 x.to_
 session : I64 x.session
 seq : I64 x.seq
 object : I64 x.body.object
def MsgR (w : World) (B : Nat) (cs : List Value) (x : Msg) : Prop := ∃ vi vv vn vb, cs = (msgCells vi vv vn vb x).toList ∧ MsgI x ∧ MsgV w B vi vv vn vb x
end Go.Proofs.YtkphfdmelfhnoaaGreatDoor
