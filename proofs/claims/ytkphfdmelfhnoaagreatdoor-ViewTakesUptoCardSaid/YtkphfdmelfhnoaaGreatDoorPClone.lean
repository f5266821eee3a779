/- Contracts of slices.Clone, one for each element type. -/
import Derived.Test.YtkphfdmelfhnoaaGreatDoorPNoteWalk
import Derived.Test.YtkphfdmelfhnoaaGreatDoorPMarks
set_option linter.all false
set_option linter.unnecessarySimpa false
set_option linter.unusedSimpArgs false
set_option linter.unusedVariables false
namespace Go.Proofs.YtkphfdmelfhnoaaGreatDoor
open Go.ChangeShapes Go.WideShapes Go.ChangeAt Go.RowKit
def ByteR (cs : List Value) (b : Nat) : Prop := cs = [.int .u8 b] ∧ b < 256
theorem opens_byte {w : World} : Opens Tryz.prog w 5 1 ByteR := by
 intro H enc fuel cs x h
 obtain ⟨n, rfl, _, hw⟩ := DataW.trod_int Tryz.underlying5 h.1
 have h0 : 0 ≤ n ∧ n < 256 := by
  simp [Lit.wf, IntKind.max, IntKind.min, IntKind.signed, IntKind.bits] at hw
  omega
 refine ⟨rfl, n.toNat, ?_, by omega⟩
 rw [show ((n.toNat : Nat) : Int) = n by omega]
abbrev Bytes := Sl ByteR 1
theorem opens_bytes {w : World} : Opens Tryz.prog w 45 1 (fun cs l => ∃ v, cs = [v] ∧ Bytes w w.heap.size v l) :=
 opens_slice Tryz.underlying45 (by kernel_rfl) (by omega) opens_byte
structure Body where
 object : Int
 stamp : Stamp
 value : List Nat
 deriving DecidableEq
def BodyR (w : World) (B : Nat) (cs : List Value) (x : Body) : Prop :=
 ∃ v, cs = [.int .i64 x.object, .int .i64 x.stamp.count, .int .i64 x.stamp.node, v] ∧ I64 x.object ∧ I64 x.stamp.count ∧ I64 x.stamp.node ∧ Bytes w B v x.value
theorem opens_body {w : World} : Opens Tryz.prog w 51 4 (BodyR w w.heap.size) := by
 intro H enc fuel cs x h
 obtain ⟨hl, n, hf⟩ := struct_pieces Tryz.underlying51 h
 have hk : Tryz.prog.cellsOf 51 = 4 := by kernel_rfl
 have hs : Tryz.prog.cellsOf 49 = 2 := by kernel_rfl
 have hi : Tryz.prog.cellsOf 3 = 1 := by kernel_rfl
 have hb : Tryz.prog.cellsOf 45 = 1 := by kernel_rfl
 rw [hk] at hl
 refine ⟨hl, ?_⟩
 match cs, hl with
 | [v0, v1, v2, v3], _ =>
  obtain ⟨y0, h0⟩ := hf 0 3 0 1 rfl hi
  obtain ⟨y1, h1⟩ := hf 1 49 1 2 rfl hs
  obtain ⟨y2, h2⟩ := hf 2 45 3 1 rfl hb
  obtain ⟨_, a, e0, i0⟩ := opens_int (w := w) Tryz.underlying3 H enc n _ _ h0
  obtain ⟨_, s, e1, i1, i2⟩ := opens_stamp (w := w) H enc n _ _ h1
  obtain ⟨_, b, v, e2, hv⟩ := opens_bytes (w := w) H enc n _ _ h2
  simp at e0 e1 e2
  obtain ⟨rfl, rfl⟩ := e1
  subst e0 e2
  exact ⟨⟨a, s, b⟩, _, rfl, i0, i1, i2, hv⟩
structure Sub where
 from_ : Int
 interest : List Span
 session : Int
 seq : Int
 live : Bool
 heard : Bool
 idle : Bool
 deriving DecidableEq
def SubR (w : World) (B : Nat) (cs : List Value) (x : Sub) : Prop :=
 ∃ v, cs = [.int .i64 x.from_, v, .int .i64 x.session, .int .i64 x.seq, .bool x.live, .bool x.heard, .bool x.idle] ∧ I64 x.from_ ∧ I64 x.session ∧ I64 x.seq ∧ Spans w B v x.interest
abbrev Subs (w : World) (B : Nat) := Sl (SubR w B) 7 w B
structure Out where
 to_ : Int
 session : Int
 interest : List Span
 at_ : Int
 seq : Int
 deriving DecidableEq
def OutR (w : World) (B : Nat) (cs : List Value) (x : Out) : Prop :=
 ∃ v, cs = [.int .i64 x.to_, .int .i64 x.session, v, .int .i64 x.at_, .int .i64 x.seq] ∧ I64 x.to_ ∧ I64 x.session ∧ I64 x.at_ ∧ I64 x.seq ∧ Spans w B v x.interest
abbrev Outs (w : World) (B : Nat) := Sl (OutR w B) 5 w B
structure Msg where
 kind : Int
 from_ : Int
 to_ : Int
 session : Int
 seq : Int
 interest : List Span
 vector : List Stamp
 notes : List Note
 body : Body
 deriving DecidableEq
structure MsgV (w : World) (B : Nat) (vi vv vn vb : Value) (x : Msg) : Prop where
 interest : Spans w B vi x.interest
 vector : Stamps w B vv x.vector
 notes : Notes w B vn x.notes
 value : Bytes w B vb x.body.value
def msgCells (vi vv vn vb : Value) (x : Msg) : Array Value :=
 #[.int .i64 x.kind, .int .i64 x.from_, .int .i64 x.to_, .int .i64 x.session, .int .i64 x.seq, vi, vv, vn, .int .i64 x.body.object, .int .i64 x.body.stamp.count, .int .i64 x.body.stamp.node, vb]
structure MsgI (x : Msg) : Prop where
 kind : I64 x.kind
 from_ : I64 x.from_
 to_ : I64 x.to_
 session : I64 x.session
 seq : I64 x.seq
 object : I64 x.body.object
def MsgR (w : World) (B : Nat) (cs : List Value) (x : Msg) : Prop := ∃ vi vv vn vb, cs = (msgCells vi vv vn vb x).toList ∧ MsgI x ∧ MsgV w B vi vv vn vb x
theorem oneStampR : ∀ cs x, StampR cs x → ∀ u ∈ cs, u.oneCell' = true := by
 rintro cs x ⟨rfl, _⟩ u hu; simp at hu; rcases hu with rfl | rfl <;> rfl
theorem oneWriteR : ∀ cs x, WriteR cs x → ∀ u ∈ cs, u.oneCell' = true := by
 rintro cs x ⟨rfl, _⟩ u hu; simp at hu; rcases hu with rfl | rfl | rfl | rfl <;> rfl
theorem ownEmptyRow {α : Type} {R : List Value → α → Prop} {k : Nat} (w : World) (e : TypeId) : OwnSl R k (w.alloc (.cells #[] e)) w.heap.size e (.slice (some ⟨w.heap.size, 0, none⟩) 0 0) [] :=
 ⟨[], ⟨by simp, .inr ⟨_, 0, #[], rfl, Nat.le_refl _, heap_alloc_new w _, Nat.le_refl _, Nat.zero_le _, by simp, by simp⟩⟩, rfl, Nat.zero_le _⟩
theorem infoWriteRow : (Tryz.prog.info? 55).map (fun i => (i.zero.map (·.cells.size), i.size, i.bytes)) = some (some 4, 4, 32) := by kernel_rfl
theorem cloneWrites (l : List Write) (v : Value) (w : World) (h : Writes w w.heap.size v l) :
  Calls Tryz.prog 71 #[v] w fun e w' => (∃ v', e = .returned v' ∧ OwnSl WriteR 4 w' w.heap.size 55 v' l) ∧ Below w.heap.size w w' := by
 have hle := h.len_le
 obtain ⟨i0, z0, hi, hz0, hzs, hz1, hz2⟩ := info_of infoWriteRow
 obtain ⟨A, c, rfl, -, -, hne⟩ := id h
 have he := fun (w : World) (a : Option Addr) (n c : Nat) => Lib.run_eql_slice_nil (P := Tryz.prog) w 24 55 a n c 0 0 Tryz.underlying24
 cases A with
 | none =>
  obtain rfl : l = [] := by
   rcases l with _ | ⟨y, l⟩
   ·rfl
   ·obtain ⟨b, off, h1, _⟩ := hne (by simp)
    cases h1
  clear hne h
  go_enter Tryz.func71, Tryz.ntmps71
  go_wp2_with fail
  go_ret
  exact ⟨⟨_, rfl, OwnSl.nil_ _ _ _⟩, Below.refl _ _⟩
 | some A =>
  have HH := Lib.hid h
  clear hne h
  go_enter Tryz.func71, Tryz.ntmps71
  go_wp2_with (at_builtin; refine wpList_append_sl _ (oneWriteR) rfl (.tmp 5) (.tmp 6) 24 rfl w.heap.size 55 i0 _ 32 Tryz.underlying24 hi hz0 hz1 hz2 hzs (by omega) _ [] rfl (ownEmptyRow (R := WriteR) (k := 4) w 55) w.heap.size _ l rfl (HH.out.keep (fun _ _ h => h) (Nat.le_refl _) (fun p hp => World.cell?_alloc_lt _ _ _ hp)) (by simp only [List.length_nil]; omega) (by omega) (by simp) ?_; intro v1 w1 hown hgr hat)
  simp only [List.nil_append] at hown
  have hb1 : Below w.heap.size w w1 := (balloc (Below.refl _ _)).grown hgr (by simp) (fun k hk => Nat.le_of_eq (Option.some.inj hk))
  have H1 := Lib.hid hown
  clear hown hgr hat hi hz0 hz1 hz2 hzs
  go_wp2_with fail
  go_ret
  exact ⟨⟨_, rfl, H1.out⟩, hb1⟩
theorem infoStampRow : (Tryz.prog.info? 49).map (fun i => (i.zero.map (·.cells.size), i.size, i.bytes)) = some (some 2, 2, 16) := by kernel_rfl
theorem cloneStamps (l : List Stamp) (v : Value) (w : World) (h : Stamps w w.heap.size v l) :
  Calls Tryz.prog 106 #[v] w fun e w' => (∃ v', e = .returned v' ∧ OwnSl StampR 2 w' w.heap.size 49 v' l) ∧ Below w.heap.size w w' := by
 have hle := h.len_le
 obtain ⟨i0, z0, hi, hz0, hzs, hz1, hz2⟩ := info_of infoStampRow
 obtain ⟨A, c, rfl, -, -, hne⟩ := id h
 have he := fun (w : World) (a : Option Addr) (n c : Nat) => Lib.run_eql_slice_nil (P := Tryz.prog) w 22 49 a n c 0 0 Tryz.underlying22
 cases A with
 | none =>
  obtain rfl : l = [] := by
   rcases l with _ | ⟨y, l⟩
   ·rfl
   ·obtain ⟨b, off, h1, _⟩ := hne (by simp)
    cases h1
  clear hne h
  go_enter Tryz.func106, Tryz.ntmps106
  go_wp2_with fail
  go_ret
  exact ⟨⟨_, rfl, OwnSl.nil_ _ _ _⟩, Below.refl _ _⟩
 | some A =>
  have HH := Lib.hid h
  clear hne h
  go_enter Tryz.func106, Tryz.ntmps106
  go_wp2_with (at_builtin; refine wpList_append_sl _ (oneStampR) rfl (.tmp 5) (.tmp 6) 22 rfl w.heap.size 49 i0 _ 16 Tryz.underlying22 hi hz0 hz1 hz2 hzs (by omega) _ [] rfl (ownEmptyRow (R := StampR) (k := 2) w 49) w.heap.size _ l rfl (HH.out.keep (fun _ _ h => h) (Nat.le_refl _) (fun p hp => World.cell?_alloc_lt _ _ _ hp)) (by simp only [List.length_nil]; omega) (by omega) (by simp) ?_; intro v1 w1 hown hgr hat)
  simp only [List.nil_append] at hown
  have hb1 : Below w.heap.size w w1 := (balloc (Below.refl _ _)).grown hgr (by simp) (fun k hk => Nat.le_of_eq (Option.some.inj hk))
  have H1 := Lib.hid hown
  clear hown hgr hat hi hz0 hz1 hz2 hzs
  go_wp2_with fail
  go_ret
  exact ⟨⟨_, rfl, H1.out⟩, hb1⟩
end Go.Proofs.YtkphfdmelfhnoaaGreatDoor
