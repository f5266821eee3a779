/- Notes: how they are read; contracts of their form, the program's and the reference's. -/
import Derived.Test.YtaiekfeiaamemaaGreatDoorPCovers
import Derived.Test.YtaiekfeiaamemaaGreatDoorPSpanIn
set_option linter.all false
set_option linter.unnecessarySimpa false
set_option linter.unusedSimpArgs false
set_option linter.unusedVariables false
namespace Go.Proofs.YtaiekfeiaamemaaGreatDoor
open Go.ChangeShapes Go.WideShapes Go.ChangeAt Go.RowKit

structure Write where
  stamp : Stamp
  object : Int
  gone : Bool
  deriving DecidableEq
def WriteR (cs : List Value) (x : Write) : Prop := cs = [.int .i64 x.stamp.count, .int .i64 x.stamp.node, .int .i64 x.object, .bool x.gone] ∧ I64 x.stamp.count ∧ I64 x.stamp.node ∧ I64 x.object
theorem opens_write {w : World} : Opens Tryz.prog w 69 4 WriteR := by
  intro H enc fuel cs x h
  obtain ⟨hl, n, hf⟩ := struct_pieces Tryz.underlying69 h
  have hk : Tryz.prog.cellsOf 69 = 4 := by kernel_rfl
  have hs : Tryz.prog.cellsOf 63 = 2 := by kernel_rfl
  have hi : Tryz.prog.cellsOf 3 = 1 := by kernel_rfl
  have hb : Tryz.prog.cellsOf 4 = 1 := by kernel_rfl
  rw [hk] at hl
  refine ⟨hl, ?_⟩
  match cs, hl with
  | [v0, v1, v2, v3], _ =>
    obtain ⟨y0, h0⟩ := hf 0 63 0 2 rfl hs
    obtain ⟨y1, h1⟩ := hf 1 3 2 1 rfl hi
    obtain ⟨y2, h2⟩ := hf 2 4 3 1 rfl hb
    obtain ⟨_, a, e0, i1, i2⟩ := opens_stamp (w := w) H enc n _ _ h0
    obtain ⟨_, b, e1, i3⟩ := opens_int (w := w) Tryz.underlying3 H enc n _ _ h1
    obtain ⟨_, g, e2⟩ := opens_bool (w := w) Tryz.underlying4 H enc n _ _ h2
    simp at e0 e1 e2
    obtain ⟨rfl, rfl⟩ := e0
    subst e1 e2
    exact ⟨⟨a, b, g⟩, rfl, i1, i2, i3⟩
abbrev Writes := Sl WriteR 4
theorem opens_writes {w : World} : Opens Tryz.prog w 26 1 (fun cs l => ∃ v, cs = [v] ∧ Writes w w.heap.size v l) :=
  opens_slice Tryz.underlying26 (by kernel_rfl) (by omega) opens_write
theorem writes_at {w : World} {B : Nat} {v : Value} {l : List Write} (h : Writes w B v l) {m : Nat} {x : Write} (hx : l[m]? = some x) :
    ∃ b off c, v = .slice (some ⟨b, off, none⟩) l.length c ∧ b < B ∧ w.cell? ⟨b, off + m * 4, none⟩ = some (.int .i64 x.stamp.count) ∧ w.cell? ⟨b, off + m * 4 + 1, none⟩ = some (.int .i64 x.stamp.node) ∧
      w.cell? ⟨b, off + m * 4 + 2, none⟩ = some (.int .i64 x.object) ∧ w.cell? ⟨b, off + m * 4 + 3, none⟩ = some (.bool x.gone) ∧ I64 x.object := by
  obtain ⟨A, c, rfl, _, _, h3⟩ := h
  obtain ⟨b, off, rfl, hb, h4⟩ := h3 (by rintro rfl; simp at hx)
  obtain ⟨cs, ⟨rfl, i1, i2, i3⟩, _, h5⟩ := h4 m x hx
  exact ⟨b, off, c, rfl, hb, h5 0 _ rfl, h5 1 _ rfl, h5 2 _ rfl, h5 3 _ rfl, i3⟩

structure Note where
  start : List Stamp
  end_ : List Stamp
  blur : List Span
  writes : List Write
  deriving DecidableEq
/-- the four slices of a note -/
structure NoteV (w : World) (B : Nat) (v0 v1 v2 v3 : Value) (x : Note) : Prop where
  start : Stamps w B v0 x.start
  end_ : Stamps w B v1 x.end_
  blur : Spans w B v2 x.blur
  writes : Writes w B v3 x.writes
theorem NoteV.next {w w' : World} {v0 v1 v2 v3 : Value} {x : Note} (h : NoteV w w.heap.size v0 v1 v2 v3 x) (hb : Below w.heap.size w w') : NoteV w' w'.heap.size v0 v1 v2 v3 x :=
  ⟨h.start.next hb, h.end_.next hb, h.blur.next hb, h.writes.next hb⟩
theorem NoteV.keep {w w' : World} {B B' : Nat} {v0 v1 v2 v3 : Value} {x : Note} (h : NoteV w B v0 v1 v2 v3 x) (hB : B ≤ B') (hk : ∀ p : Addr, p.block < B → w'.cell? p = w.cell? p) : NoteV w' B' v0 v1 v2 v3 x :=
  ⟨h.start.keep (fun _ _ h => h) hB hk, h.end_.keep (fun _ _ h => h) hB hk, h.blur.keep (fun _ _ h => h) hB hk, h.writes.keep (fun _ _ h => h) hB hk⟩
def NoteR (w : World) (B : Nat) (cs : List Value) (x : Note) : Prop := ∃ v0 v1 v2 v3, cs = [v0, v1, v2, v3] ∧ NoteV w B v0 v1 v2 v3 x
abbrev Notes (w : World) (B : Nat) := Sl (NoteR w B) 4 w B
theorem Notes.next {w w' : World} {v : Value} {l : List Note} (h : Notes w w.heap.size v l) (hb : Below w.heap.size w w') : Notes w' w'.heap.size v l :=
  h.keep (fun _ _ ⟨v0, v1, v2, v3, e, hn⟩ => ⟨v0, v1, v2, v3, e, hn.next hb⟩) hb.size fun _ hp => hb.cell hp
theorem notes_at {w : World} {B : Nat} {v : Value} {l : List Note} (h : Notes w B v l) {m : Nat} {x : Note} (hx : l[m]? = some x) :
    ∃ b off c v0 v1 v2 v3, v = .slice (some ⟨b, off, none⟩) l.length c ∧ b < B ∧ w.cell? ⟨b, off + m * 4, none⟩ = some v0 ∧ w.cell? ⟨b, off + m * 4 + 1, none⟩ = some v1 ∧
      w.cell? ⟨b, off + m * 4 + 2, none⟩ = some v2 ∧ w.cell? ⟨b, off + m * 4 + 3, none⟩ = some v3 ∧ NoteV w B v0 v1 v2 v3 x := by
  obtain ⟨A, c, rfl, _, _, h3⟩ := h
  obtain ⟨b, off, rfl, hb, h4⟩ := h3 (by rintro rfl; simp at hx)
  obtain ⟨cs, ⟨v0, v1, v2, v3, rfl, hn⟩, _, h5⟩ := h4 m x hx
  exact ⟨b, off, c, v0, v1, v2, v3, rfl, hb, h5 0 _ rfl, h5 1 _ rfl, h5 2 _ rfl, h5 3 _ rfl, hn⟩

/-- writes of rising objects behind one, each outside the blur, its stamp known -/
def writesFrom (x : Note) : Int → List Write → Bool
  | _, [] => true
  | e, y :: l => (decide (e < y.object ∧ 0 ≤ y.object ∧ y.object ≤ 255) && !spanHas x.blur y.object && vecHas x.end_ y.stamp) && writesFrom x y.object l
def noteFormed (x : Note) : Bool := vecFormed x.start && vecFormed x.end_ && coversB x.end_ x.start && spanFormed x.blur && writesFrom x (-1) x.writes
end Go.Proofs.YtaiekfeiaamemaaGreatDoor
