/- Logs, and what a stream tells of them: plain specifications and laws. No program is known here. -/
import Derived.Test.YtkphfdmelfhnoaaGreatDoorPVecRef
import Derived.Test.YtkphfdmelfhnoaaGreatDoorPMsg
import Derived.Test.YtkphfdmelfhnoaaGreatDoorPCovers
import Derived.Test.YtkphfdmelfhnoaaGreatDoorPMarks
import Derived.Test.YtkphfdmelfhnoaaGreatDoorPTidyLaw
import Derived.Test.YtkphfdmelfhnoaaGreatDoorPNoteWalk
import Derived.Test.YtkphfdmelfhnoaaGreatDoorPVecLaw
set_option linter.all false
set_option linter.unnecessarySimpa false
set_option linter.unusedSimpArgs false
set_option linter.unusedVariables false
namespace Go.Proofs.YtkphfdmelfhnoaaGreatDoor
open Go.ChangeShapes Go.WideShapes Go.ChangeAt Go.RowKit
theorem equalStamps (l m : List Stamp) (v u : Value) (w : World) (h : Stamps w w.heap.size v l) (h' : Stamps w w.heap.size u m) :
  Calls Tryz.prog 117 #[v, u] w fun e w' => e = .returned (.bool (decide (l = m))) ∧ Below w.heap.size w w' := by
 have hle := h.len_le
 have hle' := h'.len_le
 obtain ⟨A, c, rfl, _⟩ := id h
 obtain ⟨A', c', rfl, _⟩ := id h'
 by_cases hlen : l.length = m.length
 ·have Hlen := Lib.hid hlen
  have ht : ((l.length : Int) != (m.length : Int)) = false := by rw [hlen]; simp
  clear hlen
  go_enter Tryz.func117, Tryz.ntmps117
  go_wp2_with fail
  go_loopw [13] (fun k wr => ∃ n : Nat, n ≤ l.length ∧ k = .int .i64 n ∧ l.take n = m.take n ∧ Below w.heap.size w wr) (fun k _ => l.length - (intOf k).toNat)
  case atStart => exact ⟨0, Nat.zero_le _, rfl, rfl, Below.refl _ _⟩
  case round =>
   obtain ⟨n, hn, rfl, ht2, hb⟩ := hrel
   have Ht := Lib.hid ht2
   clear ht2 ht
   by_cases hlt : n < l.length
   ·obtain ⟨x, hx⟩ : ∃ x, l[n]? = some x := ⟨l[n], List.getElem?_eq_getElem hlt⟩
    obtain ⟨y, hy⟩ : ∃ y, m[n]? = some y := ⟨m[n]'(by have := Hlen.out; omega), List.getElem?_eq_getElem (by have := Hlen.out; omega)⟩
    obtain ⟨b, off, _, hv, hbb, e0, e1, _, _⟩ := stamps_at h hx
    obtain ⟨b', off', _, hv', hbb', e0', e1', _, _⟩ := stamps_at h' hy
    injection hv with hv1 hv2 hv3
    injection hv' with hv1' hv2' hv3'
    subst hv1 hv1'
    have f0 := (hb.cell (p := ⟨b, off + n * 2, none⟩) hbb).trans e0
    have f1 := (hb.cell (p := ⟨b, off + n * 2 + 1, none⟩) hbb).trans e1
    have f0' := (hb.cell (p := ⟨b', off' + n * 2, none⟩) hbb').trans e0'
    have f1' := (hb.cell (p := ⟨b', off' + n * 2 + 1, none⟩) hbb').trans e1'
    have Hx := Lib.hid hx
    have Hy := Lib.hid hy
    have i1 : (n : Int) < (l.length : Int) := by omega
    have i2 : (n : Int) < (m.length : Int) := by have := Hlen.out; omega
    clear hv2 hv3 hv2' hv3' e0 e1 e0' e1' hx hy
    obtain ⟨xl, xh⟩ := x
    obtain ⟨yl, yh⟩ := y
    simp only at f0 f1 f0' f1'
    by_cases p1 : xl = yl
    ·subst p1
     by_cases p2 : xh = yh
     ·subst p2
      go_wp2_with fail
      go_quiet (fail)
      go_wp2_with fail
      refine ⟨⟨n + 1, by omega, by go_num, ?_, bdrewN hb _⟩, by simp [intOf]; omega⟩
      rw [take_snoc Hx.out, take_snoc Hy.out, Ht.out]
     ·have Hres : Hid (decide (l = m) = false) := by
       refine decide_eq_false fun e => ?_
       have := Hx.out
       rw [e, Hy.out] at this
       simp at this
       exact p2 this.symm
      go_wp2_with fail
      go_quiet (fail)
      go_wp2_with fail
      go_ret
      exact ⟨ret_bool Hres.out.symm, bdrewN hb _⟩
    ·have Hres : Hid (decide (l = m) = false) := by
      refine decide_eq_false fun e => ?_
      have := Hx.out
      rw [e, Hy.out] at this
      simp at this
      exact p1 this.1.symm
     go_wp2_with fail
     go_quiet (fail)
     go_wp2_with fail
     go_ret
     exact ⟨ret_bool Hres.out.symm, bdrewN hb _⟩
   ·obtain rfl : n = l.length := by omega
    have Hres : Hid (decide (l = m) = true) := by
     refine decide_eq_true ?_
     have := Ht.out
     rwa [List.take_length, Hlen.out, List.take_length] at this
    go_wp2_with fail
    go_ret
    exact ⟨ret_bool Hres.out.symm, hb⟩
 ·have ht : ((l.length : Int) != (m.length : Int)) = true := by simp; omega
  have Hres : Hid (decide (l = m) = false) := decide_eq_false fun e => hlen (by rw [e])
  clear hlen
  go_enter Tryz.func117, Tryz.ntmps117
  go_wp2_with fail
  go_ret
  exact ⟨ret_bool Hres.out.symm, Below.refl _ _⟩
theorem noteFits (x : Note) (l : List Stamp) (v0 v1 v2 v3 u : Value) (w : World) (h : NoteV w w.heap.size v0 v1 v2 v3 x) (h' : Stamps w w.heap.size u l) (hT : TzTab w) :
  Calls Tryz.prog 152 #[.agg #[v0, v1, v2, v3], u] w fun e w' => e = .returned (.bool (coversB l x.start)) ∧ Below w.heap.size w w' := by
 obtain ⟨A0, c0, rfl, -⟩ := id h.start
 obtain ⟨A1, c1, rfl, -⟩ := id h.end_
 obtain ⟨A2, c2, rfl, -⟩ := id h.blur
 obtain ⟨A3, c3, rfl, -⟩ := id h.writes
 obtain ⟨A, c, rfl, -⟩ := id h'
 have kb := balloc (o := .cells #[.slice A0 x.start.length c0, .slice A1 x.end_.length c1, .slice A2 x.blur.length c2, .slice A3 x.writes.length c3] 30) (Below.refl _ w)
 have HC := Lib.hid (vectorCovers l x.start _ _ _ (h'.next kb) (h.start.next kb) (hT.next kb))
 clear h h' hT
 go_enter Tryz.func152, Tryz.ntmps152
 go_wp2_with fail
 refine HC.out.mono ?_
 rintro e w1 ⟨rfl, hb1⟩
 go_wp2_with fail
 go_ret
 exact ⟨rfl, bnext kb hb1⟩
def seenW (it : List Span) (l : List Write) : List Write := l.filter fun y => spanHas it y.object
def unseenW (it : List Span) (l : List Write) : List Int := (l.filter fun y => !spanHas it y.object).map (·.object)
def throughBlur (x : Note) (it : List Span) : List Span := tidyS (x.blur ++ tidyS (dots (unseenW it x.writes)))
def throughN (x : Note) (it : List Span) : Note := ⟨x.start, x.end_, throughBlur x it, seenW it x.writes⟩
def noNote : Note := ⟨[], [], [], []⟩
def throughS (x : Note) (it : List Span) : Note × Int := if noteFormed x = true then (throughN x it, 0) else (noNote, 1)
theorem memB_dots (os : List Int) (o : Int) : memB (dots os) o = os.any fun p => decide (p = o) := by
 unfold memB dots
 rw [List.any_map]
 congr 1
 funext p
 rw [Bool.eq_iff_iff]
 simp only [Function.comp, Bool.and_eq_true, decide_eq_true_eq]
 omega
end Go.Proofs.YtkphfdmelfhnoaaGreatDoor
namespace Go.Proofs.YtkphfdmelfhnoaaGreatDoor
structure Log where
 base : List Stamp
 notes : List Note
 sure : Int
def notesFrom : List Stamp → List Note → Bool
 | _, [] => true
 | k, n :: l => (noteFormed n && coversB k n.start) && notesFrom (joinS [k, n.end_]) l
def sureB (l : Log) : Bool := decide (0 ≤ l.sure) && decide (l.sure ≤ l.notes.length)
def logFormed (l : Log) : Bool := vecFormed l.base && sureB l && notesFrom l.base l.notes
def knownFrom (k : List Stamp) (l : List Note) : List Stamp := l.foldl (fun k n => joinS [k, n.end_]) k
-- where to begin
def firstNews (v : List Stamp) (l : List Note) : Nat := l.findIdx fun n => !coversB v n.end_
def placeS (l : Log) (v : List Stamp) : Int × Int := if logFormed l = true then (if coversB v l.base = true then ((firstNews v l.notes : Nat), 0) else (0, 12)) else (0, 1)
def beginS (l : Log) (v : List Stamp) : Int × Int := if (placeS l v).2 = 12 then (-1, 0) else placeS l v
-- a batch
def meetS2 (a b : List Span) : List Span := ofSet fun o => memB a o && memB b o
def goesS (it : List Span) (a b : Note) : Bool := decide (a.writes = []) && decide (b.writes = []) && decide (a.end_ = b.start) && decide (meetS2 a.blur it = meetS2 b.blur it)
def mergeN (a b : Note) : Note := ⟨a.start, joinS [a.end_, b.end_], tidyS (a.blur ++ b.blur), []⟩
def stepB (it : List Span) (out : List Note) (x : Note) : List Note :=
 match out.getLast? with
 | some a => if goesS it a x = true then out.dropLast ++ [mergeN a x] else out ++ [x]
 | none => out ++ [x]
def stopB (it : List Span) (most : Int) (out : List Note) (x : Note) : Bool :=
 match out.getLast? with
 | some a => !goesS it a x && decide ((out.length : Int) = most)
 | none => decide ((out.length : Int) = most)
def batchFrom (it : List Span) (most : Int) : List Note → Nat → List Note → List Note × Nat
 | out, i, [] => (out, i)
 | out, i, x :: l => if stopB it most out x = true then (out, i) else batchFrom it most (stepB it out x) (i + 1) l
def toldX (l : Log) (it : List Span) : List Note := (l.notes.take l.sure.toNat).map fun n => throughN n it
def askB (l : Log) (at_ most : Int) : Bool := logFormed l && decide (0 ≤ at_) && decide (at_ ≤ l.sure) && decide (1 ≤ most)
def batchN (l : Log) (at_ : Int) (it : List Span) (most : Int) : List Note × Nat := batchFrom it most [] at_.toNat ((toldX l it).drop at_.toNat)
def batchS (l : Log) (at_ : Int) (it : List Span) (most : Int) : List Note × Int × Int :=
 if askB l at_ most = true then ((batchN l at_ it most).1, ((batchN l at_ it most).2 : Nat), 0) else ([], 0, 1)
-- what is told is formed
theorem writesFrom_iff {x : Note} : ∀ {l : List Write} {e : Int}, writesFrom x e l = true ↔ (∀ y ∈ l, e < y.object ∧ 0 ≤ y.object ∧ y.object ≤ 255 ∧ spanHas x.blur y.object = false ∧ vecHas x.end_ y.stamp = true) ∧ l.Pairwise fun a b => a.object < b.object
 | [], e => by simp [writesFrom]
 | y :: l, e => by
  simp only [writesFrom, Bool.and_eq_true, decide_eq_true_eq, Bool.not_eq_true', writesFrom_iff (l := l), List.mem_cons, List.pairwise_cons]
  constructor
  ·rintro ⟨⟨⟨⟨h1, h2, h3⟩, h4⟩, h5⟩, h6, h7⟩
   refine ⟨fun z hz => ?_, fun z hz => (h6 z hz).1, h7⟩
   rcases hz with rfl | hz
   ·exact ⟨h1, h2, h3, h4, h5⟩
   ·have := h6 z hz
    exact ⟨by omega, this.2⟩
  ·rintro ⟨h1, h2, h3⟩
   have := h1 y (.inl rfl)
   exact ⟨⟨⟨⟨this.1, this.2.1, this.2.2.1⟩, this.2.2.2.1⟩, this.2.2.2.2⟩, fun z hz => ⟨h2 z hz, (h1 z (.inr hz)).2⟩, h3⟩
theorem noteFormed_iff {x : Note} : noteFormed x = true ↔ vecFormed x.start = true ∧ vecFormed x.end_ = true ∧ coversB x.end_ x.start = true ∧ spanFormed x.blur = true ∧ writesFrom x (-1) x.writes = true := by
 simp only [noteFormed, Bool.and_eq_true, and_assoc]
-- batches one after the other
section
variable {it : List Span} {most : Int}
def foldB (it : List Span) (out : List Note) (l : List Note) : List Note := l.foldl (stepB it) out
end
end Go.Proofs.YtkphfdmelfhnoaaGreatDoor
