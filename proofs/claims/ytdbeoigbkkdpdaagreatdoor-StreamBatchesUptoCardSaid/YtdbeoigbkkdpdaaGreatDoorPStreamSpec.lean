/- Logs, and what a stream tells of them: plain specifications and laws. No program is known here. -/
import Derived.Test.YtdbeoigbkkdpdaaGreatDoorPNoteSmall
import Derived.Test.YtdbeoigbkkdpdaaGreatDoorPTidyLaw
import Derived.Test.YtdbeoigbkkdpdaaGreatDoorPSpanIn
import Derived.Test.YtdbeoigbkkdpdaaGreatDoorPNoteWalk
import Derived.Test.YtdbeoigbkkdpdaaGreatDoorPVecLaw
set_option linter.all false
set_option linter.unnecessarySimpa false
set_option linter.unusedSimpArgs false
set_option linter.unusedVariables false
/- What a note looks like through an interest. -/
namespace Go.Proofs.YtdbeoigbkkdpdaaGreatDoor
open Go.ChangeShapes Go.WideShapes Go.ChangeAt Go.RowKit

def seenW (it : List Span) (l : List Write) : List Write := l.filter fun y => spanHas it y.object
def unseenW (it : List Span) (l : List Write) : List Int := (l.filter fun y => !spanHas it y.object).map (·.object)
theorem seenW_snoc (it : List Span) (l : List Write) (y : Write) : seenW it (l ++ [y]) = if spanHas it y.object = true then seenW it l ++ [y] else seenW it l := by
  unfold seenW; rw [List.filter_append]; split <;> simp [*]
theorem unseenW_snoc (it : List Span) (l : List Write) (y : Write) : unseenW it (l ++ [y]) = if spanHas it y.object = true then unseenW it l else unseenW it l ++ [y.object] := by
  unfold unseenW; rw [List.filter_append, List.map_append]; split <;> simp [*]
theorem seenW_len (it : List Span) (l : List Write) : (seenW it l).length ≤ l.length := List.length_filter_le _ _
theorem unseenW_len (it : List Span) (l : List Write) : (unseenW it l).length ≤ l.length := by unfold unseenW; rw [List.length_map]; exact List.length_filter_le _ _
def throughBlur (x : Note) (it : List Span) : List Span := tidyS (x.blur ++ tidyS (dots (unseenW it x.writes)))
def throughN (x : Note) (it : List Span) : Note := ⟨x.start, x.end_, throughBlur x it, seenW it x.writes⟩
theorem memB_dots (os : List Int) (o : Int) : memB (dots os) o = os.any fun p => decide (p = o) := by
  unfold memB dots
  rw [List.any_map]
  congr 1
  funext p
  rw [Bool.eq_iff_iff]
  simp only [Function.comp, Bool.and_eq_true, decide_eq_true_eq]
  omega
theorem throughBlur_set (x : Note) (it : List Span) : throughBlur x it = ofSet fun o => memB x.blur o || (unseenW it x.writes).any fun p => decide (p = (o : Int)) := by
  unfold throughBlur
  rw [tidyS]
  refine ofSet_congr fun o ho => ?_
  rw [memB_append, tidyS, memB_ofSet _ ho, memB_dots]
end Go.Proofs.YtdbeoigbkkdpdaaGreatDoor
namespace Go.Proofs.YtdbeoigbkkdpdaaGreatDoor

structure Log where
  base : List Stamp
  notes : List Note
  sure : Int
/-- notes that may stand behind what is known -/
def notesFrom : List Stamp → List Note → Bool
  | _, [] => true
  | k, n :: l => (noteFormed n && coversB k n.start) && notesFrom (joinS [k, n.end_]) l
def sureB (l : Log) : Bool := decide (0 ≤ l.sure) && decide (l.sure ≤ l.notes.length)
def logFormed (l : Log) : Bool := vecFormed l.base && sureB l && notesFrom l.base l.notes
def knownFrom (k : List Stamp) (l : List Note) : List Stamp := l.foldl (fun k n => joinS [k, n.end_]) k
theorem joinS_one {a : List Stamp} (h : vecFormed a = true) : joinS [a] = a := by
  unfold joinS
  rw [vecOf_congr (d := fun n => countOf a n) fun n _ => joinC_one a n]
  exact vecOf_count h
theorem joinS_formed (ls : List (List Stamp)) : vecFormed (joinS ls) = true := vecOf_formed _
theorem notesFrom_append : ∀ (l m : List Note) (k : List Stamp), notesFrom k (l ++ m) = (notesFrom k l && notesFrom (knownFrom k l) m)
  | [], m, k => by simp [notesFrom, knownFrom]
  | n :: l, m, k => by
    rw [List.cons_append, notesFrom, notesFrom, notesFrom_append l m, Bool.and_assoc, Bool.and_assoc, Bool.and_assoc]
    rfl
theorem knownFrom_snoc (k : List Stamp) (l : List Note) (n : Note) : knownFrom k (l ++ [n]) = joinS [knownFrom k l, n.end_] := by simp [knownFrom]
theorem notesFrom_mem : ∀ {l : List Note} {k : List Stamp}, notesFrom k l = true → ∀ n ∈ l, noteFormed n = true
  | [], _, _, n, hn => by cases hn
  | m :: l, k, h, n, hn => by
    simp only [notesFrom, Bool.and_eq_true] at h
    rcases List.mem_cons.1 hn with rfl | hn
    · exact h.1.1
    · exact notesFrom_mem h.2 n hn
/-- the program begins with the join of the base -/
theorem logFormed_join (l : Log) : logFormed l = (notesFrom (joinS [l.base]) l.notes && (vecFormed l.base && sureB l)) := by
  unfold logFormed
  cases h : vecFormed l.base with
  | false => simp
  | true => rw [joinS_one h, Bool.and_comm]
theorem logFormed_mem {l : Log} (h : logFormed l = true) : ∀ n ∈ l.notes, noteFormed n = true := by
  simp only [logFormed, Bool.and_eq_true] at h
  exact notesFrom_mem h.2
theorem logFormed_sure {l : Log} (h : logFormed l = true) : 0 ≤ l.sure ∧ l.sure ≤ l.notes.length := by
  simp only [logFormed, sureB, Bool.and_eq_true, decide_eq_true_eq] at h
  exact h.1.2

-- where to begin
-- a batch
def meetS2 (a b : List Span) : List Span := ofSet fun o => memB a o && memB b o
def goesS (it : List Span) (a b : Note) : Bool := decide (a.writes = []) && decide (b.writes = []) && decide (a.end_ = b.start) && decide (meetS2 a.blur it = meetS2 b.blur it)
def mergeN (a b : Note) : Note := ⟨a.start, joinS [a.end_, b.end_], tidyS (a.blur ++ b.blur), []⟩
def stepB (it : List Span) (out : List Note) (x : Note) : List Note :=
  match out.getLast? with
  | some a => if goesS it a x = true then out.dropLast ++ [mergeN a x] else out ++ [x]
  | none => out ++ [x]
def stopB (it : List Span) (most : Int) (out : List Note) (x : Note) : Bool :=
  match out.getLast? with
  | some a => !goesS it a x && decide ((out.length : Int) = most)
  | none => decide ((out.length : Int) = most)
def batchFrom (it : List Span) (most : Int) : List Note → Nat → List Note → List Note × Nat
  | out, i, [] => (out, i)
  | out, i, x :: l => if stopB it most out x = true then (out, i) else batchFrom it most (stepB it out x) (i + 1) l
/-- the sure notes, as they are seen -/
def toldX (l : Log) (it : List Span) : List Note := (l.notes.take l.sure.toNat).map fun n => throughN n it
def askB (l : Log) (at_ most : Int) : Bool := logFormed l && decide (0 ≤ at_) && decide (at_ ≤ l.sure) && decide (1 ≤ most)
def batchN (l : Log) (at_ : Int) (it : List Span) (most : Int) : List Note × Nat := batchFrom it most [] at_.toNat ((toldX l it).drop at_.toNat)
def batchS (l : Log) (at_ : Int) (it : List Span) (most : Int) : List Note × Int × Int :=
  if askB l at_ most = true then ((batchN l at_ it most).1, ((batchN l at_ it most).2 : Nat), 0) else ([], 0, 1)

-- what is told is formed
theorem coversB_iff {a b : List Stamp} : coversB a b = true ↔ ∀ n : Nat, n < 64 → countOf b n ≤ countOf a n := by unfold coversB; exact decide_eq_true_iff
theorem writesFrom_iff {x : Note} : ∀ {l : List Write} {e : Int}, writesFrom x e l = true ↔ (∀ y ∈ l, e < y.object ∧ 0 ≤ y.object ∧ y.object ≤ 255 ∧ spanHas x.blur y.object = false ∧ vecHas x.end_ y.stamp = true) ∧ l.Pairwise fun a b => a.object < b.object
  | [], e => by simp [writesFrom]
  | y :: l, e => by
    simp only [writesFrom, Bool.and_eq_true, decide_eq_true_eq, Bool.not_eq_true', writesFrom_iff (l := l), List.mem_cons, List.pairwise_cons]
    constructor
    · rintro ⟨⟨⟨⟨h1, h2, h3⟩, h4⟩, h5⟩, h6, h7⟩
      refine ⟨fun z hz => ?_, fun z hz => (h6 z hz).1, h7⟩
      rcases hz with rfl | hz
      · exact ⟨h1, h2, h3, h4, h5⟩
      · have := h6 z hz
        exact ⟨by omega, this.2⟩
    · rintro ⟨h1, h2, h3⟩
      have := h1 y (.inl rfl)
      exact ⟨⟨⟨⟨this.1, this.2.1, this.2.2.1⟩, this.2.2.2.1⟩, this.2.2.2.2⟩, fun z hz => ⟨h2 z hz, (h1 z (.inr hz)).2⟩, h3⟩
theorem noteFormed_iff {x : Note} : noteFormed x = true ↔ vecFormed x.start = true ∧ vecFormed x.end_ = true ∧ coversB x.end_ x.start = true ∧ spanFormed x.blur = true ∧ writesFrom x (-1) x.writes = true := by
  simp only [noteFormed, Bool.and_eq_true, and_assoc]
theorem spanHas_ofSet (f : Nat → Bool) {o : Int} (h0 : 0 ≤ o) (h1 : o ≤ 255) : spanHas (ofSet f) o = f o.toNat := by
  have := memB_ofSet f (o := o.toNat) (by omega)
  rw [show ((o.toNat : Nat) : Int) = o by omega] at this
  unfold spanHas
  rw [this]
  simp [h0, h1]
theorem through_formed {x : Note} (it : List Span) (h : noteFormed x = true) : noteFormed (throughN x it) = true := by
  obtain ⟨h1, h2, h3, h4, h5⟩ := noteFormed_iff.1 h
  obtain ⟨h6, h7⟩ := writesFrom_iff.1 h5
  refine noteFormed_iff.2 ⟨h1, h2, h3, ?_, writesFrom_iff.2 ⟨fun y hy => ?_, h7.sublist List.filter_sublist⟩⟩
  · rw [show (throughN x it).blur = throughBlur x it from rfl, throughBlur_set]
    exact ofSet_formed _
  · have hm : y ∈ x.writes := (List.mem_filter.1 hy).1
    have hs : spanHas it y.object = true := by have := (List.mem_filter.1 hy).2; exact this
    obtain ⟨a1, a2, a3, a4, a5⟩ := h6 y hm
    refine ⟨a1, a2, a3, ?_, a5⟩
    rw [show (throughN x it).blur = throughBlur x it from rfl, throughBlur_set, spanHas_ofSet _ a2 a3]
    have e : ((y.object.toNat : Nat) : Int) = y.object := by omega
    rw [e, Bool.or_eq_false_iff]
    refine ⟨?_, ?_⟩
    · unfold spanHas at a4
      simpa [a2, a3] using a4
    · rw [Bool.eq_false_iff]
      intro hh
      obtain ⟨p, hp, he⟩ := List.any_eq_true.1 hh
      have he := of_decide_eq_true he
      unfold unseenW at hp
      obtain ⟨z, hz, hz2⟩ := List.mem_map.1 hp
      have := (List.mem_filter.1 hz).2
      rw [hz2, he, hs] at this
      simp at this
theorem merge_formed {a b : Note} (ha : noteFormed a = true) (hb : noteFormed b = true) : noteFormed (mergeN a b) = true := by
  obtain ⟨h1, h2, h3, h4, h5⟩ := noteFormed_iff.1 ha
  have hb : spanFormed (tidyS (a.blur ++ b.blur)) = true := by unfold tidyS; exact ofSet_formed _
  refine noteFormed_iff.2 ⟨h1, joinS_formed _, coversB_iff.2 fun n hn => ?_, hb, rfl⟩
  show countOf a.start n ≤ countOf (joinS [a.end_, b.end_]) n
  rw [countOf_joinS _ hn, joinC_two]
  have := coversB_iff.1 h3 n hn
  omega
theorem stepB_formed {it : List Span} {out : List Note} {x : Note} (h : ∀ n ∈ out, noteFormed n = true) (hx : noteFormed x = true) : ∀ n ∈ stepB it out x, noteFormed n = true := by
  unfold stepB
  have hap : ∀ n ∈ out ++ [x], noteFormed n = true := fun n hn => by
    rcases List.mem_append.1 hn with hn | hn
    · exact h n hn
    · rw [List.mem_singleton.1 hn]; exact hx
  split
  · rename_i a ha
    split
    · intro n hn
      rcases List.mem_append.1 hn with hn | hn
      · exact h n (List.dropLast_subset _ hn)
      · rw [List.mem_singleton.1 hn]
        exact merge_formed (h a (List.mem_of_getLast? ha)) hx
    · exact hap
  · exact hap

-- batches one after the other
section
variable {it : List Span} {most : Int}
def foldB (it : List Span) (out : List Note) (l : List Note) : List Note := l.foldl (stepB it) out
theorem stepB_len (out : List Note) (x : Note) : out.length ≤ (stepB it out x).length ∧ (stepB it out x).length ≤ out.length + 1 ∧ (stopB it most out x = false → (out.length : Int) ≤ most → ((stepB it out x).length : Int) ≤ most) := by
  unfold stepB stopB
  split
  · rename_i a ha
    have hne : out ≠ [] := by rintro rfl; simp at ha
    have := List.length_pos_iff.2 hne
    split
    · simp only [List.length_append, List.length_dropLast, List.length_cons, List.length_nil]
      exact ⟨by omega, by omega, fun _ _ => by omega⟩
    · rename_i hg
      simp only [List.length_append, List.length_cons, List.length_nil, Bool.and_eq_false_iff, decide_eq_false_iff_not]
      refine ⟨by omega, by omega, fun h1 h2 => ?_⟩
      rcases h1 with h1 | h1
      · simp [hg] at h1
      · omega
  · simp only [List.length_append, List.length_cons, List.length_nil, decide_eq_false_iff_not]
    exact ⟨by omega, by omega, fun _ _ => by omega⟩
end
end Go.Proofs.YtdbeoigbkkdpdaaGreatDoor
