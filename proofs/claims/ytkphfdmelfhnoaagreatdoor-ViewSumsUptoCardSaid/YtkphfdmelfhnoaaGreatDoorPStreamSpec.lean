/- Logs, and what a stream tells of them: plain specifications and laws. No program is known here. -/
import Derived.Test.YtkphfdmelfhnoaaGreatDoorPMsg
import Derived.Test.YtkphfdmelfhnoaaGreatDoorPNoteSmall
import Derived.Test.YtkphfdmelfhnoaaGreatDoorPTidyLaw
import Derived.Test.YtkphfdmelfhnoaaGreatDoorPVecRef
set_option linter.all false
set_option linter.unnecessarySimpa false
set_option linter.unusedSimpArgs false
set_option linter.unusedVariables false
namespace Go.Proofs.YtkphfdmelfhnoaaGreatDoor
open Go.ChangeShapes Go.WideShapes Go.ChangeAt Go.RowKit
theorem noteObject (o : Int) (w : World) :
  Calls Tryz.prog 124 #[.int .i64 o] w fun e w' => e = .returned (.bool (decide (0 ≤ o ∧ o ≤ 255))) ∧ w = w' := by
 go_enter Tryz.func124, Tryz.ntmps124
 go_wp2_with fail
 all_goals (go_ret; refine ⟨ret_bool ?_, rfl⟩; first | (rw [eq_comm, decide_eq_true_eq]; omega) | (rw [eq_comm, decide_eq_false_iff_not]; omega) | (rw [Bool.eq_iff_iff]; simp <;> omega))
set_option maxHeartbeats 1600000 in
theorem noteFormedWalk (x : Note) (v0 v1 v2 v3 : Value) (w : World) (h : NoteV w w.heap.size v0 v1 v2 v3 x) (hT : TzTab w) :
  Calls Tryz.prog 41 #[.agg #[v0, v1, v2, v3]] w fun e w' => e = .returned (.bool (noteFormed x)) ∧ Below w.heap.size w w' := by
 have hle := h.writes.len_le
 obtain ⟨A0, c0, rfl, _⟩ := id h.start
 obtain ⟨A1, c1, rfl, _⟩ := id h.end_
 obtain ⟨A2, c2, rfl, _⟩ := id h.blur
 obtain ⟨A3, c3, rfl, _⟩ := id h.writes
 unfold noteFormed
 generalize hr0 : vecFormed x.start = r0
 generalize hr1 : vecFormed x.end_ = r1
 generalize hr2 : coversB x.end_ x.start = r2
 generalize hr3 : spanFormed x.blur = r3
 have H0 := Lib.hid hr0
 have H1 := Lib.hid hr1
 have H2 := Lib.hid hr2
 have H3 := Lib.hid hr3
 have HT := Lib.hid hT
 clear hr0 hr1 hr2 hr3 hT
 go_enter Tryz.func41, Tryz.ntmps41
 go_wp2_with fail
 generalize hv0 : Value.slice A0 x.start.length c0 = v0 at *
 generalize hv1 : Value.slice A1 x.end_.length c1 = v1 at *
 generalize hv2 : Value.slice A2 x.blur.length c2 = v2 at *
 generalize hv3 : Value.slice A3 x.writes.length c3 = v3 at *
 have Hv3 := Lib.hid hv3
 clear hv0 hv1 hv2 hv3
 have k := balloc (o := .cells #[v0, v1, v2, v3] 30) (Below.refl _ w)
 have B := Blk.new w 30 #[v0, v1, v2, v3]
 generalize hW0 : w.alloc (.cells #[v0, v1, v2, v3] 30) = W0 at *
 clear hW0
 have hn := h.next k
 have hT := Lib.hid (HT.out.next k)
 refine (vectorFormed x.start _ _ hn.start).mono ?_
 rw [H0.out]
 rintro e w1 ⟨rfl, hb1⟩
 replace k := bnext k hb1
 replace B := B.next hb1
 replace hn := hn.next hb1
 replace hT := Lib.hid (hT.out.next hb1)
 clear hb1
 have b0 := B.cell 0
 have b1 := B.cell 1
 have b2 := B.cell 2
 have b3 := B.cell 3
 simp only [List.getElem?_toArray, List.getElem?_cons_zero, List.getElem?_cons_succ] at b0 b1 b2 b3
 cases r0
 ·go_wp2_with fail
  go_ret
  exact ⟨rfl, k⟩
 go_wp2_with fail
 refine (vectorFormed x.end_ _ _ hn.end_).mono ?_
 rw [H1.out]
 rintro e w2 ⟨rfl, hb1⟩
 replace k := bnext k hb1
 replace B := B.next hb1
 replace hn := hn.next hb1
 replace hT := Lib.hid (hT.out.next hb1)
 replace b0 := kept_cell hb1 b0
 replace b1 := kept_cell hb1 b1
 replace b2 := kept_cell hb1 b2
 replace b3 := kept_cell hb1 b3
 clear hb1
 cases r1
 ·go_wp2_with fail
  go_ret
  exact ⟨rfl, k⟩
 go_wp2_with fail
 refine (vectorCovers x.end_ x.start _ _ _ hn.end_ hn.start hT.out).mono ?_
 rw [H2.out]
 rintro e w3 ⟨rfl, hb1⟩
 replace k := bnext k hb1
 replace B := B.next hb1
 replace hn := hn.next hb1
 replace hT := Lib.hid (hT.out.next hb1)
 replace b0 := kept_cell hb1 b0
 replace b1 := kept_cell hb1 b1
 replace b2 := kept_cell hb1 b2
 replace b3 := kept_cell hb1 b3
 clear hb1
 cases r2
 ·go_wp2_with fail
  go_ret
  exact ⟨rfl, k⟩
 go_wp2_with fail
 refine (spanFormedWalk x.blur _ _ hn.blur).mono ?_
 rw [H3.out]
 rintro e w4 ⟨rfl, hb1⟩
 replace k := bnext k hb1
 replace B := B.next hb1
 replace hn := hn.next hb1
 replace hT := Lib.hid (hT.out.next hb1)
 replace b0 := kept_cell hb1 b0
 replace b1 := kept_cell hb1 b1
 replace b2 := kept_cell hb1 b2
 replace b3 := kept_cell hb1 b3
 clear hb1
 cases r3
 ·go_wp2_with fail
  go_ret
  exact ⟨rfl, k⟩
 rw [← Hv3.out] at b3
 go_wp2_with fail
 have HB := Lib.hid B
 have HN := Lib.hid hn
 clear b0 b1 b2 b3 B hn HT H0 H1 H2 H3 h
 go_loopw [3, 33] (fun a i wr => ∃ (m : Nat) (e : Int), m ≤ x.writes.length ∧ i = .int .i64 m ∧ a = .int .i64 e ∧ writesFrom x (-1) x.writes = writesFrom x e (x.writes.drop m) ∧ Below w4.heap.size w4 wr) (fun _ i _ => x.writes.length - (intOf i).toNat)
 case atStart => exact ⟨0, -1, Nat.zero_le _, rfl, rfl, rfl, Below.refl _ _⟩
 case round =>
  obtain ⟨m, e, hm, rfl, rfl, hv, hb⟩ := hrel
  have hn := HN.out.next hb
  have B := HB.out.next hb
  replace k := bnext k hb
  by_cases hlt : m < x.writes.length
  ·obtain ⟨y, hy⟩ : ∃ y, x.writes[m]? = some y := ⟨x.writes[m], List.getElem?_eq_getElem hlt⟩
   obtain ⟨b, off, c', hv', hbb, e0, e1, e2, e3, _⟩ := writes_at hn.writes hy
   rw [← Hv3.out] at hv'
   injection hv' with hv1 hv2 hv3
   rw [drop_cons hy, writesFrom] at hv
   obtain ⟨⟨yc, yn⟩, yo, yg⟩ := y
   simp only at e0 e1 e2 e3 hv
   have HV := Lib.hid hv
   subst hv1
   have b1 := B.cell 1
   have b2 := B.cell 2
   simp only [List.getElem?_toArray, List.getElem?_cons_zero, List.getElem?_cons_succ] at b1 b2
   clear hv hv2 hv3 hy hbb
   by_cases p1 : yo ≤ e
   ·go_wp2_with fail
    go_ret
    refine ⟨ret_bool ?_, balloc k⟩
    rw [HV.out, decide_eq_false (p := e < yo ∧ 0 ≤ yo ∧ yo ≤ 255) (by omega)]
    rfl
   ·go_wp2_with fail
    have kB := balloc (o := .cells #[.int .i64 yc, .int .i64 yn, .int .i64 yo, .bool yg] 55) (Below.refl _ wr)
    have B5 := Blk.new wr 55 #[.int .i64 yc, .int .i64 yn, .int .i64 yo, .bool yg]
    replace hn := hn.next kB
    replace B := B.next kB
    have hT2 := Lib.hid ((hT.out.next hb).next kB)
    replace k := bnext k kB
    replace hb := bnext hb kB
    clear e0 e1 e2 e3 b1 b2
    have HVn := Lib.hid hn
    clear hn
    refine (noteObject yo _).mono ?_
    by_cases p2 : 0 ≤ yo ∧ yo ≤ 255
    ·rw [decide_eq_true p2]
     rintro e' w5 ⟨rfl, rfl⟩
     have hd : decide (e < yo ∧ 0 ≤ yo ∧ yo ≤ 255) = true := decide_eq_true (by omega)
     have HD := Lib.hid hd
     clear hd
     generalize hW5 : wr.alloc (.cells #[.int .i64 yc, .int .i64 yn, .int .i64 yo, .bool yg] 55) = w5 at *
     have d0 := B5.cell 0
     have d1 := B5.cell 1
     have d2 := B5.cell 2
     have b1 := B.cell 1
     have b2 := B.cell 2
     simp only [List.getElem?_toArray, List.getElem?_cons_zero, List.getElem?_cons_succ] at b1 b2 d0 d1 d2
     clear hW5 kB
     go_wp2_with fail
     refine (spanHasWalk x.blur yo _ _ HVn.out.blur).mono ?_
     generalize hq : spanHas x.blur yo = q at HV ⊢
     clear hq
     rintro e' w6 ⟨rfl, hb1⟩
     replace k := bnext k hb1
     replace hb := bnext hb hb1
     replace HVn := Lib.hid (HVn.out.next hb1)
     replace B5 := B5.next hb1
     replace b1 := kept_cell hb1 b1
     replace b2 := kept_cell hb1 b2
     replace d0 := kept_cell hb1 d0
     replace d1 := kept_cell hb1 d1
     replace d2 := kept_cell hb1 d2
     clear hb1
     cases q with
     | true =>
      go_wp2_with fail
      go_ret
      refine ⟨ret_bool ?_, k⟩
      rw [HV.out, HD.out]
      rfl
     | false =>
      go_wp2_with fail
      refine (vectorHas x.end_ ⟨yc, yn⟩ _ _ HVn.out.end_).mono ?_
      generalize hq : vecHas x.end_ ⟨yc, yn⟩ = q at HV ⊢
      clear hq
      rintro e' w7 ⟨rfl, hb1⟩
      replace k := bnext k hb1
      replace hb := bnext hb hb1
      replace d2 := kept_cell hb1 d2
      clear hb1
      cases q with
      | false =>
       go_wp2_with fail
       go_ret
       refine ⟨ret_bool ?_, k⟩
       rw [HV.out, HD.out]
       rfl
      | true =>
       go_wp2_with fail
       refine ⟨⟨m + 1, yo, by omega, by go_num, rfl, ?_, hb⟩, by simp [intOf]; omega⟩
       rw [HV.out, HD.out]
       rfl
    ·rw [decide_eq_false p2]
     rintro e' w5 ⟨rfl, rfl⟩
     go_wp2_with fail
     go_ret
     refine ⟨ret_bool ?_, k⟩
     rw [HV.out, decide_eq_false (p := e < yo ∧ 0 ≤ yo ∧ yo ≤ 255) (by omega)]
     rfl
  ·obtain rfl : m = x.writes.length := by omega
   rw [List.drop_length] at hv
   have HV := Lib.hid hv
   clear hv
   go_wp2_with fail
   go_ret
   exact ⟨ret_bool (by rw [HV.out]; rfl), k⟩
def seenW (it : List Span) (l : List Write) : List Write := l.filter fun y => spanHas it y.object
def unseenW (it : List Span) (l : List Write) : List Int := (l.filter fun y => !spanHas it y.object).map (·.object)
def throughBlur (x : Note) (it : List Span) : List Span := tidyS (x.blur ++ tidyS (dots (unseenW it x.writes)))
def throughN (x : Note) (it : List Span) : Note := ⟨x.start, x.end_, throughBlur x it, seenW it x.writes⟩
def noNote : Note := ⟨[], [], [], []⟩
def throughS (x : Note) (it : List Span) : Note × Int := if noteFormed x = true then (throughN x it, 0) else (noNote, 1)
theorem memB_dots (os : List Int) (o : Int) : memB (dots os) o = os.any fun p => decide (p = o) := by
 unfold memB dots
 rw [List.any_map]
 congr 1
 funext p
 rw [Bool.eq_iff_iff]
 simp only [Function.comp, Bool.and_eq_true, decide_eq_true_eq]
 omega
end Go.Proofs.YtkphfdmelfhnoaaGreatDoor
namespace Go.Proofs.YtkphfdmelfhnoaaGreatDoor
structure Log where
 base : List Stamp
 notes : List Note
 sure : Int
def notesFrom : List Stamp → List Note → Bool
 | _, [] => true
 | k, n :: l => (noteFormed n && coversB k n.start) && notesFrom (joinS [k, n.end_]) l
def sureB (l : Log) : Bool := decide (0 ≤ l.sure) && decide (l.sure ≤ l.notes.length)
def logFormed (l : Log) : Bool := vecFormed l.base && sureB l && notesFrom l.base l.notes
def knownFrom (k : List Stamp) (l : List Note) : List Stamp := l.foldl (fun k n => joinS [k, n.end_]) k
-- where to begin
def firstNews (v : List Stamp) (l : List Note) : Nat := l.findIdx fun n => !coversB v n.end_
def placeS (l : Log) (v : List Stamp) : Int × Int := if logFormed l = true then (if coversB v l.base = true then ((firstNews v l.notes : Nat), 0) else (0, 12)) else (0, 1)
def beginS (l : Log) (v : List Stamp) : Int × Int := if (placeS l v).2 = 12 then (-1, 0) else placeS l v
-- a batch
def meetS2 (a b : List Span) : List Span := ofSet fun o => memB a o && memB b o
def goesS (it : List Span) (a b : Note) : Bool := decide (a.writes = []) && decide (b.writes = []) && decide (a.end_ = b.start) && decide (meetS2 a.blur it = meetS2 b.blur it)
def mergeN (a b : Note) : Note := ⟨a.start, joinS [a.end_, b.end_], tidyS (a.blur ++ b.blur), []⟩
def stepB (it : List Span) (out : List Note) (x : Note) : List Note :=
 match out.getLast? with
 | some a => if goesS it a x = true then out.dropLast ++ [mergeN a x] else out ++ [x]
 | none => out ++ [x]
def stopB (it : List Span) (most : Int) (out : List Note) (x : Note) : Bool :=
 match out.getLast? with
 | some a => !goesS it a x && decide ((out.length : Int) = most)
 | none => decide ((out.length : Int) = most)
def batchFrom (it : List Span) (most : Int) : List Note → Nat → List Note → List Note × Nat
 | out, i, [] => (out, i)
 | out, i, x :: l => if stopB it most out x = true then (out, i) else batchFrom it most (stepB it out x) (i + 1) l
def toldX (l : Log) (it : List Span) : List Note := (l.notes.take l.sure.toNat).map fun n => throughN n it
def askB (l : Log) (at_ most : Int) : Bool := logFormed l && decide (0 ≤ at_) && decide (at_ ≤ l.sure) && decide (1 ≤ most)
def batchN (l : Log) (at_ : Int) (it : List Span) (most : Int) : List Note × Nat := batchFrom it most [] at_.toNat ((toldX l it).drop at_.toNat)
def batchS (l : Log) (at_ : Int) (it : List Span) (most : Int) : List Note × Int × Int :=
 if askB l at_ most = true then ((batchN l at_ it most).1, ((batchN l at_ it most).2 : Nat), 0) else ([], 0, 1)
-- what is told is formed
theorem coversB_iff {a b : List Stamp} : coversB a b = true ↔ ∀ n : Nat, n < 64 → countOf b n ≤ countOf a n := by unfold coversB; exact decide_eq_true_iff
theorem writesFrom_iff {x : Note} : ∀ {l : List Write} {e : Int}, writesFrom x e l = true ↔ (∀ y ∈ l, e < y.object ∧ 0 ≤ y.object ∧ y.object ≤ 255 ∧ spanHas x.blur y.object = false ∧ vecHas x.end_ y.stamp = true) ∧ l.Pairwise fun a b => a.object < b.object
 | [], e => by simp [writesFrom]
 | y :: l, e => by
  simp only [writesFrom, Bool.and_eq_true, decide_eq_true_eq, Bool.not_eq_true', writesFrom_iff (l := l), List.mem_cons, List.pairwise_cons]
  constructor
  ·rintro ⟨⟨⟨⟨h1, h2, h3⟩, h4⟩, h5⟩, h6, h7⟩
   refine ⟨fun z hz => ?_, fun z hz => (h6 z hz).1, h7⟩
   rcases hz with rfl | hz
   ·exact ⟨h1, h2, h3, h4, h5⟩
   ·have := h6 z hz
    exact ⟨by omega, this.2⟩
  ·rintro ⟨h1, h2, h3⟩
   have := h1 y (.inl rfl)
   exact ⟨⟨⟨⟨this.1, this.2.1, this.2.2.1⟩, this.2.2.2.1⟩, this.2.2.2.2⟩, fun z hz => ⟨h2 z hz, (h1 z (.inr hz)).2⟩, h3⟩
theorem noteFormed_iff {x : Note} : noteFormed x = true ↔ vecFormed x.start = true ∧ vecFormed x.end_ = true ∧ coversB x.end_ x.start = true ∧ spanFormed x.blur = true ∧ writesFrom x (-1) x.writes = true := by
 simp only [noteFormed, Bool.and_eq_true, and_assoc]
-- batches one after the other
section
variable {it : List Span} {most : Int}
def foldB (it : List Span) (out : List Note) (l : List Note) : List Note := l.foldl (stepB it) out
end
end Go.Proofs.YtkphfdmelfhnoaaGreatDoor
