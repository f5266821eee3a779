/- One note for two dull ones of which the second goes on where the first ends (the reference's). -/
import Derived.Test.YtkphfdmelfhnoaaGreatDoorPNoteSmall
import Derived.Test.YtkphfdmelfhnoaaGreatDoorPTidyLaw
import Derived.Test.YtkphfdmelfhnoaaGreatDoorPSpanIn
import Derived.Test.YtkphfdmelfhnoaaGreatDoorPNoteWalk
import Derived.Test.YtkphfdmelfhnoaaGreatDoorPVecLaw
import Derived.Test.YtkphfdmelfhnoaaGreatDoorPAbsArr
import Derived.Test.YtkphfdmelfhnoaaGreatDoorPEnc
import Derived.Test.YtkphfdmelfhnoaaGreatDoorPBridge
import Derived.Test.YtkphfdmelfhnoaaGreatDoorPBridge2
set_option linter.all false
set_option linter.unnecessarySimpa false
set_option linter.unusedSimpArgs false
set_option linter.unusedVariables false
namespace Go.Proofs.YtkphfdmelfhnoaaGreatDoor
open Go.ChangeShapes Go.WideShapes Go.ChangeAt Go.RowKit
def seenW (it : List Span) (l : List Write) : List Write := l.filter fun y => spanHas it y.object
def unseenW (it : List Span) (l : List Write) : List Int := (l.filter fun y => !spanHas it y.object).map (·.object)
def throughBlur (x : Note) (it : List Span) : List Span := tidyS (x.blur ++ tidyS (dots (unseenW it x.writes)))
def throughN (x : Note) (it : List Span) : Note := ⟨x.start, x.end_, throughBlur x it, seenW it x.writes⟩
def noNote : Note := ⟨[], [], [], []⟩
def throughS (x : Note) (it : List Span) : Note × Int := if noteFormed x = true then (throughN x it, 0) else (noNote, 1)
theorem memB_dots (os : List Int) (o : Int) : memB (dots os) o = os.any fun p => decide (p = o) := by
 unfold memB dots
 rw [List.any_map]
 congr 1
 funext p
 rw [Bool.eq_iff_iff]
 simp only [Function.comp, Bool.and_eq_true, decide_eq_true_eq]
 omega
end Go.Proofs.YtkphfdmelfhnoaaGreatDoor
namespace Go.Proofs.YtkphfdmelfhnoaaGreatDoor
structure Log where
 base : List Stamp
 notes : List Note
 sure : Int
def notesFrom : List Stamp → List Note → Bool
 | _, [] => true
 | k, n :: l => (noteFormed n && coversB k n.start) && notesFrom (joinS [k, n.end_]) l
def sureB (l : Log) : Bool := decide (0 ≤ l.sure) && decide (l.sure ≤ l.notes.length)
def logFormed (l : Log) : Bool := vecFormed l.base && sureB l && notesFrom l.base l.notes
def knownFrom (k : List Stamp) (l : List Note) : List Stamp := l.foldl (fun k n => joinS [k, n.end_]) k
-- where to begin
def firstNews (v : List Stamp) (l : List Note) : Nat := l.findIdx fun n => !coversB v n.end_
def placeS (l : Log) (v : List Stamp) : Int × Int := if logFormed l = true then (if coversB v l.base = true then ((firstNews v l.notes : Nat), 0) else (0, 12)) else (0, 1)
def beginS (l : Log) (v : List Stamp) : Int × Int := if (placeS l v).2 = 12 then (-1, 0) else placeS l v
-- a batch
def meetS2 (a b : List Span) : List Span := ofSet fun o => memB a o && memB b o
def goesS (it : List Span) (a b : Note) : Bool := decide (a.writes = []) && decide (b.writes = []) && decide (a.end_ = b.start) && decide (meetS2 a.blur it = meetS2 b.blur it)
def mergeN (a b : Note) : Note := ⟨a.start, joinS [a.end_, b.end_], tidyS (a.blur ++ b.blur), []⟩
def stepB (it : List Span) (out : List Note) (x : Note) : List Note :=
 match out.getLast? with
 | some a => if goesS it a x = true then out.dropLast ++ [mergeN a x] else out ++ [x]
 | none => out ++ [x]
def stopB (it : List Span) (most : Int) (out : List Note) (x : Note) : Bool :=
 match out.getLast? with
 | some a => !goesS it a x && decide ((out.length : Int) = most)
 | none => decide ((out.length : Int) = most)
def batchFrom (it : List Span) (most : Int) : List Note → Nat → List Note → List Note × Nat
 | out, i, [] => (out, i)
 | out, i, x :: l => if stopB it most out x = true then (out, i) else batchFrom it most (stepB it out x) (i + 1) l
def toldX (l : Log) (it : List Span) : List Note := (l.notes.take l.sure.toNat).map fun n => throughN n it
def askB (l : Log) (at_ most : Int) : Bool := logFormed l && decide (0 ≤ at_) && decide (at_ ≤ l.sure) && decide (1 ≤ most)
def batchN (l : Log) (at_ : Int) (it : List Span) (most : Int) : List Note × Nat := batchFrom it most [] at_.toNat ((toldX l it).drop at_.toNat)
def batchS (l : Log) (at_ : Int) (it : List Span) (most : Int) : List Note × Int × Int :=
 if askB l at_ most = true then ((batchN l at_ it most).1, ((batchN l at_ it most).2 : Nat), 0) else ([], 0, 1)
-- what is told is formed
theorem coversB_iff {a b : List Stamp} : coversB a b = true ↔ ∀ n : Nat, n < 64 → countOf b n ≤ countOf a n := by unfold coversB; exact decide_eq_true_iff
theorem writesFrom_iff {x : Note} : ∀ {l : List Write} {e : Int}, writesFrom x e l = true ↔ (∀ y ∈ l, e < y.object ∧ 0 ≤ y.object ∧ y.object ≤ 255 ∧ spanHas x.blur y.object = false ∧ vecHas x.end_ y.stamp = true) ∧ l.Pairwise fun a b => a.object < b.object
 | [], e => by simp [writesFrom]
 | y :: l, e => by
  simp only [writesFrom, Bool.and_eq_true, decide_eq_true_eq, Bool.not_eq_true', writesFrom_iff (l := l), List.mem_cons, List.pairwise_cons]
  constructor
  ·rintro ⟨⟨⟨⟨h1, h2, h3⟩, h4⟩, h5⟩, h6, h7⟩
   refine ⟨fun z hz => ?_, fun z hz => (h6 z hz).1, h7⟩
   rcases hz with rfl | hz
   ·exact ⟨h1, h2, h3, h4, h5⟩
   ·have := h6 z hz
    exact ⟨by omega, this.2⟩
  ·rintro ⟨h1, h2, h3⟩
   have := h1 y (.inl rfl)
   exact ⟨⟨⟨⟨this.1, this.2.1, this.2.2.1⟩, this.2.2.2.1⟩, this.2.2.2.2⟩, fun z hz => ⟨h2 z hz, (h1 z (.inr hz)).2⟩, h3⟩
theorem noteFormed_iff {x : Note} : noteFormed x = true ↔ vecFormed x.start = true ∧ vecFormed x.end_ = true ∧ coversB x.end_ x.start = true ∧ spanFormed x.blur = true ∧ writesFrom x (-1) x.writes = true := by
 simp only [noteFormed, Bool.and_eq_true, and_assoc]
-- batches one after the other
section
variable {it : List Span} {most : Int}
def foldB (it : List Span) (out : List Note) (l : List Note) : List Note := l.foldl (stepB it) out
end
end Go.Proofs.YtkphfdmelfhnoaaGreatDoor
namespace Go.Proofs.YtkphfdmelfhnoaaGreatDoor
open Go.ChangeShapes Go.WideShapes Go.ChangeAt Go.RowKit
def LogR (w : World) (B : Nat) (cs : List Value) (l : Log) : Prop := ∃ v0 v1, cs = [v0, v1, .int .i64 l.sure] ∧ Stamps w B v0 l.base ∧ Notes w B v1 l.notes ∧ I64 l.sure
structure Ask where
 at_ : Int
 most : Int
def AskR (cs : List Value) (a : Ask) : Prop := cs = [.int .i64 a.at_, .int .i64 a.most] ∧ I64 a.at_ ∧ I64 a.most
def logA (l : Log) : AV := .agg [.iv (stI l.base), .iv (noI l.notes), .val (.int .i64 l.sure)]
theorem logA_eq (l : Log) : logA l = .agg [.iv (stI l.base), .iv (noI l.notes), .val (.int .i64 l.sure)] := rfl
theorem ACalls.law {P : Program} {G : World → Prop} {f : FuncId} {args : List AV} {r : Value} (h : ACalls P G f args (.val r) []) {W : World} {vs : Array Value} (hG : G W) (hr : RepAs ⟨fun _ => 0, fun _ => undef⟩ W vs.toList args) :
  Calls P f vs W fun e w' => e = .returned r ∧ Below W.heap.size W w' :=
 (h.2 W W _ vs (Ext.refl W) hG hr).mono fun _ _ ⟨v, E', h1, h2, _, _, _, h6⟩ => by
  cases h6
  exact ⟨h1, h2⟩
attribute [local irreducible] AW AWY vops vopsY vop vopL vdraw callW qop binQ lenQ storeQ appendQ callQ ACalls AIter
@[go_sem] theorem nrm_st (l : List Stamp) : nrm (.iv (stI l)) = .iv (stI l) := rfl
@[go_sem] theorem nrm_sp (l : List Span) : nrm (.iv (spI l)) = .iv (spI l) := rfl
@[go_sem] theorem nrm_wr (l : List Write) : nrm (.iv (wrI l)) = .iv (wrI l) := rfl
theorem noteA_eq (x : Note) : noteA x = .agg [.iv (stI x.start), .iv (stI x.end_), .iv (spI x.blur), .iv (wrI x.writes)] := rfl
theorem noI_eq (l : List Note) : noI l = .sl 4 (l.map enN) := rfl
theorem wrI_eq (l : List Write) : wrI l = .sl 4 (l.map enW) := rfl
theorem flat_row {i e k : Nat} {l : List (List IV)} (h : ∀ cs ∈ l, ∀ x ∈ cs, ∃ v, x = .val v) : flatB [.row i e k l] := fun b hb => by
 rw [List.mem_singleton.1 hb]
 exact ⟨i, e, k, l, rfl, h⟩
theorem flat_sp (l : List Span) : ∀ cs ∈ l.map enSp, ∀ x ∈ cs, ∃ v, x = IV.val v := fun cs hcs x hx => by
 obtain ⟨s, _, rfl⟩ := List.mem_map.1 hcs
 simp [enSp] at hx
 rcases hx with rfl | rfl <;> exact ⟨_, rfl⟩
attribute [local go_sem] noI_eq enN_eq logA_eq noteA_eq storeQ_bp storeQ_rp
theorem clonestD (l : List Stamp) : ACalls Tryz.prog TzTab 106 [.iv (stI l)] (.iv (stI l)) [] := (clonest_call l).frz trivial
theorem clonewD (l : List Write) : ACalls Tryz.prog TzTab 71 [.iv (wrI l)] (.iv (wrI l)) [] := (clonew_call l).frz trivial
end Go.Proofs.YtkphfdmelfhnoaaGreatDoor
namespace Go.Proofs.YtkphfdmelfhnoaaGreatDoor
open Go.ChangeShapes Go.WideShapes Go.ChangeAt Go.RowKit
attribute [local irreducible] AW AWY vops vopsY vop vopL vdraw callW qop binQ lenQ storeQ appendQ callQ ACalls AIter
attribute [local go_sem] noI_eq enN_eq noteA_eq storeQ_bp storeQ_rp
theorem rvcopyD (l : List Stamp) : ACalls Tryz.prog TzTab 57 [.iv (stI l)] (.iv (stI l)) [] := (rvcopy_call l).frz trivial
theorem rscopyD (l : List Span) : ACalls Tryz.prog TzTab 68 [.iv (spI l)] (.iv (spI l)) [] := (rscopy_call l).frz trivial
theorem rnsame_call (x : Note) : ACalls Tryz.prog TzTab 21 [noteA x, noteA x] (.val (.bool true)) [] :=
 bridge_val Tryz.func21 rfl (by kernel_rfl) fun V w E vs hV hG hr => by
  obtain ⟨v0, v1, rfl, h0, h1⟩ := args2 hr
  obtain ⟨n0, n1, n2, n3, rfl, H0⟩ := rep_note hV h0
  obtain ⟨m0, m1, m2, m3, rfl, H1⟩ := rep_note hV h1
  exact refNoteSameT x _ _ _ _ _ _ _ _ w H0 H1
set_option maxHeartbeats 800000 in
set_option maxRecDepth 100000 in
theorem rncopy_call (x : Note) : ACalls Tryz.prog TzTab 17 [noteA x] (noteA x) [] := by
 refine ACalls.of (n := 17) (rs := [.cell 2 30]) Tryz.func17 rfl (by kernel_rfl) Tryz.ntmps17 (by kernel_rfl) (by simp) (fun _ _ => TzTab.later) ?_
 intro hok V w0
 have hlen : x.writes.length ≤ 1073741824 := by simpa using hok.1.2.2.2.1.1
 refine g ?_
 refine AW.seq ?_
 refine AW.reg rfl fun KK hKK => ?_
 refine g ?_
 repeat' (refine hKK _ (g ?_); clear hKK KK)
 refine AW.freeze 200 _ rfl ⟨trivial, trivial, trivial, trivial, trivial⟩ ?_
 simp only [go_sem, reduceIte, Nat.reduceEqDiff]
 refine g ?_
 repeat' refine st_ rfl (g ?_)
 refine AW.drawn (ds := [3, 4, 5, 6, 7, 8, 9, 10, 11, 12, 13, 14, 15, 16]) (fin := [2, 3]) (bs := [1, 1, 1, 1, 1, 1, 1, 1, 1, 1, 2, 2, 2, 3, 3]) [⟨[], [], [], [], 0⟩, ⟨[(3, 0)], [], [0], [], 0⟩, ⟨[(4, 1)], [], [0], [], 0⟩, ⟨[], [], [], [], 0⟩, ⟨[(6, 3)], [], [0], [], 0⟩, ⟨[(7, 4)], [], [0], [], 0⟩, ⟨[], [], [], [], 0⟩, ⟨[(9, 6)], [], [0], [], 0⟩, ⟨[(10, 7)], [], [0], [], 0⟩, ⟨[], [], [], [], 1⟩, ⟨[], [], [], [], 0⟩, ⟨[(13, 10)], [], [0], [], 0⟩, ⟨[(12, 9), (14, 11)], [], [0], [1], 1⟩, ⟨[(5, 2), (8, 5), (11, 8), (15, 12)], [], [], [], 0⟩, ⟨[(16, 13)], [], [], [0], 1⟩] (by kernel_rfl) rfl (by kernel_rfl) rfl rfl rfl fun KD hKD => ?_
 refine g ?_
 refine call_ (rvcopyD x.start) rfl ?_
 refine g ?_
 refine call_ (rvcopyD x.end_) rfl ?_
 refine g ?_
 refine call_ (rscopyD x.blur) rfl ?_
 refine g ?_
 refine bs0 (by omega) ?_
 refine g ?_
 refine append_own rfl (by kernel_rfl) (by omega) (by kernel_rfl) rfl (by simpa using hlen) ?_
 refine g ?_
 repeat' (refine hKD _ _ ⟨rfl, g ?_⟩; clear hKD KD)
 refine AW.freeze 1600 _ rfl trivial ?_
 simp only [go_sem, reduceIte, Nat.reduceEqDiff]
 refine g ?_
 repeat' refine st_ rfl (g ?_)
 exact ⟨.inl trivial, id, rfl, List.nodup_nil⟩
end Go.Proofs.YtkphfdmelfhnoaaGreatDoor
namespace Go.Proofs.YtkphfdmelfhnoaaGreatDoor
open Go.ChangeShapes Go.WideShapes Go.ChangeAt Go.RowKit
section
attribute [local irreducible] rowOf
theorem setI_len (f : Nat → Bool) : (setI f).length = 256 := by unfold setI; rw [List.length_map, Array.length_toList, setRow_size]
theorem setI_at {f : Nat → Bool} {o : Nat} (h : o < 256) : (setI f)[o]? = some (.val (.bool (f o))) := by
 unfold setI setRow
 rw [List.getElem?_map, Array.getElem?_toList, rowOf_at h]; rfl
theorem c64I_len (c : Nat → Int) : (c64I c).length = 64 := by unfold c64I; rw [List.length_map, Array.length_toList, row64_size]
theorem c64I_at {c : Nat → Int} {n : Nat} (h : n < 64) : (c64I c)[n]? = some (.val (.int .i64 (c n))) := by
 unfold c64I row64
 rw [List.getElem?_map, Array.getElem?_toList, rowOf_at h]; rfl
end
attribute [local irreducible] setI c64I
theorem setI_congr {f g : Nat → Bool} (h : ∀ o, o < 256 → f o = g o) : setI f = setI g := List.ext_getElem? fun o => by
 by_cases ho : o < 256
 ·rw [setI_at ho, setI_at ho, h o ho]
 ·rw [List.getElem?_eq_none (by rw [setI_len]; omega), List.getElem?_eq_none (by rw [setI_len]; omega)]
theorem store_ar {P : Program} {t q s b : Nat} {cells C : List IV} {bk : List BA} {K : List BA → Prop} (ht : tyK P t = some (q, s)) (hs : C.length = s) (hb : findB b bk = some (.arr b cells)) (hl : cells.length = s) (hK : K (replB b [.arr b C] bk)) : storeQ P t (.bp b 0) (.aggI C) bk K := by
 rw [storeQ_bp, ht]
 refine ⟨rfl, by rw [cellsA_aggI, List.length_map]; exact hs, ?_⟩
 rw [hb]
 refine ⟨C, by rw [cellsA_aggI, toIs_map], by rw [cellsA_aggI]; exact okAs_map C, by omega, ?_⟩
 rw [setsL_all (by omega)]
 exact hold_ hK
attribute [local irreducible] AW AWY vops vopsY vop vopL vdraw callW qop binQ lenQ storeQ appendQ callQ ACalls AIter
attribute [local go_sem] wrI_eq enW_eq noteA_eq storeQ_agg storeQ_val storeQ_iv storeQ_own
def blurAt (x : Note) (it : List Span) (m : Nat) (o : Nat) : Bool := memB x.blur o || (unseenW it (x.writes.take m)).any fun p => decide (p = (o : Int))
end Go.Proofs.YtkphfdmelfhnoaaGreatDoor
namespace Go.Proofs.YtkphfdmelfhnoaaGreatDoor
open Go.ChangeShapes Go.WideShapes Go.ChangeAt Go.RowKit
attribute [local irreducible] AW AWY vops vopsY vop vopL vdraw callW qop binQ lenQ storeQ appendQ callQ ACalls AIter
attribute [local go_sem] storeQ_bp storeQ_rp
def nilW : AV := .iv (.sl 4 [])
theorem nilW_eq : nilW = .iv (.sl 4 []) := rfl
attribute [local go_sem] nilW_eq List.length_nil
end Go.Proofs.YtkphfdmelfhnoaaGreatDoor
namespace Go.Proofs.YtkphfdmelfhnoaaGreatDoor
open Go.ChangeShapes Go.WideShapes Go.ChangeAt Go.RowKit
attribute [local irreducible] AW AWY vops vopsY vop vopL vdraw callW qop binQ lenQ storeQ appendQ callQ ACalls AIter
attribute [local go_sem] noteA_eq storeQ_bp storeQ_rp wrI_eq List.map_nil nilW_eq
end Go.Proofs.YtkphfdmelfhnoaaGreatDoor
namespace Go.Proofs.YtkphfdmelfhnoaaGreatDoor
open Go.ChangeShapes Go.WideShapes Go.ChangeAt Go.RowKit
attribute [local irreducible] setI c64I
attribute [local irreducible] AW AWY vops vopsY vop vopL vdraw callW qop binQ lenQ storeQ appendQ callQ ACalls AIter
attribute [local go_sem] noteA_eq storeQ_agg storeQ_val storeQ_iv storeQ_own wrI_eq List.map_nil nilW_eq List.length_nil
theorem rvofD (c : Nat → Int) (hc : ∀ n, n < 64 → I64 (c n)) : ACalls Tryz.prog TzTab 194 [.aggI (c64I c)] (.iv (stI (vecOf c))) [] := (rvof_call c hc).frz trivial
theorem rvtwoE (l m : List Stamp) : ACalls Tryz.prog TzTab 45 [.iv (stI l), .iv (stI m)] (.iv (stI (joinS [l, m]))) [] := (rvtwo_call l m).frz trivial
theorem countOf_i64 : ∀ {l : List Stamp} (_ : ∀ s ∈ l, I64 s.count) (n : Int), I64 (countOf l n)
 | [], _, _ => rfl
 | s :: l, h, n => by
  unfold countOf
  split
  ·exact h s (by simp)
  ·exact countOf_i64 (fun t ht => h t (List.mem_cons_of_mem _ ht)) n
end Go.Proofs.YtkphfdmelfhnoaaGreatDoor
