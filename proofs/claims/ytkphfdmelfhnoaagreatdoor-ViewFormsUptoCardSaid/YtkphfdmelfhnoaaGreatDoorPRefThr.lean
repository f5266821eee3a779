/- One note for two dull ones of which the second goes on where the first ends (the program's). -/
import Derived.Test.YtkphfdmelfhnoaaGreatDoorPAbsArr
import Derived.Test.YtkphfdmelfhnoaaGreatDoorPEnc
import Derived.Test.YtkphfdmelfhnoaaGreatDoorPStreamSpec
import Derived.Test.YtkphfdmelfhnoaaGreatDoorPBridge
import Derived.Test.YtkphfdmelfhnoaaGreatDoorPBridge2
set_option linter.all false
set_option linter.unnecessarySimpa false
set_option linter.unusedSimpArgs false
set_option linter.unusedVariables false
namespace Go.Proofs.YtkphfdmelfhnoaaGreatDoor
open Go.ChangeShapes Go.WideShapes Go.ChangeAt Go.RowKit
def LogR (w : World) (B : Nat) (cs : List Value) (l : Log) : Prop := ∃ v0 v1, cs = [v0, v1, .int .i64 l.sure] ∧ Stamps w B v0 l.base ∧ Notes w B v1 l.notes ∧ I64 l.sure
structure Ask where
 at_ : Int
 most : Int
def AskR (cs : List Value) (a : Ask) : Prop := cs = [.int .i64 a.at_, .int .i64 a.most] ∧ I64 a.at_ ∧ I64 a.most
def logA (l : Log) : AV := .agg [.iv (stI l.base), .iv (noI l.notes), .val (.int .i64 l.sure)]
theorem logA_eq (l : Log) : logA l = .agg [.iv (stI l.base), .iv (noI l.notes), .val (.int .i64 l.sure)] := rfl
theorem ACalls.law {P : Program} {G : World → Prop} {f : FuncId} {args : List AV} {r : Value} (h : ACalls P G f args (.val r) []) {W : World} {vs : Array Value} (hG : G W) (hr : RepAs ⟨fun _ => 0, fun _ => undef⟩ W vs.toList args) :
  Calls P f vs W fun e w' => e = .returned r ∧ Below W.heap.size W w' :=
 (h.2 W W _ vs (Ext.refl W) hG hr).mono fun _ _ ⟨v, E', h1, h2, _, _, _, h6⟩ => by
  cases h6
  exact ⟨h1, h2⟩
attribute [local irreducible] AW AWY vops vopsY vop vopL vdraw callW qop binQ lenQ storeQ appendQ callQ ACalls AIter
@[go_sem] theorem nrm_st (l : List Stamp) : nrm (.iv (stI l)) = .iv (stI l) := rfl
@[go_sem] theorem nrm_sp (l : List Span) : nrm (.iv (spI l)) = .iv (spI l) := rfl
@[go_sem] theorem nrm_wr (l : List Write) : nrm (.iv (wrI l)) = .iv (wrI l) := rfl
theorem noteA_eq (x : Note) : noteA x = .agg [.iv (stI x.start), .iv (stI x.end_), .iv (spI x.blur), .iv (wrI x.writes)] := rfl
theorem noI_eq (l : List Note) : noI l = .sl 4 (l.map enN) := rfl
theorem wrI_eq (l : List Write) : wrI l = .sl 4 (l.map enW) := rfl
theorem flat_row {i e k : Nat} {l : List (List IV)} (h : ∀ cs ∈ l, ∀ x ∈ cs, ∃ v, x = .val v) : flatB [.row i e k l] := fun b hb => by
 rw [List.mem_singleton.1 hb]
 exact ⟨i, e, k, l, rfl, h⟩
theorem flat_sp (l : List Span) : ∀ cs ∈ l.map enSp, ∀ x ∈ cs, ∃ v, x = IV.val v := fun cs hcs x hx => by
 obtain ⟨s, _, rfl⟩ := List.mem_map.1 hcs
 simp [enSp] at hx
 rcases hx with rfl | rfl <;> exact ⟨_, rfl⟩
attribute [local go_sem] noI_eq enN_eq logA_eq noteA_eq storeQ_bp storeQ_rp
theorem clonestD (l : List Stamp) : ACalls Tryz.prog TzTab 106 [.iv (stI l)] (.iv (stI l)) [] := (clonest_call l).frz trivial
theorem clonewD (l : List Write) : ACalls Tryz.prog TzTab 71 [.iv (wrI l)] (.iv (wrI l)) [] := (clonew_call l).frz trivial
end Go.Proofs.YtkphfdmelfhnoaaGreatDoor
namespace Go.Proofs.YtkphfdmelfhnoaaGreatDoor
open Go.ChangeShapes Go.WideShapes Go.ChangeAt Go.RowKit
attribute [local irreducible] AW AWY vops vopsY vop vopL vdraw callW qop binQ lenQ storeQ appendQ callQ ACalls AIter
attribute [local go_sem] noI_eq enN_eq noteA_eq storeQ_bp storeQ_rp
theorem rvcopyD (l : List Stamp) : ACalls Tryz.prog TzTab 57 [.iv (stI l)] (.iv (stI l)) [] := (rvcopy_call l).frz trivial
end Go.Proofs.YtkphfdmelfhnoaaGreatDoor
namespace Go.Proofs.YtkphfdmelfhnoaaGreatDoor
open Go.ChangeShapes Go.WideShapes Go.ChangeAt Go.RowKit
section
attribute [local irreducible] rowOf
theorem setI_len (f : Nat → Bool) : (setI f).length = 256 := by unfold setI; rw [List.length_map, Array.length_toList, setRow_size]
theorem setI_at {f : Nat → Bool} {o : Nat} (h : o < 256) : (setI f)[o]? = some (.val (.bool (f o))) := by
 unfold setI setRow
 rw [List.getElem?_map, Array.getElem?_toList, rowOf_at h]; rfl
theorem c64I_len (c : Nat → Int) : (c64I c).length = 64 := by unfold c64I; rw [List.length_map, Array.length_toList, row64_size]
theorem c64I_at {c : Nat → Int} {n : Nat} (h : n < 64) : (c64I c)[n]? = some (.val (.int .i64 (c n))) := by
 unfold c64I row64
 rw [List.getElem?_map, Array.getElem?_toList, rowOf_at h]; rfl
end
attribute [local irreducible] setI c64I
theorem setI_congr {f g : Nat → Bool} (h : ∀ o, o < 256 → f o = g o) : setI f = setI g := List.ext_getElem? fun o => by
 by_cases ho : o < 256
 ·rw [setI_at ho, setI_at ho, h o ho]
 ·rw [List.getElem?_eq_none (by rw [setI_len]; omega), List.getElem?_eq_none (by rw [setI_len]; omega)]
theorem store_ar {P : Program} {t q s b : Nat} {cells C : List IV} {bk : List BA} {K : List BA → Prop} (ht : tyK P t = some (q, s)) (hs : C.length = s) (hb : findB b bk = some (.arr b cells)) (hl : cells.length = s) (hK : K (replB b [.arr b C] bk)) : storeQ P t (.bp b 0) (.aggI C) bk K := by
 rw [storeQ_bp, ht]
 refine ⟨rfl, by rw [cellsA_aggI, List.length_map]; exact hs, ?_⟩
 rw [hb]
 refine ⟨C, by rw [cellsA_aggI, toIs_map], by rw [cellsA_aggI]; exact okAs_map C, by omega, ?_⟩
 rw [setsL_all (by omega)]
 exact hold_ hK
attribute [local irreducible] AW AWY vops vopsY vop vopL vdraw callW qop binQ lenQ storeQ appendQ callQ ACalls AIter
attribute [local go_sem] wrI_eq enW_eq noteA_eq storeQ_agg storeQ_val storeQ_iv storeQ_own
def blurAt (x : Note) (it : List Span) (m : Nat) (o : Nat) : Bool := memB x.blur o || (unseenW it (x.writes.take m)).any fun p => decide (p = (o : Int))
end Go.Proofs.YtkphfdmelfhnoaaGreatDoor
namespace Go.Proofs.YtkphfdmelfhnoaaGreatDoor
open Go.ChangeShapes Go.WideShapes Go.ChangeAt Go.RowKit
attribute [local irreducible] AW AWY vops vopsY vop vopL vdraw callW qop binQ lenQ storeQ appendQ callQ ACalls AIter
attribute [local go_sem] storeQ_bp storeQ_rp
def nilW : AV := .iv (.sl 4 [])
theorem nilW_eq : nilW = .iv (.sl 4 []) := rfl
attribute [local go_sem] nilW_eq List.length_nil
end Go.Proofs.YtkphfdmelfhnoaaGreatDoor
namespace Go.Proofs.YtkphfdmelfhnoaaGreatDoor
open Go.ChangeShapes Go.WideShapes Go.ChangeAt Go.RowKit
attribute [local irreducible] AW AWY vops vopsY vop vopL vdraw callW qop binQ lenQ storeQ appendQ callQ ACalls AIter
attribute [local go_sem] noteA_eq storeQ_bp storeQ_rp wrI_eq List.map_nil nilW_eq
end Go.Proofs.YtkphfdmelfhnoaaGreatDoor
