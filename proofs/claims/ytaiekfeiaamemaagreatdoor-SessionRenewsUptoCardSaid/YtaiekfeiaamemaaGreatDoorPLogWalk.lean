/- Logs: walked, checked. -/
import Derived.Test.YtaiekfeiaamemaaGreatDoorPNoteSmall
import Derived.Test.YtaiekfeiaamemaaGreatDoorPTidyLaw
import Derived.Test.YtaiekfeiaamemaaGreatDoorPSpanIn
import Derived.Test.YtaiekfeiaamemaaGreatDoorPNoteWalk
import Derived.Test.YtaiekfeiaamemaaGreatDoorPVecLaw
import Derived.Test.YtaiekfeiaamemaaGreatDoorPAbsNil
import Derived.Test.YtaiekfeiaamemaaGreatDoorPEnc
import Derived.Test.YtaiekfeiaamemaaGreatDoorPBridge
set_option linter.all false
set_option linter.unnecessarySimpa false
set_option linter.unusedSimpArgs false
set_option linter.unusedVariables false
/- What a note looks like through an interest. -/
namespace Go.Proofs.YtaiekfeiaamemaaGreatDoor
open Go.ChangeShapes Go.WideShapes Go.ChangeAt Go.RowKit

end Go.Proofs.YtaiekfeiaamemaaGreatDoor
/- Logs, and what a stream tells of them: plain specifications and laws. No program is known here. -/
namespace Go.Proofs.YtaiekfeiaamemaaGreatDoor

structure Log where
  base : List Stamp
  notes : List Note
  sure : Int
-- where to begin
-- a batch
def meetS2 (a b : List Span) : List Span := ofSet fun o => memB a o && memB b o
-- what is told is formed
-- batches one after the other
section
variable {it : List Span} {most : Int}
end
end Go.Proofs.YtaiekfeiaamemaaGreatDoor
/- The arguments of a stream's laws: logs and asks, as they are read and as data. -/
namespace Go.Proofs.YtaiekfeiaamemaaGreatDoor
open Go.ChangeShapes Go.WideShapes Go.ChangeAt Go.RowKit

structure Ask where
  at_ : Int
  most : Int
def logA (l : Log) : AV := .agg [.iv (stI l.base), .iv (noI l.notes), .val (.int .i64 l.sure)]
theorem logA_eq (l : Log) : logA l = .agg [.iv (stI l.base), .iv (noI l.notes), .val (.int .i64 l.sure)] := rfl
theorem ACalls.law {P : Program} {G : World → Prop} {f : FuncId} {args : List AV} {r : Value} (h : ACalls P G f args (.val r) []) {W : World} {vs : Array Value} (hG : G W) (hr : RepAs ⟨fun _ => 0, fun _ => undef⟩ W vs.toList args) :
    Calls P f vs W fun e w' => e = .returned r ∧ Below W.heap.size W w' :=
  (h.2 W W _ vs (Ext.refl W) hG hr).mono fun _ _ ⟨v, E', h1, h2, _, _, _, h6⟩ => by
    cases h6
    exact ⟨h1, h2⟩
end Go.Proofs.YtaiekfeiaamemaaGreatDoor
namespace Go.Proofs.YtaiekfeiaamemaaGreatDoor
open Go.ChangeShapes Go.WideShapes Go.ChangeAt Go.RowKit
attribute [local irreducible] AW AWY vops vopsY vop vopL vdraw callW qop binQ lenQ storeQ appendQ callQ ACalls AIter

@[go_sem] theorem nrm_st (l : List Stamp) : nrm (.iv (stI l)) = .iv (stI l) := rfl
@[go_sem] theorem nrm_sp (l : List Span) : nrm (.iv (spI l)) = .iv (spI l) := rfl
@[go_sem] theorem nrm_wr (l : List Write) : nrm (.iv (wrI l)) = .iv (wrI l) := rfl
theorem noteA_eq (x : Note) : noteA x = .agg [.iv (stI x.start), .iv (stI x.end_), .iv (spI x.blur), .iv (wrI x.writes)] := rfl
theorem noI_eq (l : List Note) : noI l = .sl 4 (l.map enN) := rfl
theorem wrI_eq (l : List Write) : wrI l = .sl 4 (l.map enW) := rfl
theorem flat_row {i e k : Nat} {l : List (List IV)} (h : ∀ cs ∈ l, ∀ x ∈ cs, ∃ v, x = .val v) : flatB [.row i e k l] := fun b hb => by
  rw [List.mem_singleton.1 hb]
  exact ⟨i, e, k, l, rfl, h⟩
theorem flat_sp (l : List Span) : ∀ cs ∈ l.map enSp, ∀ x ∈ cs, ∃ v, x = IV.val v := fun cs hcs x hx => by
  obtain ⟨s, _, rfl⟩ := List.mem_map.1 hcs
  simp [enSp] at hx
  rcases hx with rfl | rfl <;> exact ⟨_, rfl⟩
attribute [local go_sem] noI_eq enN_eq logA_eq noteA_eq storeQ_bp storeQ_rp
theorem clonestD (l : List Stamp) : ACalls Tryz.prog TzTab 117 [.iv (stI l)] (.iv (stI l)) [] := (clonest_call l).frz trivial
theorem clonespD (l : List Span) : ACalls Tryz.prog TzTab 75 [.iv (spI l)] (.iv (spI l)) [] := (clonesp_call l).frz trivial
end Go.Proofs.YtaiekfeiaamemaaGreatDoor
