/-
  DERIVED. GIVEN WITH THE SEED: THE CARDS: each row of YtblfjaedaijfoaaGreatDoorRows.lean that lists a variable, with what it lists TIED to the program's text (the seventh form; the later family's looks); each row that meets fmt, with fmt's text TOLD by the authors' own Lean function (tested against real Go, not proved from fmt's source: count such statements apart). THE CARD IS WHAT COUNTS. Prove the row's statement (the work); the ties are given (YtblfjaedaijfoaaGreatDoorTie.lean); close each card by the builder's one call (the guide's Derived/Test/ToyasCard.lean, 'card_holds'). Laid BY PROGRAM, IN A SANDBOX (cutbox-door.mjs). By AI agents, Wed Nov 11 2026. No macro, syntax, notation, axiom, sorry.
-/
import Derived.Test.YtblfjaedaijfoaaGreatDoorRows
import GoSem.ClaimSeven
namespace Go.Proofs.YtblfjaedaijfoaaGreatDoor
namespace Rows

/-- THE TIED CARD OF 'telltalelaw18.NodeForms'. -/
def nodeFormsCard : Claim7 := { stood := { row := nodeFormsRow, standIns := [], harness := (true, "803ccfded2fe49f5385f79b737e6a7ad77b48747fc26c5efaf818c3fd7e6b5c7"), looks := false }, kinds := [], alts := [], laidByText := true, laidKinds := [.data, .data], laidTests := true, laidLooks := .later }
def NodeFormsCardSaid : Prop := Claim7.holds Tryz.pinned (.plain (OpenSpec.ofChange nodeFormsSpec)) nodeFormsCard

/-- THE TIED CARD OF 'telltalelaw18.NodeWrites'. -/
def nodeWritesCard : Claim7 := { stood := { row := nodeWritesRow, standIns := [], harness := (true, "803ccfded2fe49f5385f79b737e6a7ad77b48747fc26c5efaf818c3fd7e6b5c7"), looks := false }, kinds := [], alts := [], laidByText := true, laidKinds := [.data, .data], laidTests := true, laidLooks := .later }
def NodeWritesCardSaid : Prop := Claim7.holds Tryz.pinned (.plain (OpenSpec.ofChange nodeWritesSpec)) nodeWritesCard

/-- THE TIED CARD OF 'telltalelaw18.NodeSubs'. -/
def nodeSubsCard : Claim7 := { stood := { row := nodeSubsRow, standIns := [], harness := (true, "803ccfded2fe49f5385f79b737e6a7ad77b48747fc26c5efaf818c3fd7e6b5c7"), looks := false }, kinds := [], alts := [], laidByText := true, laidKinds := [.data, .data], laidTests := true, laidLooks := .later }
def NodeSubsCardSaid : Prop := Claim7.holds Tryz.pinned (.plain (OpenSpec.ofChange nodeSubsSpec)) nodeSubsCard

/-- THE TIED CARD OF 'telltalelaw18.NodeChecks'. -/
def nodeChecksCard : Claim7 := { stood := { row := nodeChecksRow, standIns := [], harness := (true, "803ccfded2fe49f5385f79b737e6a7ad77b48747fc26c5efaf818c3fd7e6b5c7"), looks := false }, kinds := [], alts := [], laidByText := true, laidKinds := [.data, .data], laidTests := true, laidLooks := .later }
def NodeChecksCardSaid : Prop := Claim7.holds Tryz.pinned (.plain (OpenSpec.ofChange nodeChecksSpec)) nodeChecksCard

/-- THE SECOND FORM's CARD OF 'telltalelaw18.NodeForms'. -/
def nodeFormsUptoCard : Claim7 := { stood := { row := nodeFormsUptoRow, standIns := [], harness := (true, "803ccfded2fe49f5385f79b737e6a7ad77b48747fc26c5efaf818c3fd7e6b5c7"), looks := false }, kinds := [], alts := [], laidByText := true, laidKinds := [.data, .data], laidTests := true, laidLooks := .later }
def NodeFormsUptoCardSaid : Prop := Claim7.holds Tryz.pinned (.plain (OpenSpec.upto nodeFormsSpec)) nodeFormsUptoCard

/-- THE SECOND FORM's CARD OF 'telltalelaw18.NodeWrites'. -/
def nodeWritesUptoCard : Claim7 := { stood := { row := nodeWritesUptoRow, standIns := [], harness := (true, "803ccfded2fe49f5385f79b737e6a7ad77b48747fc26c5efaf818c3fd7e6b5c7"), looks := false }, kinds := [], alts := [], laidByText := true, laidKinds := [.data, .data], laidTests := true, laidLooks := .later }
def NodeWritesUptoCardSaid : Prop := Claim7.holds Tryz.pinned (.plain (OpenSpec.upto nodeWritesSpec)) nodeWritesUptoCard

/-- THE SECOND FORM's CARD OF 'telltalelaw18.NodeSubs'. -/
def nodeSubsUptoCard : Claim7 := { stood := { row := nodeSubsUptoRow, standIns := [], harness := (true, "803ccfded2fe49f5385f79b737e6a7ad77b48747fc26c5efaf818c3fd7e6b5c7"), looks := false }, kinds := [], alts := [], laidByText := true, laidKinds := [.data, .data], laidTests := true, laidLooks := .later }
def NodeSubsUptoCardSaid : Prop := Claim7.holds Tryz.pinned (.plain (OpenSpec.upto nodeSubsSpec)) nodeSubsUptoCard

/-- THE SECOND FORM's CARD OF 'telltalelaw18.NodeChecks'. -/
def nodeChecksUptoCard : Claim7 := { stood := { row := nodeChecksUptoRow, standIns := [], harness := (true, "803ccfded2fe49f5385f79b737e6a7ad77b48747fc26c5efaf818c3fd7e6b5c7"), looks := false }, kinds := [], alts := [], laidByText := true, laidKinds := [.data, .data], laidTests := true, laidLooks := .later }
def NodeChecksUptoCardSaid : Prop := Claim7.holds Tryz.pinned (.plain (OpenSpec.upto nodeChecksSpec)) nodeChecksUptoCard
end Rows
end Go.Proofs.YtblfjaedaijfoaaGreatDoor
