/-
  DERIVED. GIVEN WITH THE SEED: THE CARDS: each row of YtahgkllhbggmgaaGreatDoorRows.lean that lists a variable, with what it lists TIED to the program's text (the seventh form; the later family's looks); each row that meets fmt, with fmt's text TOLD by the authors' own Lean function (tested against real Go, not proved from fmt's source: count such statements apart). THE CARD IS WHAT COUNTS. Prove the row's statement (the work); the ties are given (YtahgkllhbggmgaaGreatDoorTie.lean); close each card by the builder's one call (the guide's Derived/Test/ToyasCard.lean, 'card_holds'). Laid BY PROGRAM, IN A SANDBOX (cutbox-door.mjs). By AI agents, Wed Nov 11 2026. No macro, syntax, notation, axiom, sorry.
-/
import Derived.Test.YtahgkllhbggmgaaGreatDoorRows
import GoSem.ClaimSeven
namespace Go.Proofs.YtahgkllhbggmgaaGreatDoor
namespace Rows

/-- THE TIED CARD OF 'telltalelaw21.ClusterForms'. -/
def clusterFormsCard : Claim7 := { stood := { row := clusterFormsRow, standIns := [], harness := (true, "e199d5a1cf75a444491ab36a6133111fc3f9c6686feb52edeafbd0db22227b0c"), looks := true }, kinds := [], alts := [], laidByText := true, laidKinds := [.data, .data], laidTests := true, laidLooks := .later }
def ClusterFormsCardSaid : Prop := Claim7.holds Tryz.pinned (.plain (OpenSpec.ofChange clusterFormsSpec)) clusterFormsCard

/-- THE TIED CARD OF 'telltalelaw22.AuditChecks'. -/
def auditChecksCard : Claim7 := { stood := { row := auditChecksRow, standIns := [], harness := (true, "e199d5a1cf75a444491ab36a6133111fc3f9c6686feb52edeafbd0db22227b0c"), looks := true }, kinds := [], alts := [], laidByText := true, laidKinds := [.data, .data], laidTests := true, laidLooks := .later }
def AuditChecksCardSaid : Prop := Claim7.holds Tryz.pinned (.plain (OpenSpec.ofChange auditChecksSpec)) auditChecksCard

/-- THE TIED CARD OF 'telltalelaw22.AuditKnows'. -/
def auditKnowsCard : Claim7 := { stood := { row := auditKnowsRow, standIns := [], harness := (true, "e199d5a1cf75a444491ab36a6133111fc3f9c6686feb52edeafbd0db22227b0c"), looks := true }, kinds := [], alts := [], laidByText := true, laidKinds := [.data, .data], laidTests := true, laidLooks := .later }
def AuditKnowsCardSaid : Prop := Claim7.holds Tryz.pinned (.plain (OpenSpec.ofChange auditKnowsSpec)) auditKnowsCard

/-- THE TIED CARD OF 'telltalelaw23.CalmLinks'. -/
def calmLinksCard : Claim7 := { stood := { row := calmLinksRow, standIns := [], harness := (true, "e199d5a1cf75a444491ab36a6133111fc3f9c6686feb52edeafbd0db22227b0c"), looks := true }, kinds := [], alts := [], laidByText := true, laidKinds := [.data, .data], laidTests := true, laidLooks := .later }
def CalmLinksCardSaid : Prop := Claim7.holds Tryz.pinned (.plain (OpenSpec.ofChange calmLinksSpec)) calmLinksCard

/-- THE SECOND FORM's CARD OF 'telltalelaw21.ClusterForms'. -/
def clusterFormsUptoCard : Claim7 := { stood := { row := clusterFormsUptoRow, standIns := [], harness := (true, "e199d5a1cf75a444491ab36a6133111fc3f9c6686feb52edeafbd0db22227b0c"), looks := true }, kinds := [], alts := [], laidByText := true, laidKinds := [.data, .data], laidTests := true, laidLooks := .later }
def ClusterFormsUptoCardSaid : Prop := Claim7.holds Tryz.pinned (.plain (OpenSpec.upto clusterFormsSpec)) clusterFormsUptoCard

/-- THE SECOND FORM's CARD OF 'telltalelaw22.AuditChecks'. -/
def auditChecksUptoCard : Claim7 := { stood := { row := auditChecksUptoRow, standIns := [], harness := (true, "e199d5a1cf75a444491ab36a6133111fc3f9c6686feb52edeafbd0db22227b0c"), looks := true }, kinds := [], alts := [], laidByText := true, laidKinds := [.data, .data], laidTests := true, laidLooks := .later }
def AuditChecksUptoCardSaid : Prop := Claim7.holds Tryz.pinned (.plain (OpenSpec.upto auditChecksSpec)) auditChecksUptoCard

/-- THE SECOND FORM's CARD OF 'telltalelaw22.AuditKnows'. -/
def auditKnowsUptoCard : Claim7 := { stood := { row := auditKnowsUptoRow, standIns := [], harness := (true, "e199d5a1cf75a444491ab36a6133111fc3f9c6686feb52edeafbd0db22227b0c"), looks := true }, kinds := [], alts := [], laidByText := true, laidKinds := [.data, .data], laidTests := true, laidLooks := .later }
def AuditKnowsUptoCardSaid : Prop := Claim7.holds Tryz.pinned (.plain (OpenSpec.upto auditKnowsSpec)) auditKnowsUptoCard

/-- THE SECOND FORM's CARD OF 'telltalelaw23.CalmLinks'. -/
def calmLinksUptoCard : Claim7 := { stood := { row := calmLinksUptoRow, standIns := [], harness := (true, "e199d5a1cf75a444491ab36a6133111fc3f9c6686feb52edeafbd0db22227b0c"), looks := true }, kinds := [], alts := [], laidByText := true, laidKinds := [.data, .data], laidTests := true, laidLooks := .later }
def CalmLinksUptoCardSaid : Prop := Claim7.holds Tryz.pinned (.plain (OpenSpec.upto calmLinksSpec)) calmLinksUptoCard
end Rows
end Go.Proofs.YtahgkllhbggmgaaGreatDoor
