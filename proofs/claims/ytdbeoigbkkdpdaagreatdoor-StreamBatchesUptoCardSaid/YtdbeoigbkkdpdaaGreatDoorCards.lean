/-
  DERIVED. GIVEN WITH THE SEED: THE CARDS: each row of YtdbeoigbkkdpdaaGreatDoorRows.lean that lists a variable, with what it lists TIED to the program's text (the seventh form; the later family's looks); each row that meets fmt, with fmt's text TOLD by the authors' own Lean function (tested against real Go, not proved from fmt's source: count such statements apart). THE CARD IS WHAT COUNTS. Prove the row's statement (the work); the ties are given (YtdbeoigbkkdpdaaGreatDoorTie.lean); close each card by the builder's one call (the guide's Derived/Test/ToyasCard.lean, 'card_holds'). Laid BY PROGRAM, IN A SANDBOX (cutbox-door.mjs). By AI agents, Wed Nov 11 2026. No macro, syntax, notation, axiom, sorry.
-/
import Derived.Test.YtdbeoigbkkdpdaaGreatDoorRows
import GoSem.ClaimSeven
namespace Go.Proofs.YtdbeoigbkkdpdaaGreatDoor
namespace Rows

/-- THE TIED CARD OF 'telltalelaw17.SessionRenews'. -/
def sessionRenewsCard : Claim7 := { stood := { row := sessionRenewsRow, standIns := [], harness := (true, "0d41ce79fb17936c09a6a408368bbc6d8cc380ca6b149765e0b228d779e55cbf"), looks := false }, kinds := [], alts := [], laidByText := true, laidKinds := [.data], laidTests := true, laidLooks := .later }
def SessionRenewsCardSaid : Prop := Claim7.holds Tryz.pinned (.plain (OpenSpec.ofChange sessionRenewsSpec)) sessionRenewsCard

/-- THE TIED CARD OF 'telltalelaw16.StreamBatches'. -/
def streamBatchesCard : Claim7 := { stood := { row := streamBatchesRow, standIns := [], harness := (true, "0d41ce79fb17936c09a6a408368bbc6d8cc380ca6b149765e0b228d779e55cbf"), looks := false }, kinds := [], alts := [], laidByText := true, laidKinds := [.data], laidTests := true, laidLooks := .later }
def StreamBatchesCardSaid : Prop := Claim7.holds Tryz.pinned (.plain (OpenSpec.ofChange streamBatchesSpec)) streamBatchesCard

/-- THE TIED CARD OF 'telltalelaw16.StreamParts'. -/
def streamPartsCard : Claim7 := { stood := { row := streamPartsRow, standIns := [], harness := (true, "0d41ce79fb17936c09a6a408368bbc6d8cc380ca6b149765e0b228d779e55cbf"), looks := false }, kinds := [], alts := [], laidByText := true, laidKinds := [.data], laidTests := true, laidLooks := .later }
def StreamPartsCardSaid : Prop := Claim7.holds Tryz.pinned (.plain (OpenSpec.ofChange streamPartsSpec)) streamPartsCard

/-- THE SECOND FORM's CARD OF 'telltalelaw17.SessionRenews'. -/
def sessionRenewsUptoCard : Claim7 := { stood := { row := sessionRenewsUptoRow, standIns := [], harness := (true, "0d41ce79fb17936c09a6a408368bbc6d8cc380ca6b149765e0b228d779e55cbf"), looks := false }, kinds := [], alts := [], laidByText := true, laidKinds := [.data], laidTests := true, laidLooks := .later }
def SessionRenewsUptoCardSaid : Prop := Claim7.holds Tryz.pinned (.plain (OpenSpec.upto sessionRenewsSpec)) sessionRenewsUptoCard

/-- THE SECOND FORM's CARD OF 'telltalelaw16.StreamBatches'. -/
def streamBatchesUptoCard : Claim7 := { stood := { row := streamBatchesUptoRow, standIns := [], harness := (true, "0d41ce79fb17936c09a6a408368bbc6d8cc380ca6b149765e0b228d779e55cbf"), looks := false }, kinds := [], alts := [], laidByText := true, laidKinds := [.data], laidTests := true, laidLooks := .later }
def StreamBatchesUptoCardSaid : Prop := Claim7.holds Tryz.pinned (.plain (OpenSpec.upto streamBatchesSpec)) streamBatchesUptoCard

/-- THE SECOND FORM's CARD OF 'telltalelaw16.StreamParts'. -/
def streamPartsUptoCard : Claim7 := { stood := { row := streamPartsUptoRow, standIns := [], harness := (true, "0d41ce79fb17936c09a6a408368bbc6d8cc380ca6b149765e0b228d779e55cbf"), looks := false }, kinds := [], alts := [], laidByText := true, laidKinds := [.data], laidTests := true, laidLooks := .later }
def StreamPartsUptoCardSaid : Prop := Claim7.holds Tryz.pinned (.plain (OpenSpec.upto streamPartsSpec)) streamPartsUptoCard
end Rows
end Go.Proofs.YtdbeoigbkkdpdaaGreatDoor
