/-
  DERIVED. GIVEN WITH THE SEED: THE CARDS: each row of YthlgnjlpakimaaaGreatDoorRows.lean that lists a variable, with what it lists TIED to the program's text (the seventh form; the later family's looks); each row that meets fmt, with fmt's text TOLD by the authors' own Lean function (tested against real Go, not proved from fmt's source: count such statements apart). THE CARD IS WHAT COUNTS. Prove the row's statement (the work); the ties are given (YthlgnjlpakimaaaGreatDoorTie.lean); close each card by the builder's one call (the guide's Derived/Test/ToyasCard.lean, 'card_holds'). Laid BY PROGRAM, IN A SANDBOX (cutbox-door.mjs). By AI agents, Wed Nov 11 2026. No macro, syntax, notation, axiom, sorry.
-/
import Derived.Test.YthlgnjlpakimaaaGreatDoorRows
import GoSem.ClaimSeven
namespace Go.Proofs.YthlgnjlpakimaaaGreatDoor
namespace Rows

/-- THE TIED CARD OF 'telltalelaw13.ViewNewest'. -/
def viewNewestCard : Claim7 := { stood := { row := viewNewestRow, standIns := [], harness := (true, "295d8a253df7b3043f1ee0b0727931e1d52feb67e868492c12d953077f36955d"), looks := false }, kinds := [], alts := [], laidByText := true, laidKinds := [.data], laidTests := true, laidLooks := .later }
def ViewNewestCardSaid : Prop := Claim7.holds Tryz.pinned (.plain (OpenSpec.ofChange viewNewestSpec)) viewNewestCard

/-- THE TIED CARD OF 'telltalelaw16.StreamCatches'. -/
def streamCatchesCard : Claim7 := { stood := { row := streamCatchesRow, standIns := [], harness := (true, "295d8a253df7b3043f1ee0b0727931e1d52feb67e868492c12d953077f36955d"), looks := false }, kinds := [], alts := [], laidByText := true, laidKinds := [.data], laidTests := true, laidLooks := .later }
def StreamCatchesCardSaid : Prop := Claim7.holds Tryz.pinned (.plain (OpenSpec.ofChange streamCatchesSpec)) streamCatchesCard

/-- THE TIED CARD OF 'telltalelaw13.ViewTwice'. -/
def viewTwiceCard : Claim7 := { stood := { row := viewTwiceRow, standIns := [], harness := (true, "295d8a253df7b3043f1ee0b0727931e1d52feb67e868492c12d953077f36955d"), looks := false }, kinds := [], alts := [], laidByText := true, laidKinds := [.data], laidTests := true, laidLooks := .later }
def ViewTwiceCardSaid : Prop := Claim7.holds Tryz.pinned (.plain (OpenSpec.ofChange viewTwiceSpec)) viewTwiceCard

/-- THE TIED CARD OF 'telltalelaw13.ViewFresh'. -/
def viewFreshCard : Claim7 := { stood := { row := viewFreshRow, standIns := [], harness := (true, "295d8a253df7b3043f1ee0b0727931e1d52feb67e868492c12d953077f36955d"), looks := false }, kinds := [], alts := [], laidByText := true, laidKinds := [.data], laidTests := true, laidLooks := .later }
def ViewFreshCardSaid : Prop := Claim7.holds Tryz.pinned (.plain (OpenSpec.ofChange viewFreshSpec)) viewFreshCard

/-- THE TIED CARD OF 'telltalelaw17.SessionSends'. -/
def sessionSendsCard : Claim7 := { stood := { row := sessionSendsRow, standIns := [], harness := (true, "295d8a253df7b3043f1ee0b0727931e1d52feb67e868492c12d953077f36955d"), looks := false }, kinds := [], alts := [], laidByText := true, laidKinds := [.data], laidTests := true, laidLooks := .later }
def SessionSendsCardSaid : Prop := Claim7.holds Tryz.pinned (.plain (OpenSpec.ofChange sessionSendsSpec)) sessionSendsCard

/-- THE TIED CARD OF 'telltalelaw17.SessionParts'. -/
def sessionPartsCard : Claim7 := { stood := { row := sessionPartsRow, standIns := [], harness := (true, "295d8a253df7b3043f1ee0b0727931e1d52feb67e868492c12d953077f36955d"), looks := false }, kinds := [], alts := [], laidByText := true, laidKinds := [.data], laidTests := true, laidLooks := .later }
def SessionPartsCardSaid : Prop := Claim7.holds Tryz.pinned (.plain (OpenSpec.ofChange sessionPartsSpec)) sessionPartsCard

/-- THE TIED CARD OF 'telltalelaw16.StreamWants'. -/
def streamWantsCard : Claim7 := { stood := { row := streamWantsRow, standIns := [], harness := (true, "295d8a253df7b3043f1ee0b0727931e1d52feb67e868492c12d953077f36955d"), looks := false }, kinds := [], alts := [], laidByText := true, laidKinds := [.data], laidTests := true, laidLooks := .later }
def StreamWantsCardSaid : Prop := Claim7.holds Tryz.pinned (.plain (OpenSpec.ofChange streamWantsSpec)) streamWantsCard

/-- THE SECOND FORM's CARD OF 'telltalelaw13.ViewNewest'. -/
def viewNewestUptoCard : Claim7 := { stood := { row := viewNewestUptoRow, standIns := [], harness := (true, "295d8a253df7b3043f1ee0b0727931e1d52feb67e868492c12d953077f36955d"), looks := false }, kinds := [], alts := [], laidByText := true, laidKinds := [.data], laidTests := true, laidLooks := .later }
def ViewNewestUptoCardSaid : Prop := Claim7.holds Tryz.pinned (.plain (OpenSpec.upto viewNewestSpec)) viewNewestUptoCard

/-- THE SECOND FORM's CARD OF 'telltalelaw16.StreamCatches'. -/
def streamCatchesUptoCard : Claim7 := { stood := { row := streamCatchesUptoRow, standIns := [], harness := (true, "295d8a253df7b3043f1ee0b0727931e1d52feb67e868492c12d953077f36955d"), looks := false }, kinds := [], alts := [], laidByText := true, laidKinds := [.data], laidTests := true, laidLooks := .later }
def StreamCatchesUptoCardSaid : Prop := Claim7.holds Tryz.pinned (.plain (OpenSpec.upto streamCatchesSpec)) streamCatchesUptoCard

/-- THE SECOND FORM's CARD OF 'telltalelaw13.ViewTwice'. -/
def viewTwiceUptoCard : Claim7 := { stood := { row := viewTwiceUptoRow, standIns := [], harness := (true, "295d8a253df7b3043f1ee0b0727931e1d52feb67e868492c12d953077f36955d"), looks := false }, kinds := [], alts := [], laidByText := true, laidKinds := [.data], laidTests := true, laidLooks := .later }
def ViewTwiceUptoCardSaid : Prop := Claim7.holds Tryz.pinned (.plain (OpenSpec.upto viewTwiceSpec)) viewTwiceUptoCard

/-- THE SECOND FORM's CARD OF 'telltalelaw13.ViewFresh'. -/
def viewFreshUptoCard : Claim7 := { stood := { row := viewFreshUptoRow, standIns := [], harness := (true, "295d8a253df7b3043f1ee0b0727931e1d52feb67e868492c12d953077f36955d"), looks := false }, kinds := [], alts := [], laidByText := true, laidKinds := [.data], laidTests := true, laidLooks := .later }
def ViewFreshUptoCardSaid : Prop := Claim7.holds Tryz.pinned (.plain (OpenSpec.upto viewFreshSpec)) viewFreshUptoCard

/-- THE SECOND FORM's CARD OF 'telltalelaw17.SessionSends'. -/
def sessionSendsUptoCard : Claim7 := { stood := { row := sessionSendsUptoRow, standIns := [], harness := (true, "295d8a253df7b3043f1ee0b0727931e1d52feb67e868492c12d953077f36955d"), looks := false }, kinds := [], alts := [], laidByText := true, laidKinds := [.data], laidTests := true, laidLooks := .later }
def SessionSendsUptoCardSaid : Prop := Claim7.holds Tryz.pinned (.plain (OpenSpec.upto sessionSendsSpec)) sessionSendsUptoCard

/-- THE SECOND FORM's CARD OF 'telltalelaw17.SessionParts'. -/
def sessionPartsUptoCard : Claim7 := { stood := { row := sessionPartsUptoRow, standIns := [], harness := (true, "295d8a253df7b3043f1ee0b0727931e1d52feb67e868492c12d953077f36955d"), looks := false }, kinds := [], alts := [], laidByText := true, laidKinds := [.data], laidTests := true, laidLooks := .later }
def SessionPartsUptoCardSaid : Prop := Claim7.holds Tryz.pinned (.plain (OpenSpec.upto sessionPartsSpec)) sessionPartsUptoCard

/-- THE SECOND FORM's CARD OF 'telltalelaw16.StreamWants'. -/
def streamWantsUptoCard : Claim7 := { stood := { row := streamWantsUptoRow, standIns := [], harness := (true, "295d8a253df7b3043f1ee0b0727931e1d52feb67e868492c12d953077f36955d"), looks := false }, kinds := [], alts := [], laidByText := true, laidKinds := [.data], laidTests := true, laidLooks := .later }
def StreamWantsUptoCardSaid : Prop := Claim7.holds Tryz.pinned (.plain (OpenSpec.upto streamWantsSpec)) streamWantsUptoCard
end Rows
end Go.Proofs.YthlgnjlpakimaaaGreatDoor
