/-
  DERIVED. GIVEN WITH THE SEED: THE CARDS: each row of YtkphfdmelfhnoaaGreatDoorRows.lean that lists a variable, with what it lists TIED to the program's text (the seventh form; the later family's looks); each row that meets fmt, with fmt's text TOLD by the authors' own Lean function (tested against real Go, not proved from fmt's source: count such statements apart). THE CARD IS WHAT COUNTS. Prove the row's statement (the work); the ties are given (YtkphfdmelfhnoaaGreatDoorTie.lean); close each card by the builder's one call (the guide's Derived/Test/ToyasCard.lean, 'card_holds'). Laid BY PROGRAM, IN A SANDBOX (cutbox-door.mjs). By AI agents, Wed Nov 11 2026. No macro, syntax, notation, axiom, sorry.
-/
import Derived.Test.YtkphfdmelfhnoaaGreatDoorRows
import GoSem.ClaimSeven
namespace Go.Proofs.YtkphfdmelfhnoaaGreatDoor
namespace Rows

/-- THE TIED CARD OF 'telltalelaw13.ViewTakes'. -/
def viewTakesCard : Claim7 := { stood := { row := viewTakesRow, standIns := [], harness := (true, "5d10686e8d0731e9ef296191f4c607687fa82877d6cdde145f77b364a644582d"), looks := false }, kinds := [], alts := [], laidByText := true, laidKinds := [.data], laidTests := true, laidLooks := .later }
def ViewTakesCardSaid : Prop := Claim7.holds Tryz.pinned (.plain (OpenSpec.ofChange viewTakesSpec)) viewTakesCard

/-- THE TIED CARD OF 'telltalelaw13.ViewNewest'. -/
def viewNewestCard : Claim7 := { stood := { row := viewNewestRow, standIns := [], harness := (true, "5d10686e8d0731e9ef296191f4c607687fa82877d6cdde145f77b364a644582d"), looks := false }, kinds := [], alts := [], laidByText := true, laidKinds := [.data], laidTests := true, laidLooks := .later }
def ViewNewestCardSaid : Prop := Claim7.holds Tryz.pinned (.plain (OpenSpec.ofChange viewNewestSpec)) viewNewestCard

/-- THE TIED CARD OF 'telltalelaw13.ViewServes'. -/
def viewServesCard : Claim7 := { stood := { row := viewServesRow, standIns := [], harness := (true, "5d10686e8d0731e9ef296191f4c607687fa82877d6cdde145f77b364a644582d"), looks := false }, kinds := [], alts := [], laidByText := true, laidKinds := [.data], laidTests := true, laidLooks := .later }
def ViewServesCardSaid : Prop := Claim7.holds Tryz.pinned (.plain (OpenSpec.ofChange viewServesSpec)) viewServesCard

/-- THE TIED CARD OF 'telltalelaw16.StreamCatches'. -/
def streamCatchesCard : Claim7 := { stood := { row := streamCatchesRow, standIns := [], harness := (true, "5d10686e8d0731e9ef296191f4c607687fa82877d6cdde145f77b364a644582d"), looks := false }, kinds := [], alts := [], laidByText := true, laidKinds := [.data], laidTests := true, laidLooks := .later }
def StreamCatchesCardSaid : Prop := Claim7.holds Tryz.pinned (.plain (OpenSpec.ofChange streamCatchesSpec)) streamCatchesCard

/-- THE TIED CARD OF 'telltalelaw13.ViewSums'. -/
def viewSumsCard : Claim7 := { stood := { row := viewSumsRow, standIns := [], harness := (true, "5d10686e8d0731e9ef296191f4c607687fa82877d6cdde145f77b364a644582d"), looks := false }, kinds := [], alts := [], laidByText := true, laidKinds := [.data], laidTests := true, laidLooks := .later }
def ViewSumsCardSaid : Prop := Claim7.holds Tryz.pinned (.plain (OpenSpec.ofChange viewSumsSpec)) viewSumsCard

/-- THE TIED CARD OF 'telltalelaw13.ViewTwice'. -/
def viewTwiceCard : Claim7 := { stood := { row := viewTwiceRow, standIns := [], harness := (true, "5d10686e8d0731e9ef296191f4c607687fa82877d6cdde145f77b364a644582d"), looks := false }, kinds := [], alts := [], laidByText := true, laidKinds := [.data], laidTests := true, laidLooks := .later }
def ViewTwiceCardSaid : Prop := Claim7.holds Tryz.pinned (.plain (OpenSpec.ofChange viewTwiceSpec)) viewTwiceCard

/-- THE TIED CARD OF 'telltalelaw13.ViewFresh'. -/
def viewFreshCard : Claim7 := { stood := { row := viewFreshRow, standIns := [], harness := (true, "5d10686e8d0731e9ef296191f4c607687fa82877d6cdde145f77b364a644582d"), looks := false }, kinds := [], alts := [], laidByText := true, laidKinds := [.data], laidTests := true, laidLooks := .later }
def ViewFreshCardSaid : Prop := Claim7.holds Tryz.pinned (.plain (OpenSpec.ofChange viewFreshSpec)) viewFreshCard

/-- THE TIED CARD OF 'telltalelaw17.SessionSends'. -/
def sessionSendsCard : Claim7 := { stood := { row := sessionSendsRow, standIns := [], harness := (true, "5d10686e8d0731e9ef296191f4c607687fa82877d6cdde145f77b364a644582d"), looks := false }, kinds := [], alts := [], laidByText := true, laidKinds := [.data], laidTests := true, laidLooks := .later }
def SessionSendsCardSaid : Prop := Claim7.holds Tryz.pinned (.plain (OpenSpec.ofChange sessionSendsSpec)) sessionSendsCard

/-- THE TIED CARD OF 'telltalelaw17.SessionParts'. -/
def sessionPartsCard : Claim7 := { stood := { row := sessionPartsRow, standIns := [], harness := (true, "5d10686e8d0731e9ef296191f4c607687fa82877d6cdde145f77b364a644582d"), looks := false }, kinds := [], alts := [], laidByText := true, laidKinds := [.data], laidTests := true, laidLooks := .later }
def SessionPartsCardSaid : Prop := Claim7.holds Tryz.pinned (.plain (OpenSpec.ofChange sessionPartsSpec)) sessionPartsCard

/-- THE TIED CARD OF 'telltalelaw16.StreamWants'. -/
def streamWantsCard : Claim7 := { stood := { row := streamWantsRow, standIns := [], harness := (true, "5d10686e8d0731e9ef296191f4c607687fa82877d6cdde145f77b364a644582d"), looks := false }, kinds := [], alts := [], laidByText := true, laidKinds := [.data], laidTests := true, laidLooks := .later }
def StreamWantsCardSaid : Prop := Claim7.holds Tryz.pinned (.plain (OpenSpec.ofChange streamWantsSpec)) streamWantsCard

/-- THE TIED CARD OF 'telltalelaw13.ViewForms'. -/
def viewFormsCard : Claim7 := { stood := { row := viewFormsRow, standIns := [], harness := (true, "5d10686e8d0731e9ef296191f4c607687fa82877d6cdde145f77b364a644582d"), looks := false }, kinds := [], alts := [], laidByText := true, laidKinds := [.data], laidTests := true, laidLooks := .later }
def ViewFormsCardSaid : Prop := Claim7.holds Tryz.pinned (.plain (OpenSpec.ofChange viewFormsSpec)) viewFormsCard

/-- THE TIED CARD OF 'telltalelaw13.ViewBodies'. -/
def viewBodiesCard : Claim7 := { stood := { row := viewBodiesRow, standIns := [], harness := (true, "5d10686e8d0731e9ef296191f4c607687fa82877d6cdde145f77b364a644582d"), looks := false }, kinds := [], alts := [], laidByText := true, laidKinds := [.data], laidTests := true, laidLooks := .later }
def ViewBodiesCardSaid : Prop := Claim7.holds Tryz.pinned (.plain (OpenSpec.ofChange viewBodiesSpec)) viewBodiesCard

/-- THE SECOND FORM's CARD OF 'telltalelaw13.ViewTakes'. -/
def viewTakesUptoCard : Claim7 := { stood := { row := viewTakesUptoRow, standIns := [], harness := (true, "5d10686e8d0731e9ef296191f4c607687fa82877d6cdde145f77b364a644582d"), looks := false }, kinds := [], alts := [], laidByText := true, laidKinds := [.data], laidTests := true, laidLooks := .later }
def ViewTakesUptoCardSaid : Prop := Claim7.holds Tryz.pinned (.plain (OpenSpec.upto viewTakesSpec)) viewTakesUptoCard

/-- THE SECOND FORM's CARD OF 'telltalelaw13.ViewNewest'. -/
def viewNewestUptoCard : Claim7 := { stood := { row := viewNewestUptoRow, standIns := [], harness := (true, "5d10686e8d0731e9ef296191f4c607687fa82877d6cdde145f77b364a644582d"), looks := false }, kinds := [], alts := [], laidByText := true, laidKinds := [.data], laidTests := true, laidLooks := .later }
def ViewNewestUptoCardSaid : Prop := Claim7.holds Tryz.pinned (.plain (OpenSpec.upto viewNewestSpec)) viewNewestUptoCard

/-- THE SECOND FORM's CARD OF 'telltalelaw13.ViewServes'. -/
def viewServesUptoCard : Claim7 := { stood := { row := viewServesUptoRow, standIns := [], harness := (true, "5d10686e8d0731e9ef296191f4c607687fa82877d6cdde145f77b364a644582d"), looks := false }, kinds := [], alts := [], laidByText := true, laidKinds := [.data], laidTests := true, laidLooks := .later }
def ViewServesUptoCardSaid : Prop := Claim7.holds Tryz.pinned (.plain (OpenSpec.upto viewServesSpec)) viewServesUptoCard

/-- THE SECOND FORM's CARD OF 'telltalelaw16.StreamCatches'. -/
def streamCatchesUptoCard : Claim7 := { stood := { row := streamCatchesUptoRow, standIns := [], harness := (true, "5d10686e8d0731e9ef296191f4c607687fa82877d6cdde145f77b364a644582d"), looks := false }, kinds := [], alts := [], laidByText := true, laidKinds := [.data], laidTests := true, laidLooks := .later }
def StreamCatchesUptoCardSaid : Prop := Claim7.holds Tryz.pinned (.plain (OpenSpec.upto streamCatchesSpec)) streamCatchesUptoCard

/-- THE SECOND FORM's CARD OF 'telltalelaw13.ViewSums'. -/
def viewSumsUptoCard : Claim7 := { stood := { row := viewSumsUptoRow, standIns := [], harness := (true, "5d10686e8d0731e9ef296191f4c607687fa82877d6cdde145f77b364a644582d"), looks := false }, kinds := [], alts := [], laidByText := true, laidKinds := [.data], laidTests := true, laidLooks := .later }
def ViewSumsUptoCardSaid : Prop := Claim7.holds Tryz.pinned (.plain (OpenSpec.upto viewSumsSpec)) viewSumsUptoCard

/-- THE SECOND FORM's CARD OF 'telltalelaw13.ViewTwice'. -/
def viewTwiceUptoCard : Claim7 := { stood := { row := viewTwiceUptoRow, standIns := [], harness := (true, "5d10686e8d0731e9ef296191f4c607687fa82877d6cdde145f77b364a644582d"), looks := false }, kinds := [], alts := [], laidByText := true, laidKinds := [.data], laidTests := true, laidLooks := .later }
def ViewTwiceUptoCardSaid : Prop := Claim7.holds Tryz.pinned (.plain (OpenSpec.upto viewTwiceSpec)) viewTwiceUptoCard

/-- THE SECOND FORM's CARD OF 'telltalelaw13.ViewFresh'. -/
def viewFreshUptoCard : Claim7 := { stood := { row := viewFreshUptoRow, standIns := [], harness := (true, "5d10686e8d0731e9ef296191f4c607687fa82877d6cdde145f77b364a644582d"), looks := false }, kinds := [], alts := [], laidByText := true, laidKinds := [.data], laidTests := true, laidLooks := .later }
def ViewFreshUptoCardSaid : Prop := Claim7.holds Tryz.pinned (.plain (OpenSpec.upto viewFreshSpec)) viewFreshUptoCard

/-- THE SECOND FORM's CARD OF 'telltalelaw17.SessionSends'. -/
def sessionSendsUptoCard : Claim7 := { stood := { row := sessionSendsUptoRow, standIns := [], harness := (true, "5d10686e8d0731e9ef296191f4c607687fa82877d6cdde145f77b364a644582d"), looks := false }, kinds := [], alts := [], laidByText := true, laidKinds := [.data], laidTests := true, laidLooks := .later }
def SessionSendsUptoCardSaid : Prop := Claim7.holds Tryz.pinned (.plain (OpenSpec.upto sessionSendsSpec)) sessionSendsUptoCard

/-- THE SECOND FORM's CARD OF 'telltalelaw17.SessionParts'. -/
def sessionPartsUptoCard : Claim7 := { stood := { row := sessionPartsUptoRow, standIns := [], harness := (true, "5d10686e8d0731e9ef296191f4c607687fa82877d6cdde145f77b364a644582d"), looks := false }, kinds := [], alts := [], laidByText := true, laidKinds := [.data], laidTests := true, laidLooks := .later }
def SessionPartsUptoCardSaid : Prop := Claim7.holds Tryz.pinned (.plain (OpenSpec.upto sessionPartsSpec)) sessionPartsUptoCard

/-- THE SECOND FORM's CARD OF 'telltalelaw16.StreamWants'. -/
def streamWantsUptoCard : Claim7 := { stood := { row := streamWantsUptoRow, standIns := [], harness := (true, "5d10686e8d0731e9ef296191f4c607687fa82877d6cdde145f77b364a644582d"), looks := false }, kinds := [], alts := [], laidByText := true, laidKinds := [.data], laidTests := true, laidLooks := .later }
def StreamWantsUptoCardSaid : Prop := Claim7.holds Tryz.pinned (.plain (OpenSpec.upto streamWantsSpec)) streamWantsUptoCard

/-- THE SECOND FORM's CARD OF 'telltalelaw13.ViewForms'. -/
def viewFormsUptoCard : Claim7 := { stood := { row := viewFormsUptoRow, standIns := [], harness := (true, "5d10686e8d0731e9ef296191f4c607687fa82877d6cdde145f77b364a644582d"), looks := false }, kinds := [], alts := [], laidByText := true, laidKinds := [.data], laidTests := true, laidLooks := .later }
def ViewFormsUptoCardSaid : Prop := Claim7.holds Tryz.pinned (.plain (OpenSpec.upto viewFormsSpec)) viewFormsUptoCard

/-- THE SECOND FORM's CARD OF 'telltalelaw13.ViewBodies'. -/
def viewBodiesUptoCard : Claim7 := { stood := { row := viewBodiesUptoRow, standIns := [], harness := (true, "5d10686e8d0731e9ef296191f4c607687fa82877d6cdde145f77b364a644582d"), looks := false }, kinds := [], alts := [], laidByText := true, laidKinds := [.data], laidTests := true, laidLooks := .later }
def ViewBodiesUptoCardSaid : Prop := Claim7.holds Tryz.pinned (.plain (OpenSpec.upto viewBodiesSpec)) viewBodiesUptoCard
end Rows
end Go.Proofs.YtkphfdmelfhnoaaGreatDoor
