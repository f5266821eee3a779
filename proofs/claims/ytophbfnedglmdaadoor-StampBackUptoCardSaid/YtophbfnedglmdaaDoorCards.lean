/-
  DERIVED. GIVEN WITH THE SEED: THE CARDS: each row of YtophbfnedglmdaaDoorRows.lean that lists a variable, with what it lists TIED to the program's text (the seventh form; the later family's looks); each row that meets fmt, with fmt's text TOLD by the authors' own Lean function (tested against real Go, not proved from fmt's source: count such statements apart). THE CARD IS WHAT COUNTS. Prove the row's statement (the work); the ties are given (YtophbfnedglmdaaDoorTie.lean); close each card by the builder's one call (the guide's Derived/Test/ToyasCard.lean, 'card_holds'). Laid BY PROGRAM, IN A SANDBOX (cutbox-door.mjs). By AI agents, Wed Nov 11 2026. No macro, syntax, notation, axiom, sorry.
-/
import Derived.Test.YtophbfnedglmdaaDoorRows
import GoSem.ClaimSeven
namespace Go.Proofs.YtophbfnedglmdaaDoor
namespace Rows

/-- THE TIED CARD OF 'telltalelaw01.StampTexts'. -/
def stampTextsCard : Claim7 := { stood := { row := stampTextsRow, standIns := [], harness := (true, "0c43834a11fddd6401eeb4f186a7b29f81b434062f8c7d5ef50482cf9b3d0267"), looks := true }, kinds := [], alts := [], laidByText := true, laidKinds := [.data, .data, .data], laidTests := true, laidLooks := .later }
def StampTextsCardSaid : Prop := Claim7.holds Tryd.pinned (.plain (OpenSpec.ofChange stampTextsSpec)) stampTextsCard

/-- THE TIED CARD OF 'telltalelaw01.StampParses'. -/
def stampParsesCard : Claim7 := { stood := { row := stampParsesRow, standIns := [], harness := (true, "0c43834a11fddd6401eeb4f186a7b29f81b434062f8c7d5ef50482cf9b3d0267"), looks := true }, kinds := [], alts := [], laidByText := true, laidKinds := [.data, .data, .data, .sentinel, .sentinel], laidTests := true, laidLooks := .later }
def StampParsesCardSaid : Prop := Claim7.holds Tryd.pinned (.plain (OpenSpec.ofChange stampParsesSpec)) stampParsesCard

/-- THE TIED CARD OF 'telltalelaw01.StampBack'. -/
def stampBackCard : Claim7 := { stood := { row := stampBackRow, standIns := [], harness := (true, "0c43834a11fddd6401eeb4f186a7b29f81b434062f8c7d5ef50482cf9b3d0267"), looks := true }, kinds := [], alts := [], laidByText := true, laidKinds := [.data, .data, .data, .sentinel, .sentinel], laidTests := true, laidLooks := .later }
def StampBackCardSaid : Prop := Claim7.holds Tryd.pinned (.plain (OpenSpec.ofChange stampBackSpec)) stampBackCard

/-- THE SECOND FORM's CARD OF 'telltalelaw01.StampTexts'. -/
def stampTextsUptoCard : Claim7 := { stood := { row := stampTextsUptoRow, standIns := [], harness := (true, "0c43834a11fddd6401eeb4f186a7b29f81b434062f8c7d5ef50482cf9b3d0267"), looks := true }, kinds := [], alts := [], laidByText := true, laidKinds := [.data, .data, .data], laidTests := true, laidLooks := .later }
def StampTextsUptoCardSaid : Prop := Claim7.holds Tryd.pinned (.plain (OpenSpec.upto stampTextsSpec)) stampTextsUptoCard

/-- THE SECOND FORM's CARD OF 'telltalelaw01.StampParses'. -/
def stampParsesUptoCard : Claim7 := { stood := { row := stampParsesUptoRow, standIns := [], harness := (true, "0c43834a11fddd6401eeb4f186a7b29f81b434062f8c7d5ef50482cf9b3d0267"), looks := true }, kinds := [], alts := [], laidByText := true, laidKinds := [.data, .data, .data, .sentinel, .sentinel], laidTests := true, laidLooks := .later }
def StampParsesUptoCardSaid : Prop := Claim7.holds Tryd.pinned (.plain (OpenSpec.upto stampParsesSpec)) stampParsesUptoCard

/-- THE SECOND FORM's CARD OF 'telltalelaw01.StampBack'. -/
def stampBackUptoCard : Claim7 := { stood := { row := stampBackUptoRow, standIns := [], harness := (true, "0c43834a11fddd6401eeb4f186a7b29f81b434062f8c7d5ef50482cf9b3d0267"), looks := true }, kinds := [], alts := [], laidByText := true, laidKinds := [.data, .data, .data, .sentinel, .sentinel], laidTests := true, laidLooks := .later }
def StampBackUptoCardSaid : Prop := Claim7.holds Tryd.pinned (.plain (OpenSpec.upto stampBackSpec)) stampBackUptoCard
end Rows
end Go.Proofs.YtophbfnedglmdaaDoor
