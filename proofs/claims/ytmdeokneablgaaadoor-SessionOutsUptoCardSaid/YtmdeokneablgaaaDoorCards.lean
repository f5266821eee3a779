/-
  DERIVED. GIVEN WITH THE SEED: THE CARDS: each row of YtmdeokneablgaaaDoorRows.lean that lists a variable, with what it lists TIED to the program's text (the seventh form; the later family's looks); each row that meets fmt, with fmt's text TOLD by the authors' own Lean function (tested against real Go, not proved from fmt's source: count such statements apart). THE CARD IS WHAT COUNTS. Prove the row's statement (the work); the ties are given (YtmdeokneablgaaaDoorTie.lean); close each card by the builder's one call (the guide's Derived/Test/ToyasCard.lean, 'card_holds'). Laid BY PROGRAM, IN A SANDBOX (cutbox-door.mjs). By AI agents, Wed Nov 11 2026. No macro, syntax, notation, axiom, sorry.
-/
import Derived.Test.YtmdeokneablgaaaDoorRows
import GoSem.ClaimSeven
namespace Go.Proofs.YtmdeokneablgaaaDoor
namespace Rows

/-- THE TIED CARD OF 'telltalelaw17.SessionOnce'. -/
def sessionOnceCard : Claim7 := { stood := { row := sessionOnceRow, standIns := [], harness := (true, "03d6b500d3f6595f87a880bc598200c1ffa4888b479056e7dfaedf4d3ebb5d5f"), looks := false }, kinds := [], alts := [], laidByText := true, laidKinds := [.data], laidTests := true, laidLooks := .later }
def SessionOnceCardSaid : Prop := Claim7.holds Tryd.pinned (.plain (OpenSpec.ofChange sessionOnceSpec)) sessionOnceCard

/-- THE TIED CARD OF 'telltalelaw17.SessionHears'. -/
def sessionHearsCard : Claim7 := { stood := { row := sessionHearsRow, standIns := [], harness := (true, "03d6b500d3f6595f87a880bc598200c1ffa4888b479056e7dfaedf4d3ebb5d5f"), looks := false }, kinds := [], alts := [], laidByText := true, laidKinds := [.data], laidTests := true, laidLooks := .later }
def SessionHearsCardSaid : Prop := Claim7.holds Tryd.pinned (.plain (OpenSpec.ofChange sessionHearsSpec)) sessionHearsCard

/-- THE TIED CARD OF 'telltalelaw17.SessionOuts'. -/
def sessionOutsCard : Claim7 := { stood := { row := sessionOutsRow, standIns := [], harness := (true, "03d6b500d3f6595f87a880bc598200c1ffa4888b479056e7dfaedf4d3ebb5d5f"), looks := false }, kinds := [], alts := [], laidByText := true, laidKinds := [.data], laidTests := true, laidLooks := .later }
def SessionOutsCardSaid : Prop := Claim7.holds Tryd.pinned (.plain (OpenSpec.ofChange sessionOutsSpec)) sessionOutsCard

/-- THE SECOND FORM's CARD OF 'telltalelaw17.SessionOnce'. -/
def sessionOnceUptoCard : Claim7 := { stood := { row := sessionOnceUptoRow, standIns := [], harness := (true, "03d6b500d3f6595f87a880bc598200c1ffa4888b479056e7dfaedf4d3ebb5d5f"), looks := false }, kinds := [], alts := [], laidByText := true, laidKinds := [.data], laidTests := true, laidLooks := .later }
def SessionOnceUptoCardSaid : Prop := Claim7.holds Tryd.pinned (.plain (OpenSpec.upto sessionOnceSpec)) sessionOnceUptoCard

/-- THE SECOND FORM's CARD OF 'telltalelaw17.SessionHears'. -/
def sessionHearsUptoCard : Claim7 := { stood := { row := sessionHearsUptoRow, standIns := [], harness := (true, "03d6b500d3f6595f87a880bc598200c1ffa4888b479056e7dfaedf4d3ebb5d5f"), looks := false }, kinds := [], alts := [], laidByText := true, laidKinds := [.data], laidTests := true, laidLooks := .later }
def SessionHearsUptoCardSaid : Prop := Claim7.holds Tryd.pinned (.plain (OpenSpec.upto sessionHearsSpec)) sessionHearsUptoCard

/-- THE SECOND FORM's CARD OF 'telltalelaw17.SessionOuts'. -/
def sessionOutsUptoCard : Claim7 := { stood := { row := sessionOutsUptoRow, standIns := [], harness := (true, "03d6b500d3f6595f87a880bc598200c1ffa4888b479056e7dfaedf4d3ebb5d5f"), looks := false }, kinds := [], alts := [], laidByText := true, laidKinds := [.data], laidTests := true, laidLooks := .later }
def SessionOutsUptoCardSaid : Prop := Claim7.holds Tryd.pinned (.plain (OpenSpec.upto sessionOutsSpec)) sessionOutsUptoCard
end Rows
end Go.Proofs.YtmdeokneablgaaaDoor
