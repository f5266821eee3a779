/-
  NARROWER THAN 'FOR EVERY INPUT', by the rows' own cells (each row's printed sentence says how): ViewNewest: laid · StreamCatches: laid · ViewTwice: laid · ViewFresh: laid · SessionSends: laid · SessionParts: laid · StreamWants: laid.
  DERIVED. THE GIVEN ROWS OF THIS SEAT. 7 by the template 'for every input the law returns true; each argument reads behind the call as it read before'; 0 by the template 'total and deterministic' (their statements: YthlgnjlpakimaaaGreatDoorTotals.lean).
  GIVEN WITH THE SEED: the statements are not yours to turn. If you find one false, say at which input.
  Laid BY PROGRAM, IN A SANDBOX (cutbox-rows.mjs): the forced cells as the released guide's own fill.sh prints them over the translation 527820102c2a9f65… (all of the seat's roots in one cut). By AI agents, Wed Nov 11 2026. No macro, syntax, notation, axiom, sorry.
-/
import Derived.Test.YthlgnjlpakimaaaGreatDoorChecked
import GoSem.Claim
import GoSem.ClaimJoined
import GoSem.ClaimMapViews
import Derived.JoinedTies
import Derived.KernelRfl
namespace Go.Proofs.YthlgnjlpakimaaaGreatDoor
/- THE CELL 'sum', in the pinned program and in every row, IS THE sha256 OF THE DUMP (.gsa) THAT YthlgnjlpakimaaaGreatDoorProg.lean LOADS. Nothing in Lean hashes anything: it is a label: what it is worth is what the hold of that sum in a sandbox is worth. -/
noncomputable def Tryz.pinned : Pinned := { name := "ythlgnjlpakimaaagreatdoor", sum := "527820102c2a9f65e97a805d61170cc0d62b5c85d24b022e9ec2f2a550680c2e", checked := Tryz.checked }
namespace Rows
def none {H : Type} : Left H := { results := [], args := [] }

/- WHAT THE LISTED PACKAGE-LEVEL VARIABLES READ AS WHEN THE CALL BEGINS. Each datum BY PROGRAM (the guide's laid-datum.mjs) off the statement by which the dump's own 'gosem.cut.vars' lays the variable. In a bare row this is a premise. The card (YthlgnjlpakimaaaGreatDoorCards.lean) ties it to the program's text. -/
def laid_math_bits_deBruijn64tab {H : Type} : DataW H := .agg [.lit (.int .u8 0), .lit (.int .u8 1), .lit (.int .u8 56), .lit (.int .u8 2), .lit (.int .u8 57), .lit (.int .u8 49), .lit (.int .u8 28), .lit (.int .u8 3), .lit (.int .u8 61), .lit (.int .u8 58), .lit (.int .u8 42), .lit (.int .u8 50), .lit (.int .u8 38), .lit (.int .u8 29), .lit (.int .u8 17), .lit (.int .u8 4), .lit (.int .u8 62), .lit (.int .u8 47), .lit (.int .u8 59), .lit (.int .u8 36), .lit (.int .u8 45), .lit (.int .u8 43), .lit (.int .u8 51), .lit (.int .u8 22), .lit (.int .u8 53), .lit (.int .u8 39), .lit (.int .u8 33), .lit (.int .u8 30), .lit (.int .u8 24), .lit (.int .u8 18), .lit (.int .u8 12), .lit (.int .u8 5), .lit (.int .u8 63), .lit (.int .u8 55), .lit (.int .u8 48), .lit (.int .u8 27), .lit (.int .u8 60), .lit (.int .u8 41), .lit (.int .u8 37), .lit (.int .u8 16), .lit (.int .u8 46), .lit (.int .u8 35), .lit (.int .u8 44), .lit (.int .u8 21), .lit (.int .u8 52), .lit (.int .u8 32), .lit (.int .u8 23), .lit (.int .u8 11), .lit (.int .u8 54), .lit (.int .u8 26), .lit (.int .u8 40), .lit (.int .u8 15), .lit (.int .u8 34), .lit (.int .u8 20), .lit (.int .u8 31), .lit (.int .u8 10), .lit (.int .u8 25), .lit (.int .u8 14), .lit (.int .u8 19), .lit (.int .u8 9), .lit (.int .u8 13), .lit (.int .u8 8), .lit (.int .u8 7), .lit (.int .u8 6)]

/-- 'telltalelaw13.ViewNewest': WHATEVER THE INPUT: true; the input reads as it did. -/
def viewNewestSpec : ChangeSpec := { name := "viewNewest", fn := fun _ => fun
  | [d1, d2, d3] => { results := [.lit (.bool true)], args := [d1, d2, d3] }
  | _ => none }
def viewNewestRow : OpenClaim := { program := "ythlgnjlpakimaaagreatdoor", sum := "527820102c2a9f65e97a805d61170cc0d62b5c85d24b022e9ec2f2a550680c2e", func := "telltale/telltalelaw13.ViewNewest", spec := "viewNewest", inPlace := ["slices.overlaps[telltale/api.Write]"], unfollowed := true, recurses := true, named := ["math/bits.deBruijn64tab"], apart := false, laid := [("math/bits.deBruijn64tab", laid_math_bits_deBruijn64tab)] }
def ViewNewestSaid : Prop := viewNewestRow.holds Tryz.pinned (OpenSpec.ofChange viewNewestSpec)

/-- ITS FALSE NEIGHBOUR: 'it returns false'. Refute it at one input. -/
def viewNewestWrong : ChangeSpec := { name := "viewNewest", fn := fun _ => fun
  | [d1, d2, d3] => { results := [.lit (.bool false)], args := [d1, d2, d3] }
  | _ => none }
def ViewNewestWrongFalsely : Prop := viewNewestRow.holds Tryz.pinned (OpenSpec.ofChange viewNewestWrong)

/-- 'telltalelaw16.StreamCatches': WHATEVER THE INPUT: true; the input reads as it did. -/
def streamCatchesSpec : ChangeSpec := { name := "streamCatches", fn := fun _ => fun
  | [d1, d2, d3] => { results := [.lit (.bool true)], args := [d1, d2, d3] }
  | _ => none }
def streamCatchesRow : OpenClaim := { program := "ythlgnjlpakimaaagreatdoor", sum := "527820102c2a9f65e97a805d61170cc0d62b5c85d24b022e9ec2f2a550680c2e", func := "telltale/telltalelaw16.StreamCatches", spec := "streamCatches", unfollowed := true, recurses := true, named := ["math/bits.deBruijn64tab"], apart := false, laid := [("math/bits.deBruijn64tab", laid_math_bits_deBruijn64tab)] }
def StreamCatchesSaid : Prop := streamCatchesRow.holds Tryz.pinned (OpenSpec.ofChange streamCatchesSpec)

/-- ITS FALSE NEIGHBOUR: 'it returns false'. Refute it at one input. -/
def streamCatchesWrong : ChangeSpec := { name := "streamCatches", fn := fun _ => fun
  | [d1, d2, d3] => { results := [.lit (.bool false)], args := [d1, d2, d3] }
  | _ => none }
def StreamCatchesWrongFalsely : Prop := streamCatchesRow.holds Tryz.pinned (OpenSpec.ofChange streamCatchesWrong)

/-- 'telltalelaw13.ViewTwice': WHATEVER THE INPUT: true; the input reads as it did. -/
def viewTwiceSpec : ChangeSpec := { name := "viewTwice", fn := fun _ => fun
  | [d1, d2, d3] => { results := [.lit (.bool true)], args := [d1, d2, d3] }
  | _ => none }
def viewTwiceRow : OpenClaim := { program := "ythlgnjlpakimaaagreatdoor", sum := "527820102c2a9f65e97a805d61170cc0d62b5c85d24b022e9ec2f2a550680c2e", func := "telltale/telltalelaw13.ViewTwice", spec := "viewTwice", inPlace := ["slices.overlaps[telltale/api.Write]"], unfollowed := true, recurses := true, named := ["math/bits.deBruijn64tab"], apart := false, laid := [("math/bits.deBruijn64tab", laid_math_bits_deBruijn64tab)] }
def ViewTwiceSaid : Prop := viewTwiceRow.holds Tryz.pinned (OpenSpec.ofChange viewTwiceSpec)

/-- ITS FALSE NEIGHBOUR: 'it returns false'. Refute it at one input. -/
def viewTwiceWrong : ChangeSpec := { name := "viewTwice", fn := fun _ => fun
  | [d1, d2, d3] => { results := [.lit (.bool false)], args := [d1, d2, d3] }
  | _ => none }
def ViewTwiceWrongFalsely : Prop := viewTwiceRow.holds Tryz.pinned (OpenSpec.ofChange viewTwiceWrong)

/-- 'telltalelaw13.ViewFresh': WHATEVER THE INPUT: true; the input reads as it did. -/
def viewFreshSpec : ChangeSpec := { name := "viewFresh", fn := fun _ => fun
  | [d1, d2, d3] => { results := [.lit (.bool true)], args := [d1, d2, d3] }
  | _ => none }
def viewFreshRow : OpenClaim := { program := "ythlgnjlpakimaaagreatdoor", sum := "527820102c2a9f65e97a805d61170cc0d62b5c85d24b022e9ec2f2a550680c2e", func := "telltale/telltalelaw13.ViewFresh", spec := "viewFresh", inPlace := ["slices.overlaps[telltale/api.Write]"], unfollowed := true, recurses := true, named := ["math/bits.deBruijn64tab"], apart := false, laid := [("math/bits.deBruijn64tab", laid_math_bits_deBruijn64tab)] }
def ViewFreshSaid : Prop := viewFreshRow.holds Tryz.pinned (OpenSpec.ofChange viewFreshSpec)

/-- ITS FALSE NEIGHBOUR: 'it returns false'. Refute it at one input. -/
def viewFreshWrong : ChangeSpec := { name := "viewFresh", fn := fun _ => fun
  | [d1, d2, d3] => { results := [.lit (.bool false)], args := [d1, d2, d3] }
  | _ => none }
def ViewFreshWrongFalsely : Prop := viewFreshRow.holds Tryz.pinned (OpenSpec.ofChange viewFreshWrong)

/-- 'telltalelaw17.SessionSends': WHATEVER THE INPUT: true; the input reads as it did. -/
def sessionSendsSpec : ChangeSpec := { name := "sessionSends", fn := fun _ => fun
  | [d1, d2, d3] => { results := [.lit (.bool true)], args := [d1, d2, d3] }
  | _ => none }
def sessionSendsRow : OpenClaim := { program := "ythlgnjlpakimaaagreatdoor", sum := "527820102c2a9f65e97a805d61170cc0d62b5c85d24b022e9ec2f2a550680c2e", func := "telltale/telltalelaw17.SessionSends", spec := "sessionSends", unfollowed := true, recurses := true, named := ["math/bits.deBruijn64tab"], apart := false, laid := [("math/bits.deBruijn64tab", laid_math_bits_deBruijn64tab)] }
def SessionSendsSaid : Prop := sessionSendsRow.holds Tryz.pinned (OpenSpec.ofChange sessionSendsSpec)

/-- ITS FALSE NEIGHBOUR: 'it returns false'. Refute it at one input. -/
def sessionSendsWrong : ChangeSpec := { name := "sessionSends", fn := fun _ => fun
  | [d1, d2, d3] => { results := [.lit (.bool false)], args := [d1, d2, d3] }
  | _ => none }
def SessionSendsWrongFalsely : Prop := sessionSendsRow.holds Tryz.pinned (OpenSpec.ofChange sessionSendsWrong)

/-- 'telltalelaw17.SessionParts': WHATEVER THE INPUT: true; the input reads as it did. -/
def sessionPartsSpec : ChangeSpec := { name := "sessionParts", fn := fun _ => fun
  | [d1, d2, d3] => { results := [.lit (.bool true)], args := [d1, d2, d3] }
  | _ => none }
def sessionPartsRow : OpenClaim := { program := "ythlgnjlpakimaaagreatdoor", sum := "527820102c2a9f65e97a805d61170cc0d62b5c85d24b022e9ec2f2a550680c2e", func := "telltale/telltalelaw17.SessionParts", spec := "sessionParts", unfollowed := true, recurses := true, named := ["math/bits.deBruijn64tab"], apart := false, laid := [("math/bits.deBruijn64tab", laid_math_bits_deBruijn64tab)] }
def SessionPartsSaid : Prop := sessionPartsRow.holds Tryz.pinned (OpenSpec.ofChange sessionPartsSpec)

/-- ITS FALSE NEIGHBOUR: 'it returns false'. Refute it at one input. -/
def sessionPartsWrong : ChangeSpec := { name := "sessionParts", fn := fun _ => fun
  | [d1, d2, d3] => { results := [.lit (.bool false)], args := [d1, d2, d3] }
  | _ => none }
def SessionPartsWrongFalsely : Prop := sessionPartsRow.holds Tryz.pinned (OpenSpec.ofChange sessionPartsWrong)

/-- 'telltalelaw16.StreamWants': WHATEVER THE INPUT: true; the input reads as it did. -/
def streamWantsSpec : ChangeSpec := { name := "streamWants", fn := fun _ => fun
  | [d1, d2, d3] => { results := [.lit (.bool true)], args := [d1, d2, d3] }
  | _ => none }
def streamWantsRow : OpenClaim := { program := "ythlgnjlpakimaaagreatdoor", sum := "527820102c2a9f65e97a805d61170cc0d62b5c85d24b022e9ec2f2a550680c2e", func := "telltale/telltalelaw16.StreamWants", spec := "streamWants", inPlace := ["slices.overlaps[telltale/api.Write]"], unfollowed := true, recurses := true, named := ["math/bits.deBruijn64tab"], apart := false, laid := [("math/bits.deBruijn64tab", laid_math_bits_deBruijn64tab)] }
def StreamWantsSaid : Prop := streamWantsRow.holds Tryz.pinned (OpenSpec.ofChange streamWantsSpec)

/-- ITS FALSE NEIGHBOUR: 'it returns false'. Refute it at one input. -/
def streamWantsWrong : ChangeSpec := { name := "streamWants", fn := fun _ => fun
  | [d1, d2, d3] => { results := [.lit (.bool false)], args := [d1, d2, d3] }
  | _ => none }
def StreamWantsWrongFalsely : Prop := streamWantsRow.holds Tryz.pinned (OpenSpec.ofChange streamWantsWrong)

/- THE SECOND FORM. 'bulk': how many values and letters a reading holds, each counted each time it is reached (what is shared counts as often as it is met; a slice's spare places count too). A statement '..UptoSaid' is the law's where the arguments, and the package variables that the reading takes, are together of bulk at most 1048576: NARROWER than '..Said'. Prove '..Said' where nothing that the law and all that it calls make is longer than what came in: it says more and counts as full. Else prove '..UptoSaid'. A law counts once. -/
mutual
def uptoBulk {H : Type} : DataW H → Nat
  | .lit (.string bytes) => bytes.length + 1
  | .lit _ => 1
  | .nil => 1
  | .ptr d => uptoBulk d + 1
  | .slice elems spare => uptoBulkAll elems + uptoBulkAll spare + 1
  | .agg parts => uptoBulkAll parts + 1
  | .iface _ d => uptoBulk d + 1
  | .map entries => uptoBulkEntries entries + 1
  | .held _ => 1
def uptoBulkAll {H : Type} : List (DataW H) → Nat
  | [] => 0
  | d :: r => uptoBulk d + uptoBulkAll r
def uptoBulkEntries {H : Type} : List (Lit × DataW H) → Nat
  | [] => 0
  | x :: r => uptoBulkEntry x + uptoBulkEntries r
def uptoBulkEntry {H : Type} : Lit × DataW H → Nat
  | (.string bytes, d) => bytes.length + uptoBulk d + 1
  | (_, d) => uptoBulk d + 1
 end
def uptoSmall : (H : Type) → List (DataW H) → Bool := fun _ ds => decide (uptoBulkAll ds ≤ 1048576)
def OpenSpec.upto (s : _root_.Go.ChangeSpec) : _root_.Go.OpenSpec := { _root_.Go.OpenSpec.ofChange s with cond := some uptoSmall }

/-- 'telltalelaw13.ViewNewest', WHERE WHAT IT READS IS OF BULK AT MOST 1048576: true; the input reads as it did. -/
def viewNewestUptoRow : OpenClaim := { program := "ythlgnjlpakimaaagreatdoor", sum := "527820102c2a9f65e97a805d61170cc0d62b5c85d24b022e9ec2f2a550680c2e", func := "telltale/telltalelaw13.ViewNewest", spec := "viewNewest", inPlace := ["slices.overlaps[telltale/api.Write]"], unfollowed := true, recurses := true, named := ["math/bits.deBruijn64tab"], apart := false, laid := [("math/bits.deBruijn64tab", laid_math_bits_deBruijn64tab)], narrowed := true }
def ViewNewestUptoSaid : Prop := viewNewestUptoRow.holds Tryz.pinned (OpenSpec.upto viewNewestSpec)

/-- 'telltalelaw16.StreamCatches', WHERE WHAT IT READS IS OF BULK AT MOST 1048576: true; the input reads as it did. -/
def streamCatchesUptoRow : OpenClaim := { program := "ythlgnjlpakimaaagreatdoor", sum := "527820102c2a9f65e97a805d61170cc0d62b5c85d24b022e9ec2f2a550680c2e", func := "telltale/telltalelaw16.StreamCatches", spec := "streamCatches", unfollowed := true, recurses := true, named := ["math/bits.deBruijn64tab"], apart := false, laid := [("math/bits.deBruijn64tab", laid_math_bits_deBruijn64tab)], narrowed := true }
def StreamCatchesUptoSaid : Prop := streamCatchesUptoRow.holds Tryz.pinned (OpenSpec.upto streamCatchesSpec)

/-- 'telltalelaw13.ViewTwice', WHERE WHAT IT READS IS OF BULK AT MOST 1048576: true; the input reads as it did. -/
def viewTwiceUptoRow : OpenClaim := { program := "ythlgnjlpakimaaagreatdoor", sum := "527820102c2a9f65e97a805d61170cc0d62b5c85d24b022e9ec2f2a550680c2e", func := "telltale/telltalelaw13.ViewTwice", spec := "viewTwice", inPlace := ["slices.overlaps[telltale/api.Write]"], unfollowed := true, recurses := true, named := ["math/bits.deBruijn64tab"], apart := false, laid := [("math/bits.deBruijn64tab", laid_math_bits_deBruijn64tab)], narrowed := true }
def ViewTwiceUptoSaid : Prop := viewTwiceUptoRow.holds Tryz.pinned (OpenSpec.upto viewTwiceSpec)

/-- 'telltalelaw13.ViewFresh', WHERE WHAT IT READS IS OF BULK AT MOST 1048576: true; the input reads as it did. -/
def viewFreshUptoRow : OpenClaim := { program := "ythlgnjlpakimaaagreatdoor", sum := "527820102c2a9f65e97a805d61170cc0d62b5c85d24b022e9ec2f2a550680c2e", func := "telltale/telltalelaw13.ViewFresh", spec := "viewFresh", inPlace := ["slices.overlaps[telltale/api.Write]"], unfollowed := true, recurses := true, named := ["math/bits.deBruijn64tab"], apart := false, laid := [("math/bits.deBruijn64tab", laid_math_bits_deBruijn64tab)], narrowed := true }
def ViewFreshUptoSaid : Prop := viewFreshUptoRow.holds Tryz.pinned (OpenSpec.upto viewFreshSpec)

/-- 'telltalelaw17.SessionSends', WHERE WHAT IT READS IS OF BULK AT MOST 1048576: true; the input reads as it did. -/
def sessionSendsUptoRow : OpenClaim := { program := "ythlgnjlpakimaaagreatdoor", sum := "527820102c2a9f65e97a805d61170cc0d62b5c85d24b022e9ec2f2a550680c2e", func := "telltale/telltalelaw17.SessionSends", spec := "sessionSends", unfollowed := true, recurses := true, named := ["math/bits.deBruijn64tab"], apart := false, laid := [("math/bits.deBruijn64tab", laid_math_bits_deBruijn64tab)], narrowed := true }
def SessionSendsUptoSaid : Prop := sessionSendsUptoRow.holds Tryz.pinned (OpenSpec.upto sessionSendsSpec)

/-- 'telltalelaw17.SessionParts', WHERE WHAT IT READS IS OF BULK AT MOST 1048576: true; the input reads as it did. -/
def sessionPartsUptoRow : OpenClaim := { program := "ythlgnjlpakimaaagreatdoor", sum := "527820102c2a9f65e97a805d61170cc0d62b5c85d24b022e9ec2f2a550680c2e", func := "telltale/telltalelaw17.SessionParts", spec := "sessionParts", unfollowed := true, recurses := true, named := ["math/bits.deBruijn64tab"], apart := false, laid := [("math/bits.deBruijn64tab", laid_math_bits_deBruijn64tab)], narrowed := true }
def SessionPartsUptoSaid : Prop := sessionPartsUptoRow.holds Tryz.pinned (OpenSpec.upto sessionPartsSpec)

/-- 'telltalelaw16.StreamWants', WHERE WHAT IT READS IS OF BULK AT MOST 1048576: true; the input reads as it did. -/
def streamWantsUptoRow : OpenClaim := { program := "ythlgnjlpakimaaagreatdoor", sum := "527820102c2a9f65e97a805d61170cc0d62b5c85d24b022e9ec2f2a550680c2e", func := "telltale/telltalelaw16.StreamWants", spec := "streamWants", inPlace := ["slices.overlaps[telltale/api.Write]"], unfollowed := true, recurses := true, named := ["math/bits.deBruijn64tab"], apart := false, laid := [("math/bits.deBruijn64tab", laid_math_bits_deBruijn64tab)], narrowed := true }
def StreamWantsUptoSaid : Prop := streamWantsUptoRow.holds Tryz.pinned (OpenSpec.upto streamWantsSpec)

end Rows
end Go.Proofs.YthlgnjlpakimaaaGreatDoor
