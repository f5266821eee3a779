/-
  No cell of these rows narrows 'for every input' (looked for: loops, veiled, ifaces, maps, wideKeys, modest, calm, conditions, laid).
  DERIVED. THE GIVEN ROWS OF THIS SEAT. 4 by the template 'for every input the law returns true; each argument reads behind the call as it read before'; 0 by the template 'total and deterministic' (their statements: YtophbfnedglmdaaTotals.lean).
  GIVEN WITH THE SEED: the statements are not yours to turn. If you find one false, say at which input.
  Laid BY PROGRAM, IN A SANDBOX (cutbox-rows.mjs): the forced cells as the released guide's own fill.sh prints them over the translation 81523b58ee3e1a24… (all of the seat's roots in one cut). By AI agents, Wed Nov 11 2026. No macro, syntax, notation, axiom, sorry.
-/
import Derived.Test.YtophbfnedglmdaaChecked
import GoSem.Claim
import GoSem.ClaimJoined
import GoSem.ClaimMapViews
import Derived.JoinedTies
import Derived.KernelRfl
namespace Go.Proofs.Ytophbfnedglmdaa
/- THE CELL 'sum', in the pinned program and in every row, IS THE sha256 OF THE DUMP (.gsa) THAT YtophbfnedglmdaaProg.lean LOADS. Nothing in Lean hashes anything: it is a label: what it is worth is what the hold of that sum in a sandbox is worth. -/
noncomputable def Try.pinned : Pinned := { name := "ytophbfnedglmdaa", sum := "81523b58ee3e1a24bd00e5271906ce7ebbd0654b08db5361d7aab82e6ab3a524", checked := Try.checked }
namespace Rows
def none {H : Type} : Left H := { results := [], args := [] }

/-- 'telltalelaw01.StampNexts': WHATEVER THE INPUT: true; the input reads as it did. -/
def stampNextsSpec : ChangeSpec := { name := "stampNexts", fn := fun _ => fun
  | [d1, d2, d3] => { results := [.lit (.bool true)], args := [d1, d2, d3] }
  | _ => none }
def stampNextsRow : OpenClaim := { program := "ytophbfnedglmdaa", sum := "81523b58ee3e1a24bd00e5271906ce7ebbd0654b08db5361d7aab82e6ab3a524", func := "telltale/telltalelaw01.StampNexts", spec := "stampNexts", apart := false }
def StampNextsSaid : Prop := stampNextsRow.holds Try.pinned (OpenSpec.ofChange stampNextsSpec)

/-- ITS FALSE NEIGHBOUR: 'it returns false'. Refute it at one input. -/
def stampNextsWrong : ChangeSpec := { name := "stampNexts", fn := fun _ => fun
  | [d1, d2, d3] => { results := [.lit (.bool false)], args := [d1, d2, d3] }
  | _ => none }
def StampNextsWrongFalsely : Prop := stampNextsRow.holds Try.pinned (OpenSpec.ofChange stampNextsWrong)

/-- 'telltalelaw01.StampOrders': WHATEVER THE INPUT: true; the input reads as it did. -/
def stampOrdersSpec : ChangeSpec := { name := "stampOrders", fn := fun _ => fun
  | [d1, d2] => { results := [.lit (.bool true)], args := [d1, d2] }
  | _ => none }
def stampOrdersRow : OpenClaim := { program := "ytophbfnedglmdaa", sum := "81523b58ee3e1a24bd00e5271906ce7ebbd0654b08db5361d7aab82e6ab3a524", func := "telltale/telltalelaw01.StampOrders", spec := "stampOrders", apart := false }
def StampOrdersSaid : Prop := stampOrdersRow.holds Try.pinned (OpenSpec.ofChange stampOrdersSpec)

/-- ITS FALSE NEIGHBOUR: 'it returns false'. Refute it at one input. -/
def stampOrdersWrong : ChangeSpec := { name := "stampOrders", fn := fun _ => fun
  | [d1, d2] => { results := [.lit (.bool false)], args := [d1, d2] }
  | _ => none }
def StampOrdersWrongFalsely : Prop := stampOrdersRow.holds Try.pinned (OpenSpec.ofChange stampOrdersWrong)

/-- 'telltalelaw01.StampNewest': WHATEVER THE INPUT: true; the input reads as it did. -/
def stampNewestSpec : ChangeSpec := { name := "stampNewest", fn := fun _ => fun
  | [d] => { results := [.lit (.bool true)], args := [d] }
  | _ => none }
def stampNewestRow : OpenClaim := { program := "ytophbfnedglmdaa", sum := "81523b58ee3e1a24bd00e5271906ce7ebbd0654b08db5361d7aab82e6ab3a524", func := "telltale/telltalelaw01.StampNewest", spec := "stampNewest", apart := false }
def StampNewestSaid : Prop := stampNewestRow.holds Try.pinned (OpenSpec.ofChange stampNewestSpec)

/-- ITS FALSE NEIGHBOUR: 'it returns false'. Refute it at one input. -/
def stampNewestWrong : ChangeSpec := { name := "stampNewest", fn := fun _ => fun
  | [d] => { results := [.lit (.bool false)], args := [d] }
  | _ => none }
def StampNewestWrongFalsely : Prop := stampNewestRow.holds Try.pinned (OpenSpec.ofChange stampNewestWrong)

/-- 'telltalelaw01.StampRises': WHATEVER THE INPUT: true; the input reads as it did. -/
def stampRisesSpec : ChangeSpec := { name := "stampRises", fn := fun _ => fun
  | [d1, d2, d3] => { results := [.lit (.bool true)], args := [d1, d2, d3] }
  | _ => none }
def stampRisesRow : OpenClaim := { program := "ytophbfnedglmdaa", sum := "81523b58ee3e1a24bd00e5271906ce7ebbd0654b08db5361d7aab82e6ab3a524", func := "telltale/telltalelaw01.StampRises", spec := "stampRises", apart := false }
def StampRisesSaid : Prop := stampRisesRow.holds Try.pinned (OpenSpec.ofChange stampRisesSpec)

/-- ITS FALSE NEIGHBOUR: 'it returns false'. Refute it at one input. -/
def stampRisesWrong : ChangeSpec := { name := "stampRises", fn := fun _ => fun
  | [d1, d2, d3] => { results := [.lit (.bool false)], args := [d1, d2, d3] }
  | _ => none }
def StampRisesWrongFalsely : Prop := stampRisesRow.holds Try.pinned (OpenSpec.ofChange stampRisesWrong)

/- THE SECOND FORM. 'bulk': how many values and letters a reading holds, each counted each time it is reached (what is shared counts as often as it is met; a slice's spare places count too). A statement '..UptoSaid' is the law's where the arguments, and the package variables that the reading takes, are together of bulk at most 1048576: NARROWER than '..Said'. Prove '..Said' where nothing that the law and all that it calls make is longer than what came in: it says more and counts as full. Else prove '..UptoSaid'. A law counts once. -/
mutual
def uptoBulk {H : Type} : DataW H → Nat
  | .lit (.string bytes) => bytes.length + 1
  | .lit _ => 1
  | .nil => 1
  | .ptr d => uptoBulk d + 1
  | .slice elems spare => uptoBulkAll elems + uptoBulkAll spare + 1
  | .agg parts => uptoBulkAll parts + 1
  | .iface _ d => uptoBulk d + 1
  | .map entries => uptoBulkEntries entries + 1
  | .held _ => 1
def uptoBulkAll {H : Type} : List (DataW H) → Nat
  | [] => 0
  | d :: r => uptoBulk d + uptoBulkAll r
def uptoBulkEntries {H : Type} : List (Lit × DataW H) → Nat
  | [] => 0
  | x :: r => uptoBulkEntry x + uptoBulkEntries r
def uptoBulkEntry {H : Type} : Lit × DataW H → Nat
  | (.string bytes, d) => bytes.length + uptoBulk d + 1
  | (_, d) => uptoBulk d + 1
 end
def uptoSmall : (H : Type) → List (DataW H) → Bool := fun _ ds => decide (uptoBulkAll ds ≤ 1048576)
def OpenSpec.upto (s : _root_.Go.ChangeSpec) : _root_.Go.OpenSpec := { _root_.Go.OpenSpec.ofChange s with cond := some uptoSmall }

/-- 'telltalelaw01.StampNexts', WHERE WHAT IT READS IS OF BULK AT MOST 1048576: true; the input reads as it did. -/
def stampNextsUptoRow : OpenClaim := { program := "ytophbfnedglmdaa", sum := "81523b58ee3e1a24bd00e5271906ce7ebbd0654b08db5361d7aab82e6ab3a524", func := "telltale/telltalelaw01.StampNexts", spec := "stampNexts", apart := false, narrowed := true }
def StampNextsUptoSaid : Prop := stampNextsUptoRow.holds Try.pinned (OpenSpec.upto stampNextsSpec)

/-- 'telltalelaw01.StampOrders', WHERE WHAT IT READS IS OF BULK AT MOST 1048576: true; the input reads as it did. -/
def stampOrdersUptoRow : OpenClaim := { program := "ytophbfnedglmdaa", sum := "81523b58ee3e1a24bd00e5271906ce7ebbd0654b08db5361d7aab82e6ab3a524", func := "telltale/telltalelaw01.StampOrders", spec := "stampOrders", apart := false, narrowed := true }
def StampOrdersUptoSaid : Prop := stampOrdersUptoRow.holds Try.pinned (OpenSpec.upto stampOrdersSpec)

/-- 'telltalelaw01.StampNewest', WHERE WHAT IT READS IS OF BULK AT MOST 1048576: true; the input reads as it did. -/
def stampNewestUptoRow : OpenClaim := { program := "ytophbfnedglmdaa", sum := "81523b58ee3e1a24bd00e5271906ce7ebbd0654b08db5361d7aab82e6ab3a524", func := "telltale/telltalelaw01.StampNewest", spec := "stampNewest", apart := false, narrowed := true }
def StampNewestUptoSaid : Prop := stampNewestUptoRow.holds Try.pinned (OpenSpec.upto stampNewestSpec)

/-- 'telltalelaw01.StampRises', WHERE WHAT IT READS IS OF BULK AT MOST 1048576: true; the input reads as it did. -/
def stampRisesUptoRow : OpenClaim := { program := "ytophbfnedglmdaa", sum := "81523b58ee3e1a24bd00e5271906ce7ebbd0654b08db5361d7aab82e6ab3a524", func := "telltale/telltalelaw01.StampRises", spec := "stampRises", apart := false, narrowed := true }
def StampRisesUptoSaid : Prop := stampRisesUptoRow.holds Try.pinned (OpenSpec.upto stampRisesSpec)

end Rows
end Go.Proofs.Ytophbfnedglmdaa
