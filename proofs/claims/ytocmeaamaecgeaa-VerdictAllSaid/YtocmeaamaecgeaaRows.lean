/-
  No cell of these rows narrows 'for every input' (looked for: loops, veiled, ifaces, maps, wideKeys, modest, calm, conditions, laid).
  DERIVED. THE GIVEN ROWS OF THIS SEAT. 6 by the template 'for every input the law returns true; each argument reads behind the call as it read before'; 0 by the template 'total and deterministic' (their statements: YtocmeaamaecgeaaTotals.lean).
  GIVEN WITH THE SEED: the statements are not yours to turn. If you find one false, say at which input.
  Laid BY PROGRAM, IN A SANDBOX (cutbox-rows.mjs): the forced cells as the released guide's own fill.sh prints them over the translation f9c4889f37b95246… (all of the seat's roots in one cut). By AI agents, Wed Nov 11 2026. No macro, syntax, notation, axiom, sorry.
-/
import Derived.Test.YtocmeaamaecgeaaChecked
import GoSem.Claim
import GoSem.ClaimJoined
import GoSem.ClaimMapViews
import Derived.JoinedTies
import Derived.KernelRfl
namespace Go.Proofs.Ytocmeaamaecgeaa
/- THE CELL 'sum', in the pinned program and in every row, IS THE sha256 OF THE DUMP (.gsa) THAT YtocmeaamaecgeaaProg.lean LOADS. Nothing in Lean hashes anything: it is a label: what it is worth is what the hold of that sum in a sandbox is worth. -/
noncomputable def Try.pinned : Pinned := { name := "ytocmeaamaecgeaa", sum := "f9c4889f37b95246ef84542dfcb623a74ffe831484c78122b53ca0e6cb2eb4d8", checked := Try.checked }
namespace Rows
def none {H : Type} : Left H := { results := [], args := [] }

/-- 'roundhouselaw14.VerdictBoth': WHATEVER THE INPUT: true; the input reads as it did. -/
def verdictBothSpec : ChangeSpec := { name := "verdictBoth", fn := fun _ => fun
  | [d] => { results := [.lit (.bool true)], args := [d] }
  | _ => none }
def verdictBothRow : OpenClaim := { program := "ytocmeaamaecgeaa", sum := "f9c4889f37b95246ef84542dfcb623a74ffe831484c78122b53ca0e6cb2eb4d8", func := "roundhouse/roundhouselaw14.VerdictBoth", spec := "verdictBoth", unfollowed := true, recurses := true, apart := false }
def VerdictBothSaid : Prop := verdictBothRow.holds Try.pinned (OpenSpec.ofChange verdictBothSpec)

/-- ITS FALSE NEIGHBOUR: 'it returns false'. Refute it at one input. -/
def verdictBothWrong : ChangeSpec := { name := "verdictBoth", fn := fun _ => fun
  | [d] => { results := [.lit (.bool false)], args := [d] }
  | _ => none }
def VerdictBothWrongFalsely : Prop := verdictBothRow.holds Try.pinned (OpenSpec.ofChange verdictBothWrong)

/-- 'roundhouselaw14.VerdictChecks': WHATEVER THE INPUT: true; the input reads as it did. -/
def verdictChecksSpec : ChangeSpec := { name := "verdictChecks", fn := fun _ => fun
  | [d] => { results := [.lit (.bool true)], args := [d] }
  | _ => none }
def verdictChecksRow : OpenClaim := { program := "ytocmeaamaecgeaa", sum := "f9c4889f37b95246ef84542dfcb623a74ffe831484c78122b53ca0e6cb2eb4d8", func := "roundhouse/roundhouselaw14.VerdictChecks", spec := "verdictChecks", unfollowed := true, recurses := true, apart := false }
def VerdictChecksSaid : Prop := verdictChecksRow.holds Try.pinned (OpenSpec.ofChange verdictChecksSpec)

/-- ITS FALSE NEIGHBOUR: 'it returns false'. Refute it at one input. -/
def verdictChecksWrong : ChangeSpec := { name := "verdictChecks", fn := fun _ => fun
  | [d] => { results := [.lit (.bool false)], args := [d] }
  | _ => none }
def VerdictChecksWrongFalsely : Prop := verdictChecksRow.holds Try.pinned (OpenSpec.ofChange verdictChecksWrong)

/-- 'roundhouselaw14.VerdictOrder': WHATEVER THE INPUT: true; the input reads as it did. -/
def verdictOrderSpec : ChangeSpec := { name := "verdictOrder", fn := fun _ => fun
  | [d1, d2, d3] => { results := [.lit (.bool true)], args := [d1, d2, d3] }
  | _ => none }
def verdictOrderRow : OpenClaim := { program := "ytocmeaamaecgeaa", sum := "f9c4889f37b95246ef84542dfcb623a74ffe831484c78122b53ca0e6cb2eb4d8", func := "roundhouse/roundhouselaw14.VerdictOrder", spec := "verdictOrder", unfollowed := true, recurses := true, apart := false }
def VerdictOrderSaid : Prop := verdictOrderRow.holds Try.pinned (OpenSpec.ofChange verdictOrderSpec)

/-- ITS FALSE NEIGHBOUR: 'it returns false'. Refute it at one input. -/
def verdictOrderWrong : ChangeSpec := { name := "verdictOrder", fn := fun _ => fun
  | [d1, d2, d3] => { results := [.lit (.bool false)], args := [d1, d2, d3] }
  | _ => none }
def VerdictOrderWrongFalsely : Prop := verdictOrderRow.holds Try.pinned (OpenSpec.ofChange verdictOrderWrong)

/-- 'roundhouselaw14.VerdictSmall': WHATEVER THE INPUT: true; the input reads as it did. -/
def verdictSmallSpec : ChangeSpec := { name := "verdictSmall", fn := fun _ => fun
  | [d1, d2, d3] => { results := [.lit (.bool true)], args := [d1, d2, d3] }
  | _ => none }
def verdictSmallRow : OpenClaim := { program := "ytocmeaamaecgeaa", sum := "f9c4889f37b95246ef84542dfcb623a74ffe831484c78122b53ca0e6cb2eb4d8", func := "roundhouse/roundhouselaw14.VerdictSmall", spec := "verdictSmall", unfollowed := true, recurses := true, apart := false }
def VerdictSmallSaid : Prop := verdictSmallRow.holds Try.pinned (OpenSpec.ofChange verdictSmallSpec)

/-- ITS FALSE NEIGHBOUR: 'it returns false'. Refute it at one input. -/
def verdictSmallWrong : ChangeSpec := { name := "verdictSmall", fn := fun _ => fun
  | [d1, d2, d3] => { results := [.lit (.bool false)], args := [d1, d2, d3] }
  | _ => none }
def VerdictSmallWrongFalsely : Prop := verdictSmallRow.holds Try.pinned (OpenSpec.ofChange verdictSmallWrong)

/-- 'roundhouselaw14.VerdictAll': WHATEVER THE INPUT: true; the input reads as it did. -/
def verdictAllSpec : ChangeSpec := { name := "verdictAll", fn := fun _ => fun
  | [d] => { results := [.lit (.bool true)], args := [d] }
  | _ => none }
def verdictAllRow : OpenClaim := { program := "ytocmeaamaecgeaa", sum := "f9c4889f37b95246ef84542dfcb623a74ffe831484c78122b53ca0e6cb2eb4d8", func := "roundhouse/roundhouselaw14.VerdictAll", spec := "verdictAll", unfollowed := true, recurses := true, apart := false }
def VerdictAllSaid : Prop := verdictAllRow.holds Try.pinned (OpenSpec.ofChange verdictAllSpec)

/-- ITS FALSE NEIGHBOUR: 'it returns false'. Refute it at one input. -/
def verdictAllWrong : ChangeSpec := { name := "verdictAll", fn := fun _ => fun
  | [d] => { results := [.lit (.bool false)], args := [d] }
  | _ => none }
def VerdictAllWrongFalsely : Prop := verdictAllRow.holds Try.pinned (OpenSpec.ofChange verdictAllWrong)

/-- 'roundhouselaw14.VerdictPicks': WHATEVER THE INPUT: true; the input reads as it did. -/
def verdictPicksSpec : ChangeSpec := { name := "verdictPicks", fn := fun _ => fun
  | [d1, d2] => { results := [.lit (.bool true)], args := [d1, d2] }
  | _ => none }
def verdictPicksRow : OpenClaim := { program := "ytocmeaamaecgeaa", sum := "f9c4889f37b95246ef84542dfcb623a74ffe831484c78122b53ca0e6cb2eb4d8", func := "roundhouse/roundhouselaw14.VerdictPicks", spec := "verdictPicks", unfollowed := true, recurses := true, apart := false }
def VerdictPicksSaid : Prop := verdictPicksRow.holds Try.pinned (OpenSpec.ofChange verdictPicksSpec)

/-- ITS FALSE NEIGHBOUR: 'it returns false'. Refute it at one input. -/
def verdictPicksWrong : ChangeSpec := { name := "verdictPicks", fn := fun _ => fun
  | [d1, d2] => { results := [.lit (.bool false)], args := [d1, d2] }
  | _ => none }
def VerdictPicksWrongFalsely : Prop := verdictPicksRow.holds Try.pinned (OpenSpec.ofChange verdictPicksWrong)

/- THE SECOND FORM. 'bulk': how many values and letters a reading holds, each counted each time it is reached (what is shared counts as often as it is met; a slice's spare places count too). A statement '..UptoSaid' is the law's where the arguments, and the package variables that the reading takes, are together of bulk at most 1048576: NARROWER than '..Said'. Prove '..Said' where nothing that the law and all that it calls make is longer than what came in: it says more and counts as full. Else prove '..UptoSaid'. A law counts once. -/
mutual
def uptoBulk {H : Type} : DataW H → Nat
  | .lit (.string bytes) => bytes.length + 1
  | .lit _ => 1
  | .nil => 1
  | .ptr d => uptoBulk d + 1
  | .slice elems spare => uptoBulkAll elems + uptoBulkAll spare + 1
  | .agg parts => uptoBulkAll parts + 1
  | .iface _ d => uptoBulk d + 1
  | .map entries => uptoBulkEntries entries + 1
  | .held _ => 1
def uptoBulkAll {H : Type} : List (DataW H) → Nat
  | [] => 0
  | d :: r => uptoBulk d + uptoBulkAll r
def uptoBulkEntries {H : Type} : List (Lit × DataW H) → Nat
  | [] => 0
  | x :: r => uptoBulkEntry x + uptoBulkEntries r
def uptoBulkEntry {H : Type} : Lit × DataW H → Nat
  | (.string bytes, d) => bytes.length + uptoBulk d + 1
  | (_, d) => uptoBulk d + 1
 end
def uptoSmall : (H : Type) → List (DataW H) → Bool := fun _ ds => decide (uptoBulkAll ds ≤ 1048576)
def OpenSpec.upto (s : _root_.Go.ChangeSpec) : _root_.Go.OpenSpec := { _root_.Go.OpenSpec.ofChange s with cond := some uptoSmall }

/-- 'roundhouselaw14.VerdictBoth', WHERE WHAT IT READS IS OF BULK AT MOST 1048576: true; the input reads as it did. -/
def verdictBothUptoRow : OpenClaim := { program := "ytocmeaamaecgeaa", sum := "f9c4889f37b95246ef84542dfcb623a74ffe831484c78122b53ca0e6cb2eb4d8", func := "roundhouse/roundhouselaw14.VerdictBoth", spec := "verdictBoth", unfollowed := true, recurses := true, apart := false, narrowed := true }
def VerdictBothUptoSaid : Prop := verdictBothUptoRow.holds Try.pinned (OpenSpec.upto verdictBothSpec)

/-- 'roundhouselaw14.VerdictChecks', WHERE WHAT IT READS IS OF BULK AT MOST 1048576: true; the input reads as it did. -/
def verdictChecksUptoRow : OpenClaim := { program := "ytocmeaamaecgeaa", sum := "f9c4889f37b95246ef84542dfcb623a74ffe831484c78122b53ca0e6cb2eb4d8", func := "roundhouse/roundhouselaw14.VerdictChecks", spec := "verdictChecks", unfollowed := true, recurses := true, apart := false, narrowed := true }
def VerdictChecksUptoSaid : Prop := verdictChecksUptoRow.holds Try.pinned (OpenSpec.upto verdictChecksSpec)

/-- 'roundhouselaw14.VerdictOrder', WHERE WHAT IT READS IS OF BULK AT MOST 1048576: true; the input reads as it did. -/
def verdictOrderUptoRow : OpenClaim := { program := "ytocmeaamaecgeaa", sum := "f9c4889f37b95246ef84542dfcb623a74ffe831484c78122b53ca0e6cb2eb4d8", func := "roundhouse/roundhouselaw14.VerdictOrder", spec := "verdictOrder", unfollowed := true, recurses := true, apart := false, narrowed := true }
def VerdictOrderUptoSaid : Prop := verdictOrderUptoRow.holds Try.pinned (OpenSpec.upto verdictOrderSpec)

/-- 'roundhouselaw14.VerdictSmall', WHERE WHAT IT READS IS OF BULK AT MOST 1048576: true; the input reads as it did. -/
def verdictSmallUptoRow : OpenClaim := { program := "ytocmeaamaecgeaa", sum := "f9c4889f37b95246ef84542dfcb623a74ffe831484c78122b53ca0e6cb2eb4d8", func := "roundhouse/roundhouselaw14.VerdictSmall", spec := "verdictSmall", unfollowed := true, recurses := true, apart := false, narrowed := true }
def VerdictSmallUptoSaid : Prop := verdictSmallUptoRow.holds Try.pinned (OpenSpec.upto verdictSmallSpec)

/-- 'roundhouselaw14.VerdictAll', WHERE WHAT IT READS IS OF BULK AT MOST 1048576: true; the input reads as it did. -/
def verdictAllUptoRow : OpenClaim := { program := "ytocmeaamaecgeaa", sum := "f9c4889f37b95246ef84542dfcb623a74ffe831484c78122b53ca0e6cb2eb4d8", func := "roundhouse/roundhouselaw14.VerdictAll", spec := "verdictAll", unfollowed := true, recurses := true, apart := false, narrowed := true }
def VerdictAllUptoSaid : Prop := verdictAllUptoRow.holds Try.pinned (OpenSpec.upto verdictAllSpec)

/-- 'roundhouselaw14.VerdictPicks', WHERE WHAT IT READS IS OF BULK AT MOST 1048576: true; the input reads as it did. -/
def verdictPicksUptoRow : OpenClaim := { program := "ytocmeaamaecgeaa", sum := "f9c4889f37b95246ef84542dfcb623a74ffe831484c78122b53ca0e6cb2eb4d8", func := "roundhouse/roundhouselaw14.VerdictPicks", spec := "verdictPicks", unfollowed := true, recurses := true, apart := false, narrowed := true }
def VerdictPicksUptoSaid : Prop := verdictPicksUptoRow.holds Try.pinned (OpenSpec.upto verdictPicksSpec)

end Rows
end Go.Proofs.Ytocmeaamaecgeaa
