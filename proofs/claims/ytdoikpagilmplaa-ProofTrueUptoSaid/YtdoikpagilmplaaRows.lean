/-
  No cell of these rows narrows 'for every input' (looked for: loops, veiled, ifaces, maps, wideKeys, modest, calm, conditions, laid).
  DERIVED. THE GIVEN ROWS OF THIS SEAT. 8 by the template 'for every input the law returns true; each argument reads behind the call as it read before'; 0 by the template 'total and deterministic' (their statements: YtdoikpagilmplaaTotals.lean).
  GIVEN WITH THE SEED: the statements are not yours to turn. If you find one false, say at which input.
  Laid BY PROGRAM, IN A SANDBOX (cutbox-rows.mjs): the forced cells as the released guide's own fill.sh prints them over the translation 217d4c477b1cec99… (all of the seat's roots in one cut). By AI agents, Wed Nov 11 2026. No macro, syntax, notation, axiom, sorry.
-/
import Derived.Test.YtdoikpagilmplaaChecked
import GoSem.Claim
import GoSem.ClaimJoined
import GoSem.ClaimMapViews
import Derived.JoinedTies
import Derived.KernelRfl
namespace Go.Proofs.Ytdoikpagilmplaa
/- THE CELL 'sum', in the pinned program and in every row, IS THE sha256 OF THE DUMP (.gsa) THAT YtdoikpagilmplaaProg.lean LOADS. Nothing in Lean hashes anything: it is a label: what it is worth is what the hold of that sum in a sandbox is worth. -/
noncomputable def Try.pinned : Pinned := { name := "ytdoikpagilmplaa", sum := "217d4c477b1cec9973e7e884f841732ff87284fe3f9d7b5b9d51323816a3c69c", checked := Try.checked }
namespace Rows
def none {H : Type} : Left H := { results := [], args := [] }

/-- 'roundhouselaw22.ProofAt': WHATEVER THE INPUT: true; the input reads as it did. -/
def proofAtSpec : ChangeSpec := { name := "proofAt", fn := fun _ => fun
  | [d1, d2] => { results := [.lit (.bool true)], args := [d1, d2] }
  | _ => none }
def proofAtRow : OpenClaim := { program := "ytdoikpagilmplaa", sum := "217d4c477b1cec9973e7e884f841732ff87284fe3f9d7b5b9d51323816a3c69c", func := "roundhouse/roundhouselaw22.ProofAt", spec := "proofAt", inPlace := ["slices.overlaps[roundhouse/api.Pair]"], unfollowed := true, recurses := true, apart := false }
def ProofAtSaid : Prop := proofAtRow.holds Try.pinned (OpenSpec.ofChange proofAtSpec)

/-- ITS FALSE NEIGHBOUR: 'it returns false'. Refute it at one input. -/
def proofAtWrong : ChangeSpec := { name := "proofAt", fn := fun _ => fun
  | [d1, d2] => { results := [.lit (.bool false)], args := [d1, d2] }
  | _ => none }
def ProofAtWrongFalsely : Prop := proofAtRow.holds Try.pinned (OpenSpec.ofChange proofAtWrong)

/-- 'roundhouselaw22.ProofReads': WHATEVER THE INPUT: true; the input reads as it did. -/
def proofReadsSpec : ChangeSpec := { name := "proofReads", fn := fun _ => fun
  | [d1, d2] => { results := [.lit (.bool true)], args := [d1, d2] }
  | _ => none }
def proofReadsRow : OpenClaim := { program := "ytdoikpagilmplaa", sum := "217d4c477b1cec9973e7e884f841732ff87284fe3f9d7b5b9d51323816a3c69c", func := "roundhouse/roundhouselaw22.ProofReads", spec := "proofReads", inPlace := ["slices.overlaps[roundhouse/api.Pair]"], unfollowed := true, recurses := true, apart := false }
def ProofReadsSaid : Prop := proofReadsRow.holds Try.pinned (OpenSpec.ofChange proofReadsSpec)

/-- ITS FALSE NEIGHBOUR: 'it returns false'. Refute it at one input. -/
def proofReadsWrong : ChangeSpec := { name := "proofReads", fn := fun _ => fun
  | [d1, d2] => { results := [.lit (.bool false)], args := [d1, d2] }
  | _ => none }
def ProofReadsWrongFalsely : Prop := proofReadsRow.holds Try.pinned (OpenSpec.ofChange proofReadsWrong)

/-- 'roundhouselaw22.ProofTrue': WHATEVER THE INPUT: true; the input reads as it did. -/
def proofTrueSpec : ChangeSpec := { name := "proofTrue", fn := fun _ => fun
  | [d1, d2, d3, d4, d5] => { results := [.lit (.bool true)], args := [d1, d2, d3, d4, d5] }
  | _ => none }
def proofTrueRow : OpenClaim := { program := "ytdoikpagilmplaa", sum := "217d4c477b1cec9973e7e884f841732ff87284fe3f9d7b5b9d51323816a3c69c", func := "roundhouse/roundhouselaw22.ProofTrue", spec := "proofTrue", inPlace := ["slices.overlaps[roundhouse/api.Pair]"], unfollowed := true, recurses := true, apart := false }
def ProofTrueSaid : Prop := proofTrueRow.holds Try.pinned (OpenSpec.ofChange proofTrueSpec)

/-- ITS FALSE NEIGHBOUR: 'it returns false'. Refute it at one input. -/
def proofTrueWrong : ChangeSpec := { name := "proofTrue", fn := fun _ => fun
  | [d1, d2, d3, d4, d5] => { results := [.lit (.bool false)], args := [d1, d2, d3, d4, d5] }
  | _ => none }
def ProofTrueWrongFalsely : Prop := proofTrueRow.holds Try.pinned (OpenSpec.ofChange proofTrueWrong)

/-- 'roundhouselaw22.ProofOrders': WHATEVER THE INPUT: true; the input reads as it did. -/
def proofOrdersSpec : ChangeSpec := { name := "proofOrders", fn := fun _ => fun
  | [d] => { results := [.lit (.bool true)], args := [d] }
  | _ => none }
def proofOrdersRow : OpenClaim := { program := "ytdoikpagilmplaa", sum := "217d4c477b1cec9973e7e884f841732ff87284fe3f9d7b5b9d51323816a3c69c", func := "roundhouse/roundhouselaw22.ProofOrders", spec := "proofOrders", inPlace := ["slices.overlaps[roundhouse/api.Pair]"], unfollowed := true, recurses := true, apart := false }
def ProofOrdersSaid : Prop := proofOrdersRow.holds Try.pinned (OpenSpec.ofChange proofOrdersSpec)

/-- ITS FALSE NEIGHBOUR: 'it returns false'. Refute it at one input. -/
def proofOrdersWrong : ChangeSpec := { name := "proofOrders", fn := fun _ => fun
  | [d] => { results := [.lit (.bool false)], args := [d] }
  | _ => none }
def ProofOrdersWrongFalsely : Prop := proofOrdersRow.holds Try.pinned (OpenSpec.ofChange proofOrdersWrong)

/-- 'roundhouselaw22.ProofStands': WHATEVER THE INPUT: true; the input reads as it did. -/
def proofStandsSpec : ChangeSpec := { name := "proofStands", fn := fun _ => fun
  | [d1, d2] => { results := [.lit (.bool true)], args := [d1, d2] }
  | _ => none }
def proofStandsRow : OpenClaim := { program := "ytdoikpagilmplaa", sum := "217d4c477b1cec9973e7e884f841732ff87284fe3f9d7b5b9d51323816a3c69c", func := "roundhouse/roundhouselaw22.ProofStands", spec := "proofStands", inPlace := ["slices.overlaps[roundhouse/api.Pair]"], unfollowed := true, recurses := true, apart := false }
def ProofStandsSaid : Prop := proofStandsRow.holds Try.pinned (OpenSpec.ofChange proofStandsSpec)

/-- ITS FALSE NEIGHBOUR: 'it returns false'. Refute it at one input. -/
def proofStandsWrong : ChangeSpec := { name := "proofStands", fn := fun _ => fun
  | [d1, d2] => { results := [.lit (.bool false)], args := [d1, d2] }
  | _ => none }
def ProofStandsWrongFalsely : Prop := proofStandsRow.holds Try.pinned (OpenSpec.ofChange proofStandsWrong)

/-- 'roundhouselaw22.ProofClear': WHATEVER THE INPUT: true; the input reads as it did. -/
def proofClearSpec : ChangeSpec := { name := "proofClear", fn := fun _ => fun
  | [d1, d2] => { results := [.lit (.bool true)], args := [d1, d2] }
  | _ => none }
def proofClearRow : OpenClaim := { program := "ytdoikpagilmplaa", sum := "217d4c477b1cec9973e7e884f841732ff87284fe3f9d7b5b9d51323816a3c69c", func := "roundhouse/roundhouselaw22.ProofClear", spec := "proofClear", inPlace := ["slices.overlaps[roundhouse/api.Pair]"], unfollowed := true, recurses := true, apart := false }
def ProofClearSaid : Prop := proofClearRow.holds Try.pinned (OpenSpec.ofChange proofClearSpec)

/-- ITS FALSE NEIGHBOUR: 'it returns false'. Refute it at one input. -/
def proofClearWrong : ChangeSpec := { name := "proofClear", fn := fun _ => fun
  | [d1, d2] => { results := [.lit (.bool false)], args := [d1, d2] }
  | _ => none }
def ProofClearWrongFalsely : Prop := proofClearRow.holds Try.pinned (OpenSpec.ofChange proofClearWrong)

/-- 'roundhouselaw22.ProofPart': WHATEVER THE INPUT: true; the input reads as it did. -/
def proofPartSpec : ChangeSpec := { name := "proofPart", fn := fun _ => fun
  | [d1, d2, d3] => { results := [.lit (.bool true)], args := [d1, d2, d3] }
  | _ => none }
def proofPartRow : OpenClaim := { program := "ytdoikpagilmplaa", sum := "217d4c477b1cec9973e7e884f841732ff87284fe3f9d7b5b9d51323816a3c69c", func := "roundhouse/roundhouselaw22.ProofPart", spec := "proofPart", inPlace := ["slices.overlaps[roundhouse/api.Pair]"], unfollowed := true, recurses := true, apart := false }
def ProofPartSaid : Prop := proofPartRow.holds Try.pinned (OpenSpec.ofChange proofPartSpec)

/-- ITS FALSE NEIGHBOUR: 'it returns false'. Refute it at one input. -/
def proofPartWrong : ChangeSpec := { name := "proofPart", fn := fun _ => fun
  | [d1, d2, d3] => { results := [.lit (.bool false)], args := [d1, d2, d3] }
  | _ => none }
def ProofPartWrongFalsely : Prop := proofPartRow.holds Try.pinned (OpenSpec.ofChange proofPartWrong)

/-- 'roundhouselaw22.ProofLater': WHATEVER THE INPUT: true; the input reads as it did. -/
def proofLaterSpec : ChangeSpec := { name := "proofLater", fn := fun _ => fun
  | [d1, d2, d3, d4] => { results := [.lit (.bool true)], args := [d1, d2, d3, d4] }
  | _ => none }
def proofLaterRow : OpenClaim := { program := "ytdoikpagilmplaa", sum := "217d4c477b1cec9973e7e884f841732ff87284fe3f9d7b5b9d51323816a3c69c", func := "roundhouse/roundhouselaw22.ProofLater", spec := "proofLater", inPlace := ["slices.overlaps[roundhouse/api.Pair]"], unfollowed := true, recurses := true, apart := false }
def ProofLaterSaid : Prop := proofLaterRow.holds Try.pinned (OpenSpec.ofChange proofLaterSpec)

/-- ITS FALSE NEIGHBOUR: 'it returns false'. Refute it at one input. -/
def proofLaterWrong : ChangeSpec := { name := "proofLater", fn := fun _ => fun
  | [d1, d2, d3, d4] => { results := [.lit (.bool false)], args := [d1, d2, d3, d4] }
  | _ => none }
def ProofLaterWrongFalsely : Prop := proofLaterRow.holds Try.pinned (OpenSpec.ofChange proofLaterWrong)

/- THE SECOND FORM. 'bulk': how many values and letters a reading holds, each counted each time it is reached (what is shared counts as often as it is met; a slice's spare places count too). A statement '..UptoSaid' is the law's where the arguments, and the package variables that the reading takes, are together of bulk at most 1048576: NARROWER than '..Said'. Prove '..Said' where nothing that the law and all that it calls make is longer than what came in: it says more and counts as full. Else prove '..UptoSaid'. A law counts once. -/
mutual
def uptoBulk {H : Type} : DataW H → Nat
  | .lit (.string bytes) => bytes.length + 1
  | .lit _ => 1
  | .nil => 1
  | .ptr d => uptoBulk d + 1
  | .slice elems spare => uptoBulkAll elems + uptoBulkAll spare + 1
  | .agg parts => uptoBulkAll parts + 1
  | .iface _ d => uptoBulk d + 1
  | .map entries => uptoBulkEntries entries + 1
  | .held _ => 1
def uptoBulkAll {H : Type} : List (DataW H) → Nat
  | [] => 0
  | d :: r => uptoBulk d + uptoBulkAll r
def uptoBulkEntries {H : Type} : List (Lit × DataW H) → Nat
  | [] => 0
  | x :: r => uptoBulkEntry x + uptoBulkEntries r
def uptoBulkEntry {H : Type} : Lit × DataW H → Nat
  | (.string bytes, d) => bytes.length + uptoBulk d + 1
  | (_, d) => uptoBulk d + 1
 end
def uptoSmall : (H : Type) → List (DataW H) → Bool := fun _ ds => decide (uptoBulkAll ds ≤ 1048576)
def OpenSpec.upto (s : _root_.Go.ChangeSpec) : _root_.Go.OpenSpec := { _root_.Go.OpenSpec.ofChange s with cond := some uptoSmall }

/-- 'roundhouselaw22.ProofAt', WHERE WHAT IT READS IS OF BULK AT MOST 1048576: true; the input reads as it did. -/
def proofAtUptoRow : OpenClaim := { program := "ytdoikpagilmplaa", sum := "217d4c477b1cec9973e7e884f841732ff87284fe3f9d7b5b9d51323816a3c69c", func := "roundhouse/roundhouselaw22.ProofAt", spec := "proofAt", inPlace := ["slices.overlaps[roundhouse/api.Pair]"], unfollowed := true, recurses := true, apart := false, narrowed := true }
def ProofAtUptoSaid : Prop := proofAtUptoRow.holds Try.pinned (OpenSpec.upto proofAtSpec)

/-- 'roundhouselaw22.ProofReads', WHERE WHAT IT READS IS OF BULK AT MOST 1048576: true; the input reads as it did. -/
def proofReadsUptoRow : OpenClaim := { program := "ytdoikpagilmplaa", sum := "217d4c477b1cec9973e7e884f841732ff87284fe3f9d7b5b9d51323816a3c69c", func := "roundhouse/roundhouselaw22.ProofReads", spec := "proofReads", inPlace := ["slices.overlaps[roundhouse/api.Pair]"], unfollowed := true, recurses := true, apart := false, narrowed := true }
def ProofReadsUptoSaid : Prop := proofReadsUptoRow.holds Try.pinned (OpenSpec.upto proofReadsSpec)

/-- 'roundhouselaw22.ProofTrue', WHERE WHAT IT READS IS OF BULK AT MOST 1048576: true; the input reads as it did. -/
def proofTrueUptoRow : OpenClaim := { program := "ytdoikpagilmplaa", sum := "217d4c477b1cec9973e7e884f841732ff87284fe3f9d7b5b9d51323816a3c69c", func := "roundhouse/roundhouselaw22.ProofTrue", spec := "proofTrue", inPlace := ["slices.overlaps[roundhouse/api.Pair]"], unfollowed := true, recurses := true, apart := false, narrowed := true }
def ProofTrueUptoSaid : Prop := proofTrueUptoRow.holds Try.pinned (OpenSpec.upto proofTrueSpec)

/-- 'roundhouselaw22.ProofOrders', WHERE WHAT IT READS IS OF BULK AT MOST 1048576: true; the input reads as it did. -/
def proofOrdersUptoRow : OpenClaim := { program := "ytdoikpagilmplaa", sum := "217d4c477b1cec9973e7e884f841732ff87284fe3f9d7b5b9d51323816a3c69c", func := "roundhouse/roundhouselaw22.ProofOrders", spec := "proofOrders", inPlace := ["slices.overlaps[roundhouse/api.Pair]"], unfollowed := true, recurses := true, apart := false, narrowed := true }
def ProofOrdersUptoSaid : Prop := proofOrdersUptoRow.holds Try.pinned (OpenSpec.upto proofOrdersSpec)

/-- 'roundhouselaw22.ProofStands', WHERE WHAT IT READS IS OF BULK AT MOST 1048576: true; the input reads as it did. -/
def proofStandsUptoRow : OpenClaim := { program := "ytdoikpagilmplaa", sum := "217d4c477b1cec9973e7e884f841732ff87284fe3f9d7b5b9d51323816a3c69c", func := "roundhouse/roundhouselaw22.ProofStands", spec := "proofStands", inPlace := ["slices.overlaps[roundhouse/api.Pair]"], unfollowed := true, recurses := true, apart := false, narrowed := true }
def ProofStandsUptoSaid : Prop := proofStandsUptoRow.holds Try.pinned (OpenSpec.upto proofStandsSpec)

/-- 'roundhouselaw22.ProofClear', WHERE WHAT IT READS IS OF BULK AT MOST 1048576: true; the input reads as it did. -/
def proofClearUptoRow : OpenClaim := { program := "ytdoikpagilmplaa", sum := "217d4c477b1cec9973e7e884f841732ff87284fe3f9d7b5b9d51323816a3c69c", func := "roundhouse/roundhouselaw22.ProofClear", spec := "proofClear", inPlace := ["slices.overlaps[roundhouse/api.Pair]"], unfollowed := true, recurses := true, apart := false, narrowed := true }
def ProofClearUptoSaid : Prop := proofClearUptoRow.holds Try.pinned (OpenSpec.upto proofClearSpec)

/-- 'roundhouselaw22.ProofPart', WHERE WHAT IT READS IS OF BULK AT MOST 1048576: true; the input reads as it did. -/
def proofPartUptoRow : OpenClaim := { program := "ytdoikpagilmplaa", sum := "217d4c477b1cec9973e7e884f841732ff87284fe3f9d7b5b9d51323816a3c69c", func := "roundhouse/roundhouselaw22.ProofPart", spec := "proofPart", inPlace := ["slices.overlaps[roundhouse/api.Pair]"], unfollowed := true, recurses := true, apart := false, narrowed := true }
def ProofPartUptoSaid : Prop := proofPartUptoRow.holds Try.pinned (OpenSpec.upto proofPartSpec)

/-- 'roundhouselaw22.ProofLater', WHERE WHAT IT READS IS OF BULK AT MOST 1048576: true; the input reads as it did. -/
def proofLaterUptoRow : OpenClaim := { program := "ytdoikpagilmplaa", sum := "217d4c477b1cec9973e7e884f841732ff87284fe3f9d7b5b9d51323816a3c69c", func := "roundhouse/roundhouselaw22.ProofLater", spec := "proofLater", inPlace := ["slices.overlaps[roundhouse/api.Pair]"], unfollowed := true, recurses := true, apart := false, narrowed := true }
def ProofLaterUptoSaid : Prop := proofLaterUptoRow.holds Try.pinned (OpenSpec.upto proofLaterSpec)

end Rows
end Go.Proofs.Ytdoikpagilmplaa
