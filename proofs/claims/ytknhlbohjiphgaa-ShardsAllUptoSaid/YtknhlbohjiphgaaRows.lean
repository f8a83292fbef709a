/-
  No cell of these rows narrows 'for every input' (looked for: loops, veiled, ifaces, maps, wideKeys, modest, calm, conditions, laid).
  DERIVED. THE GIVEN ROWS OF THIS SEAT. 7 by the template 'for every input the law returns true; each argument reads behind the call as it read before'; 0 by the template 'total and deterministic' (their statements: YtknhlbohjiphgaaTotals.lean).
  GIVEN WITH THE SEED: the statements are not yours to turn. If you find one false, say at which input.
  Laid BY PROGRAM, IN A SANDBOX (cutbox-rows.mjs): the forced cells as the released guide's own fill.sh prints them over the translation 14072e9992f4194b… (all of the seat's roots in one cut). By AI agents, Wed Nov 11 2026. No macro, syntax, notation, axiom, sorry.
-/
import Derived.Test.YtknhlbohjiphgaaChecked
import GoSem.Claim
import GoSem.ClaimJoined
import GoSem.ClaimMapViews
import Derived.JoinedTies
import Derived.KernelRfl
namespace Go.Proofs.Ytknhlbohjiphgaa
/- THE CELL 'sum', in the pinned program and in every row, IS THE sha256 OF THE DUMP (.gsa) THAT YtknhlbohjiphgaaProg.lean LOADS. Nothing in Lean hashes anything: it is a label: what it is worth is what the hold of that sum in a sandbox is worth. -/
noncomputable def Try.pinned : Pinned := { name := "ytknhlbohjiphgaa", sum := "14072e9992f4194b0bca6b67364eedd3007fd30294e829bb6b14bed073320a2b", checked := Try.checked }
namespace Rows
def none {H : Type} : Left H := { results := [], args := [] }

/-- 'roundhouselaw12.ShardsWhich': WHATEVER THE INPUT: true; the input reads as it did. -/
def shardsWhichSpec : ChangeSpec := { name := "shardsWhich", fn := fun _ => fun
  | [d1, d2] => { results := [.lit (.bool true)], args := [d1, d2] }
  | _ => none }
def shardsWhichRow : OpenClaim := { program := "ytknhlbohjiphgaa", sum := "14072e9992f4194b0bca6b67364eedd3007fd30294e829bb6b14bed073320a2b", func := "roundhouse/roundhouselaw12.ShardsWhich", spec := "shardsWhich", inPlace := ["internal/abi.NoEscape", "internal/bytealg.MakeNoZero"], apart := false }
def ShardsWhichSaid : Prop := shardsWhichRow.holds Try.pinned (OpenSpec.ofChange shardsWhichSpec)

/-- ITS FALSE NEIGHBOUR: 'it returns false'. Refute it at one input. -/
def shardsWhichWrong : ChangeSpec := { name := "shardsWhich", fn := fun _ => fun
  | [d1, d2] => { results := [.lit (.bool false)], args := [d1, d2] }
  | _ => none }
def ShardsWhichWrongFalsely : Prop := shardsWhichRow.holds Try.pinned (OpenSpec.ofChange shardsWhichWrong)

/-- 'roundhouselaw12.ShardsPiece': WHATEVER THE INPUT: true; the input reads as it did. -/
def shardsPieceSpec : ChangeSpec := { name := "shardsPiece", fn := fun _ => fun
  | [d1, d2] => { results := [.lit (.bool true)], args := [d1, d2] }
  | _ => none }
def shardsPieceRow : OpenClaim := { program := "ytknhlbohjiphgaa", sum := "14072e9992f4194b0bca6b67364eedd3007fd30294e829bb6b14bed073320a2b", func := "roundhouse/roundhouselaw12.ShardsPiece", spec := "shardsPiece", inPlace := ["internal/abi.NoEscape", "internal/bytealg.MakeNoZero"], apart := false }
def ShardsPieceSaid : Prop := shardsPieceRow.holds Try.pinned (OpenSpec.ofChange shardsPieceSpec)

/-- ITS FALSE NEIGHBOUR: 'it returns false'. Refute it at one input. -/
def shardsPieceWrong : ChangeSpec := { name := "shardsPiece", fn := fun _ => fun
  | [d1, d2] => { results := [.lit (.bool false)], args := [d1, d2] }
  | _ => none }
def ShardsPieceWrongFalsely : Prop := shardsPieceRow.holds Try.pinned (OpenSpec.ofChange shardsPieceWrong)

/-- 'roundhouselaw12.ShardsOne': WHATEVER THE INPUT: true; the input reads as it did. -/
def shardsOneSpec : ChangeSpec := { name := "shardsOne", fn := fun _ => fun
  | [d1, d2] => { results := [.lit (.bool true)], args := [d1, d2] }
  | _ => none }
def shardsOneRow : OpenClaim := { program := "ytknhlbohjiphgaa", sum := "14072e9992f4194b0bca6b67364eedd3007fd30294e829bb6b14bed073320a2b", func := "roundhouse/roundhouselaw12.ShardsOne", spec := "shardsOne", inPlace := ["internal/abi.NoEscape", "internal/bytealg.MakeNoZero"], apart := false }
def ShardsOneSaid : Prop := shardsOneRow.holds Try.pinned (OpenSpec.ofChange shardsOneSpec)

/-- ITS FALSE NEIGHBOUR: 'it returns false'. Refute it at one input. -/
def shardsOneWrong : ChangeSpec := { name := "shardsOne", fn := fun _ => fun
  | [d1, d2] => { results := [.lit (.bool false)], args := [d1, d2] }
  | _ => none }
def ShardsOneWrongFalsely : Prop := shardsOneRow.holds Try.pinned (OpenSpec.ofChange shardsOneWrong)

/-- 'roundhouselaw12.ShardsSpread': WHATEVER THE INPUT: true; the input reads as it did. -/
def shardsSpreadSpec : ChangeSpec := { name := "shardsSpread", fn := fun _ => fun
  | [d1, d2] => { results := [.lit (.bool true)], args := [d1, d2] }
  | _ => none }
def shardsSpreadRow : OpenClaim := { program := "ytknhlbohjiphgaa", sum := "14072e9992f4194b0bca6b67364eedd3007fd30294e829bb6b14bed073320a2b", func := "roundhouse/roundhouselaw12.ShardsSpread", spec := "shardsSpread", inPlace := ["internal/abi.NoEscape", "internal/bytealg.MakeNoZero"], apart := false }
def ShardsSpreadSaid : Prop := shardsSpreadRow.holds Try.pinned (OpenSpec.ofChange shardsSpreadSpec)

/-- ITS FALSE NEIGHBOUR: 'it returns false'. Refute it at one input. -/
def shardsSpreadWrong : ChangeSpec := { name := "shardsSpread", fn := fun _ => fun
  | [d1, d2] => { results := [.lit (.bool false)], args := [d1, d2] }
  | _ => none }
def ShardsSpreadWrongFalsely : Prop := shardsSpreadRow.holds Try.pinned (OpenSpec.ofChange shardsSpreadWrong)

/-- 'roundhouselaw12.ShardsAll': WHATEVER THE INPUT: true; the input reads as it did. -/
def shardsAllSpec : ChangeSpec := { name := "shardsAll", fn := fun _ => fun
  | [d1, d2, d3] => { results := [.lit (.bool true)], args := [d1, d2, d3] }
  | _ => none }
def shardsAllRow : OpenClaim := { program := "ytknhlbohjiphgaa", sum := "14072e9992f4194b0bca6b67364eedd3007fd30294e829bb6b14bed073320a2b", func := "roundhouse/roundhouselaw12.ShardsAll", spec := "shardsAll", inPlace := ["internal/abi.NoEscape", "internal/bytealg.MakeNoZero"], apart := false }
def ShardsAllSaid : Prop := shardsAllRow.holds Try.pinned (OpenSpec.ofChange shardsAllSpec)

/-- ITS FALSE NEIGHBOUR: 'it returns false'. Refute it at one input. -/
def shardsAllWrong : ChangeSpec := { name := "shardsAll", fn := fun _ => fun
  | [d1, d2, d3] => { results := [.lit (.bool false)], args := [d1, d2, d3] }
  | _ => none }
def ShardsAllWrongFalsely : Prop := shardsAllRow.holds Try.pinned (OpenSpec.ofChange shardsAllWrong)

/-- 'roundhouselaw12.ShardsCarve': WHATEVER THE INPUT: true; the input reads as it did. -/
def shardsCarveSpec : ChangeSpec := { name := "shardsCarve", fn := fun _ => fun
  | [d1, d2] => { results := [.lit (.bool true)], args := [d1, d2] }
  | _ => none }
def shardsCarveRow : OpenClaim := { program := "ytknhlbohjiphgaa", sum := "14072e9992f4194b0bca6b67364eedd3007fd30294e829bb6b14bed073320a2b", func := "roundhouse/roundhouselaw12.ShardsCarve", spec := "shardsCarve", inPlace := ["internal/abi.NoEscape", "internal/bytealg.MakeNoZero"], unfollowed := true, recurses := true, apart := false }
def ShardsCarveSaid : Prop := shardsCarveRow.holds Try.pinned (OpenSpec.ofChange shardsCarveSpec)

/-- ITS FALSE NEIGHBOUR: 'it returns false'. Refute it at one input. -/
def shardsCarveWrong : ChangeSpec := { name := "shardsCarve", fn := fun _ => fun
  | [d1, d2] => { results := [.lit (.bool false)], args := [d1, d2] }
  | _ => none }
def ShardsCarveWrongFalsely : Prop := shardsCarveRow.holds Try.pinned (OpenSpec.ofChange shardsCarveWrong)

/-- 'roundhouselaw12.ShardsReads': WHATEVER THE INPUT: true; the input reads as it did. -/
def shardsReadsSpec : ChangeSpec := { name := "shardsReads", fn := fun _ => fun
  | [d1, d2, d3] => { results := [.lit (.bool true)], args := [d1, d2, d3] }
  | _ => none }
def shardsReadsRow : OpenClaim := { program := "ytknhlbohjiphgaa", sum := "14072e9992f4194b0bca6b67364eedd3007fd30294e829bb6b14bed073320a2b", func := "roundhouse/roundhouselaw12.ShardsReads", spec := "shardsReads", inPlace := ["internal/abi.NoEscape", "internal/bytealg.MakeNoZero"], unfollowed := true, recurses := true, apart := false }
def ShardsReadsSaid : Prop := shardsReadsRow.holds Try.pinned (OpenSpec.ofChange shardsReadsSpec)

/-- ITS FALSE NEIGHBOUR: 'it returns false'. Refute it at one input. -/
def shardsReadsWrong : ChangeSpec := { name := "shardsReads", fn := fun _ => fun
  | [d1, d2, d3] => { results := [.lit (.bool false)], args := [d1, d2, d3] }
  | _ => none }
def ShardsReadsWrongFalsely : Prop := shardsReadsRow.holds Try.pinned (OpenSpec.ofChange shardsReadsWrong)

/- THE SECOND FORM. 'bulk': how many values and letters a reading holds, each counted each time it is reached (what is shared counts as often as it is met; a slice's spare places count too). A statement '..UptoSaid' is the law's where the arguments, and the package variables that the reading takes, are together of bulk at most 1048576: NARROWER than '..Said'. Prove '..Said' where nothing that the law and all that it calls make is longer than what came in: it says more and counts as full. Else prove '..UptoSaid'. A law counts once. -/
mutual
def uptoBulk {H : Type} : DataW H → Nat
  | .lit (.string bytes) => bytes.length + 1
  | .lit _ => 1
  | .nil => 1
  | .ptr d => uptoBulk d + 1
  | .slice elems spare => uptoBulkAll elems + uptoBulkAll spare + 1
  | .agg parts => uptoBulkAll parts + 1
  | .iface _ d => uptoBulk d + 1
  | .map entries => uptoBulkEntries entries + 1
  | .held _ => 1
def uptoBulkAll {H : Type} : List (DataW H) → Nat
  | [] => 0
  | d :: r => uptoBulk d + uptoBulkAll r
def uptoBulkEntries {H : Type} : List (Lit × DataW H) → Nat
  | [] => 0
  | x :: r => uptoBulkEntry x + uptoBulkEntries r
def uptoBulkEntry {H : Type} : Lit × DataW H → Nat
  | (.string bytes, d) => bytes.length + uptoBulk d + 1
  | (_, d) => uptoBulk d + 1
 end
def uptoSmall : (H : Type) → List (DataW H) → Bool := fun _ ds => decide (uptoBulkAll ds ≤ 1048576)
def OpenSpec.upto (s : _root_.Go.ChangeSpec) : _root_.Go.OpenSpec := { _root_.Go.OpenSpec.ofChange s with cond := some uptoSmall }

/-- 'roundhouselaw12.ShardsWhich', WHERE WHAT IT READS IS OF BULK AT MOST 1048576: true; the input reads as it did. -/
def shardsWhichUptoRow : OpenClaim := { program := "ytknhlbohjiphgaa", sum := "14072e9992f4194b0bca6b67364eedd3007fd30294e829bb6b14bed073320a2b", func := "roundhouse/roundhouselaw12.ShardsWhich", spec := "shardsWhich", inPlace := ["internal/abi.NoEscape", "internal/bytealg.MakeNoZero"], apart := false, narrowed := true }
def ShardsWhichUptoSaid : Prop := shardsWhichUptoRow.holds Try.pinned (OpenSpec.upto shardsWhichSpec)

/-- 'roundhouselaw12.ShardsPiece', WHERE WHAT IT READS IS OF BULK AT MOST 1048576: true; the input reads as it did. -/
def shardsPieceUptoRow : OpenClaim := { program := "ytknhlbohjiphgaa", sum := "14072e9992f4194b0bca6b67364eedd3007fd30294e829bb6b14bed073320a2b", func := "roundhouse/roundhouselaw12.ShardsPiece", spec := "shardsPiece", inPlace := ["internal/abi.NoEscape", "internal/bytealg.MakeNoZero"], apart := false, narrowed := true }
def ShardsPieceUptoSaid : Prop := shardsPieceUptoRow.holds Try.pinned (OpenSpec.upto shardsPieceSpec)

/-- 'roundhouselaw12.ShardsOne', WHERE WHAT IT READS IS OF BULK AT MOST 1048576: true; the input reads as it did. -/
def shardsOneUptoRow : OpenClaim := { program := "ytknhlbohjiphgaa", sum := "14072e9992f4194b0bca6b67364eedd3007fd30294e829bb6b14bed073320a2b", func := "roundhouse/roundhouselaw12.ShardsOne", spec := "shardsOne", inPlace := ["internal/abi.NoEscape", "internal/bytealg.MakeNoZero"], apart := false, narrowed := true }
def ShardsOneUptoSaid : Prop := shardsOneUptoRow.holds Try.pinned (OpenSpec.upto shardsOneSpec)

/-- 'roundhouselaw12.ShardsSpread', WHERE WHAT IT READS IS OF BULK AT MOST 1048576: true; the input reads as it did. -/
def shardsSpreadUptoRow : OpenClaim := { program := "ytknhlbohjiphgaa", sum := "14072e9992f4194b0bca6b67364eedd3007fd30294e829bb6b14bed073320a2b", func := "roundhouse/roundhouselaw12.ShardsSpread", spec := "shardsSpread", inPlace := ["internal/abi.NoEscape", "internal/bytealg.MakeNoZero"], apart := false, narrowed := true }
def ShardsSpreadUptoSaid : Prop := shardsSpreadUptoRow.holds Try.pinned (OpenSpec.upto shardsSpreadSpec)

/-- 'roundhouselaw12.ShardsAll', WHERE WHAT IT READS IS OF BULK AT MOST 1048576: true; the input reads as it did. -/
def shardsAllUptoRow : OpenClaim := { program := "ytknhlbohjiphgaa", sum := "14072e9992f4194b0bca6b67364eedd3007fd30294e829bb6b14bed073320a2b", func := "roundhouse/roundhouselaw12.ShardsAll", spec := "shardsAll", inPlace := ["internal/abi.NoEscape", "internal/bytealg.MakeNoZero"], apart := false, narrowed := true }
def ShardsAllUptoSaid : Prop := shardsAllUptoRow.holds Try.pinned (OpenSpec.upto shardsAllSpec)

/-- 'roundhouselaw12.ShardsCarve', WHERE WHAT IT READS IS OF BULK AT MOST 1048576: true; the input reads as it did. -/
def shardsCarveUptoRow : OpenClaim := { program := "ytknhlbohjiphgaa", sum := "14072e9992f4194b0bca6b67364eedd3007fd30294e829bb6b14bed073320a2b", func := "roundhouse/roundhouselaw12.ShardsCarve", spec := "shardsCarve", inPlace := ["internal/abi.NoEscape", "internal/bytealg.MakeNoZero"], unfollowed := true, recurses := true, apart := false, narrowed := true }
def ShardsCarveUptoSaid : Prop := shardsCarveUptoRow.holds Try.pinned (OpenSpec.upto shardsCarveSpec)

/-- 'roundhouselaw12.ShardsReads', WHERE WHAT IT READS IS OF BULK AT MOST 1048576: true; the input reads as it did. -/
def shardsReadsUptoRow : OpenClaim := { program := "ytknhlbohjiphgaa", sum := "14072e9992f4194b0bca6b67364eedd3007fd30294e829bb6b14bed073320a2b", func := "roundhouse/roundhouselaw12.ShardsReads", spec := "shardsReads", inPlace := ["internal/abi.NoEscape", "internal/bytealg.MakeNoZero"], unfollowed := true, recurses := true, apart := false, narrowed := true }
def ShardsReadsUptoSaid : Prop := shardsReadsUptoRow.holds Try.pinned (OpenSpec.upto shardsReadsSpec)

end Rows
end Go.Proofs.Ytknhlbohjiphgaa
