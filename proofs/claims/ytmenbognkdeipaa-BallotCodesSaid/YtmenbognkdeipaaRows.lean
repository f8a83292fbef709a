/-
  No cell of these rows narrows 'for every input' (looked for: loops, veiled, ifaces, maps, wideKeys, modest, calm, conditions, laid).
  DERIVED. THE GIVEN ROWS OF THIS SEAT. 7 by the template 'for every input the law returns true; each argument reads behind the call as it read before'; 0 by the template 'total and deterministic' (their statements: YtmenbognkdeipaaTotals.lean).
  GIVEN WITH THE SEED: the statements are not yours to turn. If you find one false, say at which input.
  Laid BY PROGRAM, IN A SANDBOX (cutbox-rows.mjs): the forced cells as the released guide's own fill.sh prints them over the translation 0cf81528df464e61… (all of the seat's roots in one cut). By AI agents, Wed Nov 11 2026. No macro, syntax, notation, axiom, sorry.
-/
import Derived.Test.YtmenbognkdeipaaChecked
import GoSem.Claim
import GoSem.ClaimJoined
import GoSem.ClaimMapViews
import Derived.JoinedTies
import Derived.KernelRfl
namespace Go.Proofs.Ytmenbognkdeipaa
/- THE CELL 'sum', in the pinned program and in every row, IS THE sha256 OF THE DUMP (.gsa) THAT YtmenbognkdeipaaProg.lean LOADS. Nothing in Lean hashes anything: it is a label: what it is worth is what the hold of that sum in a sandbox is worth. -/
noncomputable def Try.pinned : Pinned := { name := "ytmenbognkdeipaa", sum := "0cf81528df464e61a03b9765c930404dab216e8ad9636d537d597269bf7b8809", checked := Try.checked }
namespace Rows
def none {H : Type} : Left H := { results := [], args := [] }

/-- 'roundhouselaw05.FrameMessages': WHATEVER THE INPUT: true; the input reads as it did. -/
def frameMessagesSpec : ChangeSpec := { name := "frameMessages", fn := fun _ => fun
  | [d1, d2] => { results := [.lit (.bool true)], args := [d1, d2] }
  | _ => none }
def frameMessagesRow : OpenClaim := { program := "ytmenbognkdeipaa", sum := "0cf81528df464e61a03b9765c930404dab216e8ad9636d537d597269bf7b8809", func := "roundhouse/roundhouselaw05.FrameMessages", spec := "frameMessages", apart := false }
def FrameMessagesSaid : Prop := frameMessagesRow.holds Try.pinned (OpenSpec.ofChange frameMessagesSpec)

/-- ITS FALSE NEIGHBOUR: 'it returns false'. Refute it at one input. -/
def frameMessagesWrong : ChangeSpec := { name := "frameMessages", fn := fun _ => fun
  | [d1, d2] => { results := [.lit (.bool false)], args := [d1, d2] }
  | _ => none }
def FrameMessagesWrongFalsely : Prop := frameMessagesRow.holds Try.pinned (OpenSpec.ofChange frameMessagesWrong)

/-- 'roundhouselaw05.FrameSpoiled': WHATEVER THE INPUT: true; the input reads as it did. -/
def frameSpoiledSpec : ChangeSpec := { name := "frameSpoiled", fn := fun _ => fun
  | [d1, d2, d3] => { results := [.lit (.bool true)], args := [d1, d2, d3] }
  | _ => none }
def frameSpoiledRow : OpenClaim := { program := "ytmenbognkdeipaa", sum := "0cf81528df464e61a03b9765c930404dab216e8ad9636d537d597269bf7b8809", func := "roundhouse/roundhouselaw05.FrameSpoiled", spec := "frameSpoiled", apart := false }
def FrameSpoiledSaid : Prop := frameSpoiledRow.holds Try.pinned (OpenSpec.ofChange frameSpoiledSpec)

/-- ITS FALSE NEIGHBOUR: 'it returns false'. Refute it at one input. -/
def frameSpoiledWrong : ChangeSpec := { name := "frameSpoiled", fn := fun _ => fun
  | [d1, d2, d3] => { results := [.lit (.bool false)], args := [d1, d2, d3] }
  | _ => none }
def FrameSpoiledWrongFalsely : Prop := frameSpoiledRow.holds Try.pinned (OpenSpec.ofChange frameSpoiledWrong)

/-- 'roundhouselaw13.BallotCodes': WHATEVER THE INPUT: true; the input reads as it did. -/
def ballotCodesSpec : ChangeSpec := { name := "ballotCodes", fn := fun _ => fun
  | [d1, d2] => { results := [.lit (.bool true)], args := [d1, d2] }
  | _ => none }
def ballotCodesRow : OpenClaim := { program := "ytmenbognkdeipaa", sum := "0cf81528df464e61a03b9765c930404dab216e8ad9636d537d597269bf7b8809", func := "roundhouse/roundhouselaw13.BallotCodes", spec := "ballotCodes", unfollowed := true, recurses := true, apart := false }
def BallotCodesSaid : Prop := ballotCodesRow.holds Try.pinned (OpenSpec.ofChange ballotCodesSpec)

/-- ITS FALSE NEIGHBOUR: 'it returns false'. Refute it at one input. -/
def ballotCodesWrong : ChangeSpec := { name := "ballotCodes", fn := fun _ => fun
  | [d1, d2] => { results := [.lit (.bool false)], args := [d1, d2] }
  | _ => none }
def BallotCodesWrongFalsely : Prop := ballotCodesRow.holds Try.pinned (OpenSpec.ofChange ballotCodesWrong)

/-- 'roundhouselaw05.FrameStates': WHATEVER THE INPUT: true; the input reads as it did. -/
def frameStatesSpec : ChangeSpec := { name := "frameStates", fn := fun _ => fun
  | [d1, d2] => { results := [.lit (.bool true)], args := [d1, d2] }
  | _ => none }
def frameStatesRow : OpenClaim := { program := "ytmenbognkdeipaa", sum := "0cf81528df464e61a03b9765c930404dab216e8ad9636d537d597269bf7b8809", func := "roundhouse/roundhouselaw05.FrameStates", spec := "frameStates", unfollowed := true, recurses := true, apart := false }
def FrameStatesSaid : Prop := frameStatesRow.holds Try.pinned (OpenSpec.ofChange frameStatesSpec)

/-- ITS FALSE NEIGHBOUR: 'it returns false'. Refute it at one input. -/
def frameStatesWrong : ChangeSpec := { name := "frameStates", fn := fun _ => fun
  | [d1, d2] => { results := [.lit (.bool false)], args := [d1, d2] }
  | _ => none }
def FrameStatesWrongFalsely : Prop := frameStatesRow.holds Try.pinned (OpenSpec.ofChange frameStatesWrong)

/-- 'roundhouselaw05.FrameBatches': WHATEVER THE INPUT: true; the input reads as it did. -/
def frameBatchesSpec : ChangeSpec := { name := "frameBatches", fn := fun _ => fun
  | [d1, d2] => { results := [.lit (.bool true)], args := [d1, d2] }
  | _ => none }
def frameBatchesRow : OpenClaim := { program := "ytmenbognkdeipaa", sum := "0cf81528df464e61a03b9765c930404dab216e8ad9636d537d597269bf7b8809", func := "roundhouse/roundhouselaw05.FrameBatches", spec := "frameBatches", apart := false }
def FrameBatchesSaid : Prop := frameBatchesRow.holds Try.pinned (OpenSpec.ofChange frameBatchesSpec)

/-- ITS FALSE NEIGHBOUR: 'it returns false'. Refute it at one input. -/
def frameBatchesWrong : ChangeSpec := { name := "frameBatches", fn := fun _ => fun
  | [d1, d2] => { results := [.lit (.bool false)], args := [d1, d2] }
  | _ => none }
def FrameBatchesWrongFalsely : Prop := frameBatchesRow.holds Try.pinned (OpenSpec.ofChange frameBatchesWrong)

/-- 'roundhouselaw05.FrameTxns': WHATEVER THE INPUT: true; the input reads as it did. -/
def frameTxnsSpec : ChangeSpec := { name := "frameTxns", fn := fun _ => fun
  | [d1, d2] => { results := [.lit (.bool true)], args := [d1, d2] }
  | _ => none }
def frameTxnsRow : OpenClaim := { program := "ytmenbognkdeipaa", sum := "0cf81528df464e61a03b9765c930404dab216e8ad9636d537d597269bf7b8809", func := "roundhouse/roundhouselaw05.FrameTxns", spec := "frameTxns", unfollowed := true, recurses := true, apart := false }
def FrameTxnsSaid : Prop := frameTxnsRow.holds Try.pinned (OpenSpec.ofChange frameTxnsSpec)

/-- ITS FALSE NEIGHBOUR: 'it returns false'. Refute it at one input. -/
def frameTxnsWrong : ChangeSpec := { name := "frameTxns", fn := fun _ => fun
  | [d1, d2] => { results := [.lit (.bool false)], args := [d1, d2] }
  | _ => none }
def FrameTxnsWrongFalsely : Prop := frameTxnsRow.holds Try.pinned (OpenSpec.ofChange frameTxnsWrong)

/-- 'roundhouselaw05.FrameBack': WHATEVER THE INPUT: true; the input reads as it did. -/
def frameBackSpec : ChangeSpec := { name := "frameBack", fn := fun _ => fun
  | [d1, d2, d3, d4] => { results := [.lit (.bool true)], args := [d1, d2, d3, d4] }
  | _ => none }
def frameBackRow : OpenClaim := { program := "ytmenbognkdeipaa", sum := "0cf81528df464e61a03b9765c930404dab216e8ad9636d537d597269bf7b8809", func := "roundhouse/roundhouselaw05.FrameBack", spec := "frameBack", unfollowed := true, recurses := true, apart := false }
def FrameBackSaid : Prop := frameBackRow.holds Try.pinned (OpenSpec.ofChange frameBackSpec)

/-- ITS FALSE NEIGHBOUR: 'it returns false'. Refute it at one input. -/
def frameBackWrong : ChangeSpec := { name := "frameBack", fn := fun _ => fun
  | [d1, d2, d3, d4] => { results := [.lit (.bool false)], args := [d1, d2, d3, d4] }
  | _ => none }
def FrameBackWrongFalsely : Prop := frameBackRow.holds Try.pinned (OpenSpec.ofChange frameBackWrong)

/- THE SECOND FORM. 'bulk': how many values and letters a reading holds, each counted each time it is reached (what is shared counts as often as it is met; a slice's spare places count too). A statement '..UptoSaid' is the law's where the arguments, and the package variables that the reading takes, are together of bulk at most 1048576: NARROWER than '..Said'. Prove '..Said' where nothing that the law and all that it calls make is longer than what came in: it says more and counts as full. Else prove '..UptoSaid'. A law counts once. -/
mutual
def uptoBulk {H : Type} : DataW H → Nat
  | .lit (.string bytes) => bytes.length + 1
  | .lit _ => 1
  | .nil => 1
  | .ptr d => uptoBulk d + 1
  | .slice elems spare => uptoBulkAll elems + uptoBulkAll spare + 1
  | .agg parts => uptoBulkAll parts + 1
  | .iface _ d => uptoBulk d + 1
  | .map entries => uptoBulkEntries entries + 1
  | .held _ => 1
def uptoBulkAll {H : Type} : List (DataW H) → Nat
  | [] => 0
  | d :: r => uptoBulk d + uptoBulkAll r
def uptoBulkEntries {H : Type} : List (Lit × DataW H) → Nat
  | [] => 0
  | x :: r => uptoBulkEntry x + uptoBulkEntries r
def uptoBulkEntry {H : Type} : Lit × DataW H → Nat
  | (.string bytes, d) => bytes.length + uptoBulk d + 1
  | (_, d) => uptoBulk d + 1
 end
def uptoSmall : (H : Type) → List (DataW H) → Bool := fun _ ds => decide (uptoBulkAll ds ≤ 1048576)
def OpenSpec.upto (s : _root_.Go.ChangeSpec) : _root_.Go.OpenSpec := { _root_.Go.OpenSpec.ofChange s with cond := some uptoSmall }

/-- 'roundhouselaw05.FrameMessages', WHERE WHAT IT READS IS OF BULK AT MOST 1048576: true; the input reads as it did. -/
def frameMessagesUptoRow : OpenClaim := { program := "ytmenbognkdeipaa", sum := "0cf81528df464e61a03b9765c930404dab216e8ad9636d537d597269bf7b8809", func := "roundhouse/roundhouselaw05.FrameMessages", spec := "frameMessages", apart := false, narrowed := true }
def FrameMessagesUptoSaid : Prop := frameMessagesUptoRow.holds Try.pinned (OpenSpec.upto frameMessagesSpec)

/-- 'roundhouselaw05.FrameSpoiled', WHERE WHAT IT READS IS OF BULK AT MOST 1048576: true; the input reads as it did. -/
def frameSpoiledUptoRow : OpenClaim := { program := "ytmenbognkdeipaa", sum := "0cf81528df464e61a03b9765c930404dab216e8ad9636d537d597269bf7b8809", func := "roundhouse/roundhouselaw05.FrameSpoiled", spec := "frameSpoiled", apart := false, narrowed := true }
def FrameSpoiledUptoSaid : Prop := frameSpoiledUptoRow.holds Try.pinned (OpenSpec.upto frameSpoiledSpec)

/-- 'roundhouselaw13.BallotCodes', WHERE WHAT IT READS IS OF BULK AT MOST 1048576: true; the input reads as it did. -/
def ballotCodesUptoRow : OpenClaim := { program := "ytmenbognkdeipaa", sum := "0cf81528df464e61a03b9765c930404dab216e8ad9636d537d597269bf7b8809", func := "roundhouse/roundhouselaw13.BallotCodes", spec := "ballotCodes", unfollowed := true, recurses := true, apart := false, narrowed := true }
def BallotCodesUptoSaid : Prop := ballotCodesUptoRow.holds Try.pinned (OpenSpec.upto ballotCodesSpec)

/-- 'roundhouselaw05.FrameStates', WHERE WHAT IT READS IS OF BULK AT MOST 1048576: true; the input reads as it did. -/
def frameStatesUptoRow : OpenClaim := { program := "ytmenbognkdeipaa", sum := "0cf81528df464e61a03b9765c930404dab216e8ad9636d537d597269bf7b8809", func := "roundhouse/roundhouselaw05.FrameStates", spec := "frameStates", unfollowed := true, recurses := true, apart := false, narrowed := true }
def FrameStatesUptoSaid : Prop := frameStatesUptoRow.holds Try.pinned (OpenSpec.upto frameStatesSpec)

/-- 'roundhouselaw05.FrameBatches', WHERE WHAT IT READS IS OF BULK AT MOST 1048576: true; the input reads as it did. -/
def frameBatchesUptoRow : OpenClaim := { program := "ytmenbognkdeipaa", sum := "0cf81528df464e61a03b9765c930404dab216e8ad9636d537d597269bf7b8809", func := "roundhouse/roundhouselaw05.FrameBatches", spec := "frameBatches", apart := false, narrowed := true }
def FrameBatchesUptoSaid : Prop := frameBatchesUptoRow.holds Try.pinned (OpenSpec.upto frameBatchesSpec)

/-- 'roundhouselaw05.FrameTxns', WHERE WHAT IT READS IS OF BULK AT MOST 1048576: true; the input reads as it did. -/
def frameTxnsUptoRow : OpenClaim := { program := "ytmenbognkdeipaa", sum := "0cf81528df464e61a03b9765c930404dab216e8ad9636d537d597269bf7b8809", func := "roundhouse/roundhouselaw05.FrameTxns", spec := "frameTxns", unfollowed := true, recurses := true, apart := false, narrowed := true }
def FrameTxnsUptoSaid : Prop := frameTxnsUptoRow.holds Try.pinned (OpenSpec.upto frameTxnsSpec)

/-- 'roundhouselaw05.FrameBack', WHERE WHAT IT READS IS OF BULK AT MOST 1048576: true; the input reads as it did. -/
def frameBackUptoRow : OpenClaim := { program := "ytmenbognkdeipaa", sum := "0cf81528df464e61a03b9765c930404dab216e8ad9636d537d597269bf7b8809", func := "roundhouse/roundhouselaw05.FrameBack", spec := "frameBack", unfollowed := true, recurses := true, apart := false, narrowed := true }
def FrameBackUptoSaid : Prop := frameBackUptoRow.holds Try.pinned (OpenSpec.upto frameBackSpec)

end Rows
end Go.Proofs.Ytmenbognkdeipaa
