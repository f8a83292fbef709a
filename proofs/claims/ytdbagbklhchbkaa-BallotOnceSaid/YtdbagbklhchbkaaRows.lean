/-
  No cell of these rows narrows 'for every input' (looked for: loops, veiled, ifaces, maps, wideKeys, modest, calm, conditions, laid).
  DERIVED. THE GIVEN ROWS OF THIS SEAT. 11 by the template 'for every input the law returns true; each argument reads behind the call as it read before'; 0 by the template 'total and deterministic' (their statements: YtdbagbklhchbkaaTotals.lean).
  GIVEN WITH THE SEED: the statements are not yours to turn. If you find one false, say at which input.
  Laid BY PROGRAM, IN A SANDBOX (cutbox-rows.mjs): the forced cells as the released guide's own fill.sh prints them over the translation 952ec5876321d344… (all of the seat's roots in one cut). By AI agents, Wed Nov 11 2026. No macro, syntax, notation, axiom, sorry.
-/
import Derived.Test.YtdbagbklhchbkaaChecked
import GoSem.Claim
import GoSem.ClaimJoined
import GoSem.ClaimMapViews
import Derived.JoinedTies
import Derived.KernelRfl
namespace Go.Proofs.Ytdbagbklhchbkaa
/- THE CELL 'sum', in the pinned program and in every row, IS THE sha256 OF THE DUMP (.gsa) THAT YtdbagbklhchbkaaProg.lean LOADS. Nothing in Lean hashes anything: it is a label: what it is worth is what the hold of that sum in a sandbox is worth. -/
noncomputable def Try.pinned : Pinned := { name := "ytdbagbklhchbkaa", sum := "952ec5876321d344c4669e5a8a37be5037ef29f5dcf6928a51daf0eb4a8cfe98", checked := Try.checked }
namespace Rows
def none {H : Type} : Left H := { results := [], args := [] }

/-- 'roundhouselaw13.BallotLess': WHATEVER THE INPUT: true; the input reads as it did. -/
def ballotLessSpec : ChangeSpec := { name := "ballotLess", fn := fun _ => fun
  | [d1, d2, d3] => { results := [.lit (.bool true)], args := [d1, d2, d3] }
  | _ => none }
def ballotLessRow : OpenClaim := { program := "ytdbagbklhchbkaa", sum := "952ec5876321d344c4669e5a8a37be5037ef29f5dcf6928a51daf0eb4a8cfe98", func := "roundhouse/roundhouselaw13.BallotLess", spec := "ballotLess", apart := false }
def BallotLessSaid : Prop := ballotLessRow.holds Try.pinned (OpenSpec.ofChange ballotLessSpec)

/-- ITS FALSE NEIGHBOUR: 'it returns false'. Refute it at one input. -/
def ballotLessWrong : ChangeSpec := { name := "ballotLess", fn := fun _ => fun
  | [d1, d2, d3] => { results := [.lit (.bool false)], args := [d1, d2, d3] }
  | _ => none }
def BallotLessWrongFalsely : Prop := ballotLessRow.holds Try.pinned (OpenSpec.ofChange ballotLessWrong)

/-- 'roundhouselaw13.BallotVows': WHATEVER THE INPUT: true; the input reads as it did. -/
def ballotVowsSpec : ChangeSpec := { name := "ballotVows", fn := fun _ => fun
  | [d1, d2, d3] => { results := [.lit (.bool true)], args := [d1, d2, d3] }
  | _ => none }
def ballotVowsRow : OpenClaim := { program := "ytdbagbklhchbkaa", sum := "952ec5876321d344c4669e5a8a37be5037ef29f5dcf6928a51daf0eb4a8cfe98", func := "roundhouse/roundhouselaw13.BallotVows", spec := "ballotVows", apart := false }
def BallotVowsSaid : Prop := ballotVowsRow.holds Try.pinned (OpenSpec.ofChange ballotVowsSpec)

/-- ITS FALSE NEIGHBOUR: 'it returns false'. Refute it at one input. -/
def ballotVowsWrong : ChangeSpec := { name := "ballotVows", fn := fun _ => fun
  | [d1, d2, d3] => { results := [.lit (.bool false)], args := [d1, d2, d3] }
  | _ => none }
def BallotVowsWrongFalsely : Prop := ballotVowsRow.holds Try.pinned (OpenSpec.ofChange ballotVowsWrong)

/-- 'roundhouselaw13.BallotBest': WHATEVER THE INPUT: true; the input reads as it did. -/
def ballotBestSpec : ChangeSpec := { name := "ballotBest", fn := fun _ => fun
  | [d] => { results := [.lit (.bool true)], args := [d] }
  | _ => none }
def ballotBestRow : OpenClaim := { program := "ytdbagbklhchbkaa", sum := "952ec5876321d344c4669e5a8a37be5037ef29f5dcf6928a51daf0eb4a8cfe98", func := "roundhouse/roundhouselaw13.BallotBest", spec := "ballotBest", apart := false }
def BallotBestSaid : Prop := ballotBestRow.holds Try.pinned (OpenSpec.ofChange ballotBestSpec)

/-- ITS FALSE NEIGHBOUR: 'it returns false'. Refute it at one input. -/
def ballotBestWrong : ChangeSpec := { name := "ballotBest", fn := fun _ => fun
  | [d] => { results := [.lit (.bool false)], args := [d] }
  | _ => none }
def BallotBestWrongFalsely : Prop := ballotBestRow.holds Try.pinned (OpenSpec.ofChange ballotBestWrong)

/-- 'roundhouselaw13.BallotHolds': WHATEVER THE INPUT: true; the input reads as it did. -/
def ballotHoldsSpec : ChangeSpec := { name := "ballotHolds", fn := fun _ => fun
  | [d1, d2, d3, d4] => { results := [.lit (.bool true)], args := [d1, d2, d3, d4] }
  | _ => none }
def ballotHoldsRow : OpenClaim := { program := "ytdbagbklhchbkaa", sum := "952ec5876321d344c4669e5a8a37be5037ef29f5dcf6928a51daf0eb4a8cfe98", func := "roundhouse/roundhouselaw13.BallotHolds", spec := "ballotHolds", apart := false }
def BallotHoldsSaid : Prop := ballotHoldsRow.holds Try.pinned (OpenSpec.ofChange ballotHoldsSpec)

/-- ITS FALSE NEIGHBOUR: 'it returns false'. Refute it at one input. -/
def ballotHoldsWrong : ChangeSpec := { name := "ballotHolds", fn := fun _ => fun
  | [d1, d2, d3, d4] => { results := [.lit (.bool false)], args := [d1, d2, d3, d4] }
  | _ => none }
def BallotHoldsWrongFalsely : Prop := ballotHoldsRow.holds Try.pinned (OpenSpec.ofChange ballotHoldsWrong)

/-- 'roundhouselaw13.BallotOnce': WHATEVER THE INPUT: true; the input reads as it did. -/
def ballotOnceSpec : ChangeSpec := { name := "ballotOnce", fn := fun _ => fun
  | [d1, d2] => { results := [.lit (.bool true)], args := [d1, d2] }
  | _ => none }
def ballotOnceRow : OpenClaim := { program := "ytdbagbklhchbkaa", sum := "952ec5876321d344c4669e5a8a37be5037ef29f5dcf6928a51daf0eb4a8cfe98", func := "roundhouse/roundhouselaw13.BallotOnce", spec := "ballotOnce", apart := false }
def BallotOnceSaid : Prop := ballotOnceRow.holds Try.pinned (OpenSpec.ofChange ballotOnceSpec)

/-- ITS FALSE NEIGHBOUR: 'it returns false'. Refute it at one input. -/
def ballotOnceWrong : ChangeSpec := { name := "ballotOnce", fn := fun _ => fun
  | [d1, d2] => { results := [.lit (.bool false)], args := [d1, d2] }
  | _ => none }
def BallotOnceWrongFalsely : Prop := ballotOnceRow.holds Try.pinned (OpenSpec.ofChange ballotOnceWrong)

/-- 'roundhouselaw03.CodeNums': WHATEVER THE INPUT: true; the input reads as it did. -/
def codeNumsSpec : ChangeSpec := { name := "codeNums", fn := fun _ => fun
  | [d1, d2] => { results := [.lit (.bool true)], args := [d1, d2] }
  | _ => none }
def codeNumsRow : OpenClaim := { program := "ytdbagbklhchbkaa", sum := "952ec5876321d344c4669e5a8a37be5037ef29f5dcf6928a51daf0eb4a8cfe98", func := "roundhouse/roundhouselaw03.CodeNums", spec := "codeNums", apart := false }
def CodeNumsSaid : Prop := codeNumsRow.holds Try.pinned (OpenSpec.ofChange codeNumsSpec)

/-- ITS FALSE NEIGHBOUR: 'it returns false'. Refute it at one input. -/
def codeNumsWrong : ChangeSpec := { name := "codeNums", fn := fun _ => fun
  | [d1, d2] => { results := [.lit (.bool false)], args := [d1, d2] }
  | _ => none }
def CodeNumsWrongFalsely : Prop := codeNumsRow.holds Try.pinned (OpenSpec.ofChange codeNumsWrong)

/-- 'roundhouselaw03.CodeOnce': WHATEVER THE INPUT: true; the input reads as it did. -/
def codeOnceSpec : ChangeSpec := { name := "codeOnce", fn := fun _ => fun
  | [d] => { results := [.lit (.bool true)], args := [d] }
  | _ => none }
def codeOnceRow : OpenClaim := { program := "ytdbagbklhchbkaa", sum := "952ec5876321d344c4669e5a8a37be5037ef29f5dcf6928a51daf0eb4a8cfe98", func := "roundhouse/roundhouselaw03.CodeOnce", spec := "codeOnce", apart := false }
def CodeOnceSaid : Prop := codeOnceRow.holds Try.pinned (OpenSpec.ofChange codeOnceSpec)

/-- ITS FALSE NEIGHBOUR: 'it returns false'. Refute it at one input. -/
def codeOnceWrong : ChangeSpec := { name := "codeOnce", fn := fun _ => fun
  | [d] => { results := [.lit (.bool false)], args := [d] }
  | _ => none }
def CodeOnceWrongFalsely : Prop := codeOnceRow.holds Try.pinned (OpenSpec.ofChange codeOnceWrong)

/-- 'roundhouselaw03.CodeOrder': WHATEVER THE INPUT: true; the input reads as it did. -/
def codeOrderSpec : ChangeSpec := { name := "codeOrder", fn := fun _ => fun
  | [d1, d2] => { results := [.lit (.bool true)], args := [d1, d2] }
  | _ => none }
def codeOrderRow : OpenClaim := { program := "ytdbagbklhchbkaa", sum := "952ec5876321d344c4669e5a8a37be5037ef29f5dcf6928a51daf0eb4a8cfe98", func := "roundhouse/roundhouselaw03.CodeOrder", spec := "codeOrder", apart := false }
def CodeOrderSaid : Prop := codeOrderRow.holds Try.pinned (OpenSpec.ofChange codeOrderSpec)

/-- ITS FALSE NEIGHBOUR: 'it returns false'. Refute it at one input. -/
def codeOrderWrong : ChangeSpec := { name := "codeOrder", fn := fun _ => fun
  | [d1, d2] => { results := [.lit (.bool false)], args := [d1, d2] }
  | _ => none }
def CodeOrderWrongFalsely : Prop := codeOrderRow.holds Try.pinned (OpenSpec.ofChange codeOrderWrong)

/-- 'roundhouselaw03.CodeTexts': WHATEVER THE INPUT: true; the input reads as it did. -/
def codeTextsSpec : ChangeSpec := { name := "codeTexts", fn := fun _ => fun
  | [d1, d2] => { results := [.lit (.bool true)], args := [d1, d2] }
  | _ => none }
def codeTextsRow : OpenClaim := { program := "ytdbagbklhchbkaa", sum := "952ec5876321d344c4669e5a8a37be5037ef29f5dcf6928a51daf0eb4a8cfe98", func := "roundhouse/roundhouselaw03.CodeTexts", spec := "codeTexts", apart := false }
def CodeTextsSaid : Prop := codeTextsRow.holds Try.pinned (OpenSpec.ofChange codeTextsSpec)

/-- ITS FALSE NEIGHBOUR: 'it returns false'. Refute it at one input. -/
def codeTextsWrong : ChangeSpec := { name := "codeTexts", fn := fun _ => fun
  | [d1, d2] => { results := [.lit (.bool false)], args := [d1, d2] }
  | _ => none }
def CodeTextsWrongFalsely : Prop := codeTextsRow.holds Try.pinned (OpenSpec.ofChange codeTextsWrong)

/-- 'roundhouselaw03.CodeLists': WHATEVER THE INPUT: true; the input reads as it did. -/
def codeListsSpec : ChangeSpec := { name := "codeLists", fn := fun _ => fun
  | [d1, d2, d3] => { results := [.lit (.bool true)], args := [d1, d2, d3] }
  | _ => none }
def codeListsRow : OpenClaim := { program := "ytdbagbklhchbkaa", sum := "952ec5876321d344c4669e5a8a37be5037ef29f5dcf6928a51daf0eb4a8cfe98", func := "roundhouse/roundhouselaw03.CodeLists", spec := "codeLists", apart := false }
def CodeListsSaid : Prop := codeListsRow.holds Try.pinned (OpenSpec.ofChange codeListsSpec)

/-- ITS FALSE NEIGHBOUR: 'it returns false'. Refute it at one input. -/
def codeListsWrong : ChangeSpec := { name := "codeLists", fn := fun _ => fun
  | [d1, d2, d3] => { results := [.lit (.bool false)], args := [d1, d2, d3] }
  | _ => none }
def CodeListsWrongFalsely : Prop := codeListsRow.holds Try.pinned (OpenSpec.ofChange codeListsWrong)

/-- 'roundhouselaw03.CodeSplits': WHATEVER THE INPUT: true; the input reads as it did. -/
def codeSplitsSpec : ChangeSpec := { name := "codeSplits", fn := fun _ => fun
  | [d1, d2, d3] => { results := [.lit (.bool true)], args := [d1, d2, d3] }
  | _ => none }
def codeSplitsRow : OpenClaim := { program := "ytdbagbklhchbkaa", sum := "952ec5876321d344c4669e5a8a37be5037ef29f5dcf6928a51daf0eb4a8cfe98", func := "roundhouse/roundhouselaw03.CodeSplits", spec := "codeSplits", apart := false }
def CodeSplitsSaid : Prop := codeSplitsRow.holds Try.pinned (OpenSpec.ofChange codeSplitsSpec)

/-- ITS FALSE NEIGHBOUR: 'it returns false'. Refute it at one input. -/
def codeSplitsWrong : ChangeSpec := { name := "codeSplits", fn := fun _ => fun
  | [d1, d2, d3] => { results := [.lit (.bool false)], args := [d1, d2, d3] }
  | _ => none }
def CodeSplitsWrongFalsely : Prop := codeSplitsRow.holds Try.pinned (OpenSpec.ofChange codeSplitsWrong)

/- THE SECOND FORM. 'bulk': how many values and letters a reading holds, each counted each time it is reached (what is shared counts as often as it is met; a slice's spare places count too). A statement '..UptoSaid' is the law's where the arguments, and the package variables that the reading takes, are together of bulk at most 1048576: NARROWER than '..Said'. Prove '..Said' where nothing that the law and all that it calls make is longer than what came in: it says more and counts as full. Else prove '..UptoSaid'. A law counts once. -/
mutual
def uptoBulk {H : Type} : DataW H → Nat
  | .lit (.string bytes) => bytes.length + 1
  | .lit _ => 1
  | .nil => 1
  | .ptr d => uptoBulk d + 1
  | .slice elems spare => uptoBulkAll elems + uptoBulkAll spare + 1
  | .agg parts => uptoBulkAll parts + 1
  | .iface _ d => uptoBulk d + 1
  | .map entries => uptoBulkEntries entries + 1
  | .held _ => 1
def uptoBulkAll {H : Type} : List (DataW H) → Nat
  | [] => 0
  | d :: r => uptoBulk d + uptoBulkAll r
def uptoBulkEntries {H : Type} : List (Lit × DataW H) → Nat
  | [] => 0
  | x :: r => uptoBulkEntry x + uptoBulkEntries r
def uptoBulkEntry {H : Type} : Lit × DataW H → Nat
  | (.string bytes, d) => bytes.length + uptoBulk d + 1
  | (_, d) => uptoBulk d + 1
 end
def uptoSmall : (H : Type) → List (DataW H) → Bool := fun _ ds => decide (uptoBulkAll ds ≤ 1048576)
def OpenSpec.upto (s : _root_.Go.ChangeSpec) : _root_.Go.OpenSpec := { _root_.Go.OpenSpec.ofChange s with cond := some uptoSmall }

/-- 'roundhouselaw13.BallotLess', WHERE WHAT IT READS IS OF BULK AT MOST 1048576: true; the input reads as it did. -/
def ballotLessUptoRow : OpenClaim := { program := "ytdbagbklhchbkaa", sum := "952ec5876321d344c4669e5a8a37be5037ef29f5dcf6928a51daf0eb4a8cfe98", func := "roundhouse/roundhouselaw13.BallotLess", spec := "ballotLess", apart := false, narrowed := true }
def BallotLessUptoSaid : Prop := ballotLessUptoRow.holds Try.pinned (OpenSpec.upto ballotLessSpec)

/-- 'roundhouselaw13.BallotVows', WHERE WHAT IT READS IS OF BULK AT MOST 1048576: true; the input reads as it did. -/
def ballotVowsUptoRow : OpenClaim := { program := "ytdbagbklhchbkaa", sum := "952ec5876321d344c4669e5a8a37be5037ef29f5dcf6928a51daf0eb4a8cfe98", func := "roundhouse/roundhouselaw13.BallotVows", spec := "ballotVows", apart := false, narrowed := true }
def BallotVowsUptoSaid : Prop := ballotVowsUptoRow.holds Try.pinned (OpenSpec.upto ballotVowsSpec)

/-- 'roundhouselaw13.BallotBest', WHERE WHAT IT READS IS OF BULK AT MOST 1048576: true; the input reads as it did. -/
def ballotBestUptoRow : OpenClaim := { program := "ytdbagbklhchbkaa", sum := "952ec5876321d344c4669e5a8a37be5037ef29f5dcf6928a51daf0eb4a8cfe98", func := "roundhouse/roundhouselaw13.BallotBest", spec := "ballotBest", apart := false, narrowed := true }
def BallotBestUptoSaid : Prop := ballotBestUptoRow.holds Try.pinned (OpenSpec.upto ballotBestSpec)

/-- 'roundhouselaw13.BallotHolds', WHERE WHAT IT READS IS OF BULK AT MOST 1048576: true; the input reads as it did. -/
def ballotHoldsUptoRow : OpenClaim := { program := "ytdbagbklhchbkaa", sum := "952ec5876321d344c4669e5a8a37be5037ef29f5dcf6928a51daf0eb4a8cfe98", func := "roundhouse/roundhouselaw13.BallotHolds", spec := "ballotHolds", apart := false, narrowed := true }
def BallotHoldsUptoSaid : Prop := ballotHoldsUptoRow.holds Try.pinned (OpenSpec.upto ballotHoldsSpec)

/-- 'roundhouselaw13.BallotOnce', WHERE WHAT IT READS IS OF BULK AT MOST 1048576: true; the input reads as it did. -/
def ballotOnceUptoRow : OpenClaim := { program := "ytdbagbklhchbkaa", sum := "952ec5876321d344c4669e5a8a37be5037ef29f5dcf6928a51daf0eb4a8cfe98", func := "roundhouse/roundhouselaw13.BallotOnce", spec := "ballotOnce", apart := false, narrowed := true }
def BallotOnceUptoSaid : Prop := ballotOnceUptoRow.holds Try.pinned (OpenSpec.upto ballotOnceSpec)

/-- 'roundhouselaw03.CodeNums', WHERE WHAT IT READS IS OF BULK AT MOST 1048576: true; the input reads as it did. -/
def codeNumsUptoRow : OpenClaim := { program := "ytdbagbklhchbkaa", sum := "952ec5876321d344c4669e5a8a37be5037ef29f5dcf6928a51daf0eb4a8cfe98", func := "roundhouse/roundhouselaw03.CodeNums", spec := "codeNums", apart := false, narrowed := true }
def CodeNumsUptoSaid : Prop := codeNumsUptoRow.holds Try.pinned (OpenSpec.upto codeNumsSpec)

/-- 'roundhouselaw03.CodeOnce', WHERE WHAT IT READS IS OF BULK AT MOST 1048576: true; the input reads as it did. -/
def codeOnceUptoRow : OpenClaim := { program := "ytdbagbklhchbkaa", sum := "952ec5876321d344c4669e5a8a37be5037ef29f5dcf6928a51daf0eb4a8cfe98", func := "roundhouse/roundhouselaw03.CodeOnce", spec := "codeOnce", apart := false, narrowed := true }
def CodeOnceUptoSaid : Prop := codeOnceUptoRow.holds Try.pinned (OpenSpec.upto codeOnceSpec)

/-- 'roundhouselaw03.CodeOrder', WHERE WHAT IT READS IS OF BULK AT MOST 1048576: true; the input reads as it did. -/
def codeOrderUptoRow : OpenClaim := { program := "ytdbagbklhchbkaa", sum := "952ec5876321d344c4669e5a8a37be5037ef29f5dcf6928a51daf0eb4a8cfe98", func := "roundhouse/roundhouselaw03.CodeOrder", spec := "codeOrder", apart := false, narrowed := true }
def CodeOrderUptoSaid : Prop := codeOrderUptoRow.holds Try.pinned (OpenSpec.upto codeOrderSpec)

/-- 'roundhouselaw03.CodeTexts', WHERE WHAT IT READS IS OF BULK AT MOST 1048576: true; the input reads as it did. -/
def codeTextsUptoRow : OpenClaim := { program := "ytdbagbklhchbkaa", sum := "952ec5876321d344c4669e5a8a37be5037ef29f5dcf6928a51daf0eb4a8cfe98", func := "roundhouse/roundhouselaw03.CodeTexts", spec := "codeTexts", apart := false, narrowed := true }
def CodeTextsUptoSaid : Prop := codeTextsUptoRow.holds Try.pinned (OpenSpec.upto codeTextsSpec)

/-- 'roundhouselaw03.CodeLists', WHERE WHAT IT READS IS OF BULK AT MOST 1048576: true; the input reads as it did. -/
def codeListsUptoRow : OpenClaim := { program := "ytdbagbklhchbkaa", sum := "952ec5876321d344c4669e5a8a37be5037ef29f5dcf6928a51daf0eb4a8cfe98", func := "roundhouse/roundhouselaw03.CodeLists", spec := "codeLists", apart := false, narrowed := true }
def CodeListsUptoSaid : Prop := codeListsUptoRow.holds Try.pinned (OpenSpec.upto codeListsSpec)

/-- 'roundhouselaw03.CodeSplits', WHERE WHAT IT READS IS OF BULK AT MOST 1048576: true; the input reads as it did. -/
def codeSplitsUptoRow : OpenClaim := { program := "ytdbagbklhchbkaa", sum := "952ec5876321d344c4669e5a8a37be5037ef29f5dcf6928a51daf0eb4a8cfe98", func := "roundhouse/roundhouselaw03.CodeSplits", spec := "codeSplits", apart := false, narrowed := true }
def CodeSplitsUptoSaid : Prop := codeSplitsUptoRow.holds Try.pinned (OpenSpec.upto codeSplitsSpec)

end Rows
end Go.Proofs.Ytdbagbklhchbkaa
