/-
  No cell of these rows narrows 'for every input' (looked for: loops, veiled, ifaces, maps, wideKeys, modest, calm, conditions, laid).
  DERIVED. THE GIVEN ROWS OF THIS SEAT. 7 by the template 'for every input the law returns true; each argument reads behind the call as it read before'; 0 by the template 'total and deterministic' (their statements: YtgblimlnkefllaaTotals.lean).
  GIVEN WITH THE SEED: the statements are not yours to turn. If you find one false, say at which input.
  Laid BY PROGRAM, IN A SANDBOX (cutbox-rows.mjs): the forced cells as the released guide's own fill.sh prints them over the translation 34410d1c68d6a6fc… (all of the seat's roots in one cut). By AI agents, Wed Nov 11 2026. No macro, syntax, notation, axiom, sorry.
-/
import Derived.Test.YtgblimlnkefllaaChecked
import GoSem.Claim
import GoSem.ClaimJoined
import GoSem.ClaimMapViews
import Derived.JoinedTies
import Derived.KernelRfl
namespace Go.Proofs.Ytgblimlnkefllaa
/- THE CELL 'sum', in the pinned program and in every row, IS THE sha256 OF THE DUMP (.gsa) THAT YtgblimlnkefllaaProg.lean LOADS. Nothing in Lean hashes anything: it is a label: what it is worth is what the hold of that sum in a sandbox is worth. -/
noncomputable def Try.pinned : Pinned := { name := "ytgblimlnkefllaa", sum := "34410d1c68d6a6fc5364eb49d4716d00b3e4ab39c764ff002e474537d04b801c", checked := Try.checked }
namespace Rows
def none {H : Type} : Left H := { results := [], args := [] }

/-- 'roundhouselaw06.TapeLasts': WHATEVER THE INPUT: true; the input reads as it did. -/
def tapeLastsSpec : ChangeSpec := { name := "tapeLasts", fn := fun _ => fun
  | [d1, d2, d3, d4] => { results := [.lit (.bool true)], args := [d1, d2, d3, d4] }
  | _ => none }
def tapeLastsRow : OpenClaim := { program := "ytgblimlnkefllaa", sum := "34410d1c68d6a6fc5364eb49d4716d00b3e4ab39c764ff002e474537d04b801c", func := "roundhouse/roundhouselaw06.TapeLasts", spec := "tapeLasts", apart := false }
def TapeLastsSaid : Prop := tapeLastsRow.holds Try.pinned (OpenSpec.ofChange tapeLastsSpec)

/-- ITS FALSE NEIGHBOUR: 'it returns false'. Refute it at one input. -/
def tapeLastsWrong : ChangeSpec := { name := "tapeLasts", fn := fun _ => fun
  | [d1, d2, d3, d4] => { results := [.lit (.bool false)], args := [d1, d2, d3, d4] }
  | _ => none }
def TapeLastsWrongFalsely : Prop := tapeLastsRow.holds Try.pinned (OpenSpec.ofChange tapeLastsWrong)

/-- 'roundhouselaw06.TapePlays': WHATEVER THE INPUT: true; the input reads as it did. -/
def tapePlaysSpec : ChangeSpec := { name := "tapePlays", fn := fun _ => fun
  | [d1, d2] => { results := [.lit (.bool true)], args := [d1, d2] }
  | _ => none }
def tapePlaysRow : OpenClaim := { program := "ytgblimlnkefllaa", sum := "34410d1c68d6a6fc5364eb49d4716d00b3e4ab39c764ff002e474537d04b801c", func := "roundhouse/roundhouselaw06.TapePlays", spec := "tapePlays", apart := false }
def TapePlaysSaid : Prop := tapePlaysRow.holds Try.pinned (OpenSpec.ofChange tapePlaysSpec)

/-- ITS FALSE NEIGHBOUR: 'it returns false'. Refute it at one input. -/
def tapePlaysWrong : ChangeSpec := { name := "tapePlays", fn := fun _ => fun
  | [d1, d2] => { results := [.lit (.bool false)], args := [d1, d2] }
  | _ => none }
def TapePlaysWrongFalsely : Prop := tapePlaysRow.holds Try.pinned (OpenSpec.ofChange tapePlaysWrong)

/-- 'roundhouselaw06.TapeFails': WHATEVER THE INPUT: true; the input reads as it did. -/
def tapeFailsSpec : ChangeSpec := { name := "tapeFails", fn := fun _ => fun
  | [d1, d2] => { results := [.lit (.bool true)], args := [d1, d2] }
  | _ => none }
def tapeFailsRow : OpenClaim := { program := "ytgblimlnkefllaa", sum := "34410d1c68d6a6fc5364eb49d4716d00b3e4ab39c764ff002e474537d04b801c", func := "roundhouse/roundhouselaw06.TapeFails", spec := "tapeFails", apart := false }
def TapeFailsSaid : Prop := tapeFailsRow.holds Try.pinned (OpenSpec.ofChange tapeFailsSpec)

/-- ITS FALSE NEIGHBOUR: 'it returns false'. Refute it at one input. -/
def tapeFailsWrong : ChangeSpec := { name := "tapeFails", fn := fun _ => fun
  | [d1, d2] => { results := [.lit (.bool false)], args := [d1, d2] }
  | _ => none }
def TapeFailsWrongFalsely : Prop := tapeFailsRow.holds Try.pinned (OpenSpec.ofChange tapeFailsWrong)

/-- 'roundhouselaw06.TapeNone': WHATEVER THE INPUT: true; the input reads as it did. -/
def tapeNoneSpec : ChangeSpec := { name := "tapeNone", fn := fun _ => fun
  | [d1, d2, d3] => { results := [.lit (.bool true)], args := [d1, d2, d3] }
  | _ => none }
def tapeNoneRow : OpenClaim := { program := "ytgblimlnkefllaa", sum := "34410d1c68d6a6fc5364eb49d4716d00b3e4ab39c764ff002e474537d04b801c", func := "roundhouse/roundhouselaw06.TapeNone", spec := "tapeNone", apart := false }
def TapeNoneSaid : Prop := tapeNoneRow.holds Try.pinned (OpenSpec.ofChange tapeNoneSpec)

/-- ITS FALSE NEIGHBOUR: 'it returns false'. Refute it at one input. -/
def tapeNoneWrong : ChangeSpec := { name := "tapeNone", fn := fun _ => fun
  | [d1, d2, d3] => { results := [.lit (.bool false)], args := [d1, d2, d3] }
  | _ => none }
def TapeNoneWrongFalsely : Prop := tapeNoneRow.holds Try.pinned (OpenSpec.ofChange tapeNoneWrong)

/-- 'roundhouselaw07.BookReads': WHATEVER THE INPUT: true; the input reads as it did. -/
def bookReadsSpec : ChangeSpec := { name := "bookReads", fn := fun _ => fun
  | [d] => { results := [.lit (.bool true)], args := [d] }
  | _ => none }
def bookReadsRow : OpenClaim := { program := "ytgblimlnkefllaa", sum := "34410d1c68d6a6fc5364eb49d4716d00b3e4ab39c764ff002e474537d04b801c", func := "roundhouse/roundhouselaw07.BookReads", spec := "bookReads", unfollowed := true, recurses := true, apart := false }
def BookReadsSaid : Prop := bookReadsRow.holds Try.pinned (OpenSpec.ofChange bookReadsSpec)

/-- ITS FALSE NEIGHBOUR: 'it returns false'. Refute it at one input. -/
def bookReadsWrong : ChangeSpec := { name := "bookReads", fn := fun _ => fun
  | [d] => { results := [.lit (.bool false)], args := [d] }
  | _ => none }
def BookReadsWrongFalsely : Prop := bookReadsRow.holds Try.pinned (OpenSpec.ofChange bookReadsWrong)

/-- 'roundhouselaw07.BookNone': WHATEVER THE INPUT: true; the input reads as it did. -/
def bookNoneSpec : ChangeSpec := { name := "bookNone", fn := fun _ => fun
  | [d] => { results := [.lit (.bool true)], args := [d] }
  | _ => none }
def bookNoneRow : OpenClaim := { program := "ytgblimlnkefllaa", sum := "34410d1c68d6a6fc5364eb49d4716d00b3e4ab39c764ff002e474537d04b801c", func := "roundhouse/roundhouselaw07.BookNone", spec := "bookNone", unfollowed := true, recurses := true, apart := false }
def BookNoneSaid : Prop := bookNoneRow.holds Try.pinned (OpenSpec.ofChange bookNoneSpec)

/-- ITS FALSE NEIGHBOUR: 'it returns false'. Refute it at one input. -/
def bookNoneWrong : ChangeSpec := { name := "bookNone", fn := fun _ => fun
  | [d] => { results := [.lit (.bool false)], args := [d] }
  | _ => none }
def BookNoneWrongFalsely : Prop := bookNoneRow.holds Try.pinned (OpenSpec.ofChange bookNoneWrong)

/-- 'roundhouselaw07.BookPlays': WHATEVER THE INPUT: true; the input reads as it did. -/
def bookPlaysSpec : ChangeSpec := { name := "bookPlays", fn := fun _ => fun
  | [d] => { results := [.lit (.bool true)], args := [d] }
  | _ => none }
def bookPlaysRow : OpenClaim := { program := "ytgblimlnkefllaa", sum := "34410d1c68d6a6fc5364eb49d4716d00b3e4ab39c764ff002e474537d04b801c", func := "roundhouse/roundhouselaw07.BookPlays", spec := "bookPlays", unfollowed := true, recurses := true, apart := false }
def BookPlaysSaid : Prop := bookPlaysRow.holds Try.pinned (OpenSpec.ofChange bookPlaysSpec)

/-- ITS FALSE NEIGHBOUR: 'it returns false'. Refute it at one input. -/
def bookPlaysWrong : ChangeSpec := { name := "bookPlays", fn := fun _ => fun
  | [d] => { results := [.lit (.bool false)], args := [d] }
  | _ => none }
def BookPlaysWrongFalsely : Prop := bookPlaysRow.holds Try.pinned (OpenSpec.ofChange bookPlaysWrong)

/- THE SECOND FORM. 'bulk': how many values and letters a reading holds, each counted each time it is reached (what is shared counts as often as it is met; a slice's spare places count too). A statement '..UptoSaid' is the law's where the arguments, and the package variables that the reading takes, are together of bulk at most 1048576: NARROWER than '..Said'. Prove '..Said' where nothing that the law and all that it calls make is longer than what came in: it says more and counts as full. Else prove '..UptoSaid'. A law counts once. -/
mutual
def uptoBulk {H : Type} : DataW H → Nat
  | .lit (.string bytes) => bytes.length + 1
  | .lit _ => 1
  | .nil => 1
  | .ptr d => uptoBulk d + 1
  | .slice elems spare => uptoBulkAll elems + uptoBulkAll spare + 1
  | .agg parts => uptoBulkAll parts + 1
  | .iface _ d => uptoBulk d + 1
  | .map entries => uptoBulkEntries entries + 1
  | .held _ => 1
def uptoBulkAll {H : Type} : List (DataW H) → Nat
  | [] => 0
  | d :: r => uptoBulk d + uptoBulkAll r
def uptoBulkEntries {H : Type} : List (Lit × DataW H) → Nat
  | [] => 0
  | x :: r => uptoBulkEntry x + uptoBulkEntries r
def uptoBulkEntry {H : Type} : Lit × DataW H → Nat
  | (.string bytes, d) => bytes.length + uptoBulk d + 1
  | (_, d) => uptoBulk d + 1
 end
def uptoSmall : (H : Type) → List (DataW H) → Bool := fun _ ds => decide (uptoBulkAll ds ≤ 1048576)
def OpenSpec.upto (s : _root_.Go.ChangeSpec) : _root_.Go.OpenSpec := { _root_.Go.OpenSpec.ofChange s with cond := some uptoSmall }

/-- 'roundhouselaw06.TapeLasts', WHERE WHAT IT READS IS OF BULK AT MOST 1048576: true; the input reads as it did. -/
def tapeLastsUptoRow : OpenClaim := { program := "ytgblimlnkefllaa", sum := "34410d1c68d6a6fc5364eb49d4716d00b3e4ab39c764ff002e474537d04b801c", func := "roundhouse/roundhouselaw06.TapeLasts", spec := "tapeLasts", apart := false, narrowed := true }
def TapeLastsUptoSaid : Prop := tapeLastsUptoRow.holds Try.pinned (OpenSpec.upto tapeLastsSpec)

/-- 'roundhouselaw06.TapePlays', WHERE WHAT IT READS IS OF BULK AT MOST 1048576: true; the input reads as it did. -/
def tapePlaysUptoRow : OpenClaim := { program := "ytgblimlnkefllaa", sum := "34410d1c68d6a6fc5364eb49d4716d00b3e4ab39c764ff002e474537d04b801c", func := "roundhouse/roundhouselaw06.TapePlays", spec := "tapePlays", apart := false, narrowed := true }
def TapePlaysUptoSaid : Prop := tapePlaysUptoRow.holds Try.pinned (OpenSpec.upto tapePlaysSpec)

/-- 'roundhouselaw06.TapeFails', WHERE WHAT IT READS IS OF BULK AT MOST 1048576: true; the input reads as it did. -/
def tapeFailsUptoRow : OpenClaim := { program := "ytgblimlnkefllaa", sum := "34410d1c68d6a6fc5364eb49d4716d00b3e4ab39c764ff002e474537d04b801c", func := "roundhouse/roundhouselaw06.TapeFails", spec := "tapeFails", apart := false, narrowed := true }
def TapeFailsUptoSaid : Prop := tapeFailsUptoRow.holds Try.pinned (OpenSpec.upto tapeFailsSpec)

/-- 'roundhouselaw06.TapeNone', WHERE WHAT IT READS IS OF BULK AT MOST 1048576: true; the input reads as it did. -/
def tapeNoneUptoRow : OpenClaim := { program := "ytgblimlnkefllaa", sum := "34410d1c68d6a6fc5364eb49d4716d00b3e4ab39c764ff002e474537d04b801c", func := "roundhouse/roundhouselaw06.TapeNone", spec := "tapeNone", apart := false, narrowed := true }
def TapeNoneUptoSaid : Prop := tapeNoneUptoRow.holds Try.pinned (OpenSpec.upto tapeNoneSpec)

/-- 'roundhouselaw07.BookReads', WHERE WHAT IT READS IS OF BULK AT MOST 1048576: true; the input reads as it did. -/
def bookReadsUptoRow : OpenClaim := { program := "ytgblimlnkefllaa", sum := "34410d1c68d6a6fc5364eb49d4716d00b3e4ab39c764ff002e474537d04b801c", func := "roundhouse/roundhouselaw07.BookReads", spec := "bookReads", unfollowed := true, recurses := true, apart := false, narrowed := true }
def BookReadsUptoSaid : Prop := bookReadsUptoRow.holds Try.pinned (OpenSpec.upto bookReadsSpec)

/-- 'roundhouselaw07.BookNone', WHERE WHAT IT READS IS OF BULK AT MOST 1048576: true; the input reads as it did. -/
def bookNoneUptoRow : OpenClaim := { program := "ytgblimlnkefllaa", sum := "34410d1c68d6a6fc5364eb49d4716d00b3e4ab39c764ff002e474537d04b801c", func := "roundhouse/roundhouselaw07.BookNone", spec := "bookNone", unfollowed := true, recurses := true, apart := false, narrowed := true }
def BookNoneUptoSaid : Prop := bookNoneUptoRow.holds Try.pinned (OpenSpec.upto bookNoneSpec)

/-- 'roundhouselaw07.BookPlays', WHERE WHAT IT READS IS OF BULK AT MOST 1048576: true; the input reads as it did. -/
def bookPlaysUptoRow : OpenClaim := { program := "ytgblimlnkefllaa", sum := "34410d1c68d6a6fc5364eb49d4716d00b3e4ab39c764ff002e474537d04b801c", func := "roundhouse/roundhouselaw07.BookPlays", spec := "bookPlays", unfollowed := true, recurses := true, apart := false, narrowed := true }
def BookPlaysUptoSaid : Prop := bookPlaysUptoRow.holds Try.pinned (OpenSpec.upto bookPlaysSpec)

end Rows
end Go.Proofs.Ytgblimlnkefllaa
