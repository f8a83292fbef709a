/-
  No cell of these rows narrows 'for every input' (looked for: loops, veiled, ifaces, maps, wideKeys, modest, calm, conditions, laid).
  DERIVED. THE GIVEN ROWS OF THIS SEAT. 7 by the template 'for every input the law returns true; each argument reads behind the call as it read before'; 0 by the template 'total and deterministic' (their statements: YtdeolllpbflemaaTotals.lean).
  GIVEN WITH THE SEED: the statements are not yours to turn. If you find one false, say at which input.
  Laid BY PROGRAM, IN A SANDBOX (cutbox-rows.mjs): the forced cells as the released guide's own fill.sh prints them over the translation 1e21a91202364e02… (all of the seat's roots in one cut). By AI agents, Wed Nov 11 2026. No macro, syntax, notation, axiom, sorry.
-/
import Derived.Test.YtdeolllpbflemaaChecked
import GoSem.Claim
import GoSem.ClaimJoined
import GoSem.ClaimMapViews
import Derived.JoinedTies
import Derived.KernelRfl
namespace Go.Proofs.Ytdeolllpbflemaa
/- THE CELL 'sum', in the pinned program and in every row, IS THE sha256 OF THE DUMP (.gsa) THAT YtdeolllpbflemaaProg.lean LOADS. Nothing in Lean hashes anything: it is a label: what it is worth is what the hold of that sum in a sandbox is worth. -/
noncomputable def Try.pinned : Pinned := { name := "ytdeolllpbflemaa", sum := "1e21a91202364e02f0d78b216eb4f0b1849b52cfe21071c02dafd4f1558df853", checked := Try.checked }
namespace Rows
def none {H : Type} : Left H := { results := [], args := [] }

/-- 'roundhouselaw10.PastStays': WHATEVER THE INPUT: true; the input reads as it did. -/
def pastStaysSpec : ChangeSpec := { name := "pastStays", fn := fun _ => fun
  | [d1, d2, d3] => { results := [.lit (.bool true)], args := [d1, d2, d3] }
  | _ => none }
def pastStaysRow : OpenClaim := { program := "ytdeolllpbflemaa", sum := "1e21a91202364e02f0d78b216eb4f0b1849b52cfe21071c02dafd4f1558df853", func := "roundhouse/roundhouselaw10.PastStays", spec := "pastStays", inPlace := ["slices.overlaps[roundhouse/api.Pair]"], unfollowed := true, recurses := true, apart := false }
def PastStaysSaid : Prop := pastStaysRow.holds Try.pinned (OpenSpec.ofChange pastStaysSpec)

/-- ITS FALSE NEIGHBOUR: 'it returns false'. Refute it at one input. -/
def pastStaysWrong : ChangeSpec := { name := "pastStays", fn := fun _ => fun
  | [d1, d2, d3] => { results := [.lit (.bool false)], args := [d1, d2, d3] }
  | _ => none }
def PastStaysWrongFalsely : Prop := pastStaysRow.holds Try.pinned (OpenSpec.ofChange pastStaysWrong)

/-- 'roundhouselaw10.PastJoins': WHATEVER THE INPUT: true; the input reads as it did. -/
def pastJoinsSpec : ChangeSpec := { name := "pastJoins", fn := fun _ => fun
  | [d1, d2, d3, d4] => { results := [.lit (.bool true)], args := [d1, d2, d3, d4] }
  | _ => none }
def pastJoinsRow : OpenClaim := { program := "ytdeolllpbflemaa", sum := "1e21a91202364e02f0d78b216eb4f0b1849b52cfe21071c02dafd4f1558df853", func := "roundhouse/roundhouselaw10.PastJoins", spec := "pastJoins", inPlace := ["slices.overlaps[roundhouse/api.Pair]"], unfollowed := true, recurses := true, apart := false }
def PastJoinsSaid : Prop := pastJoinsRow.holds Try.pinned (OpenSpec.ofChange pastJoinsSpec)

/-- ITS FALSE NEIGHBOUR: 'it returns false'. Refute it at one input. -/
def pastJoinsWrong : ChangeSpec := { name := "pastJoins", fn := fun _ => fun
  | [d1, d2, d3, d4] => { results := [.lit (.bool false)], args := [d1, d2, d3, d4] }
  | _ => none }
def PastJoinsWrongFalsely : Prop := pastJoinsRow.holds Try.pinned (OpenSpec.ofChange pastJoinsWrong)

/-- 'roundhouselaw10.PastBack': WHATEVER THE INPUT: true; the input reads as it did. -/
def pastBackSpec : ChangeSpec := { name := "pastBack", fn := fun _ => fun
  | [d1, d2, d3, d4] => { results := [.lit (.bool true)], args := [d1, d2, d3, d4] }
  | _ => none }
def pastBackRow : OpenClaim := { program := "ytdeolllpbflemaa", sum := "1e21a91202364e02f0d78b216eb4f0b1849b52cfe21071c02dafd4f1558df853", func := "roundhouse/roundhouselaw10.PastBack", spec := "pastBack", inPlace := ["slices.overlaps[roundhouse/api.Pair]"], unfollowed := true, recurses := true, apart := false }
def PastBackSaid : Prop := pastBackRow.holds Try.pinned (OpenSpec.ofChange pastBackSpec)

/-- ITS FALSE NEIGHBOUR: 'it returns false'. Refute it at one input. -/
def pastBackWrong : ChangeSpec := { name := "pastBack", fn := fun _ => fun
  | [d1, d2, d3, d4] => { results := [.lit (.bool false)], args := [d1, d2, d3, d4] }
  | _ => none }
def PastBackWrongFalsely : Prop := pastBackRow.holds Try.pinned (OpenSpec.ofChange pastBackWrong)

/-- 'roundhouselaw10.PastForgets': WHATEVER THE INPUT: true; the input reads as it did. -/
def pastForgetsSpec : ChangeSpec := { name := "pastForgets", fn := fun _ => fun
  | [d1, d2, d3] => { results := [.lit (.bool true)], args := [d1, d2, d3] }
  | _ => none }
def pastForgetsRow : OpenClaim := { program := "ytdeolllpbflemaa", sum := "1e21a91202364e02f0d78b216eb4f0b1849b52cfe21071c02dafd4f1558df853", func := "roundhouse/roundhouselaw10.PastForgets", spec := "pastForgets", inPlace := ["slices.overlaps[roundhouse/api.Pair]"], unfollowed := true, recurses := true, apart := false }
def PastForgetsSaid : Prop := pastForgetsRow.holds Try.pinned (OpenSpec.ofChange pastForgetsSpec)

/-- ITS FALSE NEIGHBOUR: 'it returns false'. Refute it at one input. -/
def pastForgetsWrong : ChangeSpec := { name := "pastForgets", fn := fun _ => fun
  | [d1, d2, d3] => { results := [.lit (.bool false)], args := [d1, d2, d3] }
  | _ => none }
def PastForgetsWrongFalsely : Prop := pastForgetsRow.holds Try.pinned (OpenSpec.ofChange pastForgetsWrong)

/-- 'roundhouselaw10.PastKeys': WHATEVER THE INPUT: true; the input reads as it did. -/
def pastKeysSpec : ChangeSpec := { name := "pastKeys", fn := fun _ => fun
  | [d1, d2, d3, d4] => { results := [.lit (.bool true)], args := [d1, d2, d3, d4] }
  | _ => none }
def pastKeysRow : OpenClaim := { program := "ytdeolllpbflemaa", sum := "1e21a91202364e02f0d78b216eb4f0b1849b52cfe21071c02dafd4f1558df853", func := "roundhouse/roundhouselaw10.PastKeys", spec := "pastKeys", inPlace := ["slices.overlaps[roundhouse/api.Pair]"], unfollowed := true, recurses := true, apart := false }
def PastKeysSaid : Prop := pastKeysRow.holds Try.pinned (OpenSpec.ofChange pastKeysSpec)

/-- ITS FALSE NEIGHBOUR: 'it returns false'. Refute it at one input. -/
def pastKeysWrong : ChangeSpec := { name := "pastKeys", fn := fun _ => fun
  | [d1, d2, d3, d4] => { results := [.lit (.bool false)], args := [d1, d2, d3, d4] }
  | _ => none }
def PastKeysWrongFalsely : Prop := pastKeysRow.holds Try.pinned (OpenSpec.ofChange pastKeysWrong)

/-- 'roundhouselaw10.PastNone': WHATEVER THE INPUT: true; the input reads as it did. -/
def pastNoneSpec : ChangeSpec := { name := "pastNone", fn := fun _ => fun
  | [d1, d2, d3, d4] => { results := [.lit (.bool true)], args := [d1, d2, d3, d4] }
  | _ => none }
def pastNoneRow : OpenClaim := { program := "ytdeolllpbflemaa", sum := "1e21a91202364e02f0d78b216eb4f0b1849b52cfe21071c02dafd4f1558df853", func := "roundhouse/roundhouselaw10.PastNone", spec := "pastNone", inPlace := ["slices.overlaps[roundhouse/api.Pair]"], unfollowed := true, recurses := true, apart := false }
def PastNoneSaid : Prop := pastNoneRow.holds Try.pinned (OpenSpec.ofChange pastNoneSpec)

/-- ITS FALSE NEIGHBOUR: 'it returns false'. Refute it at one input. -/
def pastNoneWrong : ChangeSpec := { name := "pastNone", fn := fun _ => fun
  | [d1, d2, d3, d4] => { results := [.lit (.bool false)], args := [d1, d2, d3, d4] }
  | _ => none }
def PastNoneWrongFalsely : Prop := pastNoneRow.holds Try.pinned (OpenSpec.ofChange pastNoneWrong)

/-- 'roundhouselaw10.PastPlays': WHATEVER THE INPUT: true; the input reads as it did. -/
def pastPlaysSpec : ChangeSpec := { name := "pastPlays", fn := fun _ => fun
  | [d1, d2, d3] => { results := [.lit (.bool true)], args := [d1, d2, d3] }
  | _ => none }
def pastPlaysRow : OpenClaim := { program := "ytdeolllpbflemaa", sum := "1e21a91202364e02f0d78b216eb4f0b1849b52cfe21071c02dafd4f1558df853", func := "roundhouse/roundhouselaw10.PastPlays", spec := "pastPlays", inPlace := ["slices.overlaps[roundhouse/api.Pair]"], unfollowed := true, recurses := true, apart := false }
def PastPlaysSaid : Prop := pastPlaysRow.holds Try.pinned (OpenSpec.ofChange pastPlaysSpec)

/-- ITS FALSE NEIGHBOUR: 'it returns false'. Refute it at one input. -/
def pastPlaysWrong : ChangeSpec := { name := "pastPlays", fn := fun _ => fun
  | [d1, d2, d3] => { results := [.lit (.bool false)], args := [d1, d2, d3] }
  | _ => none }
def PastPlaysWrongFalsely : Prop := pastPlaysRow.holds Try.pinned (OpenSpec.ofChange pastPlaysWrong)

/- THE SECOND FORM. 'bulk': how many values and letters a reading holds, each counted each time it is reached (what is shared counts as often as it is met; a slice's spare places count too). A statement '..UptoSaid' is the law's where the arguments, and the package variables that the reading takes, are together of bulk at most 1048576: NARROWER than '..Said'. Prove '..Said' where nothing that the law and all that it calls make is longer than what came in: it says more and counts as full. Else prove '..UptoSaid'. A law counts once. -/
mutual
def uptoBulk {H : Type} : DataW H → Nat
  | .lit (.string bytes) => bytes.length + 1
  | .lit _ => 1
  | .nil => 1
  | .ptr d => uptoBulk d + 1
  | .slice elems spare => uptoBulkAll elems + uptoBulkAll spare + 1
  | .agg parts => uptoBulkAll parts + 1
  | .iface _ d => uptoBulk d + 1
  | .map entries => uptoBulkEntries entries + 1
  | .held _ => 1
def uptoBulkAll {H : Type} : List (DataW H) → Nat
  | [] => 0
  | d :: r => uptoBulk d + uptoBulkAll r
def uptoBulkEntries {H : Type} : List (Lit × DataW H) → Nat
  | [] => 0
  | x :: r => uptoBulkEntry x + uptoBulkEntries r
def uptoBulkEntry {H : Type} : Lit × DataW H → Nat
  | (.string bytes, d) => bytes.length + uptoBulk d + 1
  | (_, d) => uptoBulk d + 1
 end
def uptoSmall : (H : Type) → List (DataW H) → Bool := fun _ ds => decide (uptoBulkAll ds ≤ 1048576)
def OpenSpec.upto (s : _root_.Go.ChangeSpec) : _root_.Go.OpenSpec := { _root_.Go.OpenSpec.ofChange s with cond := some uptoSmall }

/-- 'roundhouselaw10.PastStays', WHERE WHAT IT READS IS OF BULK AT MOST 1048576: true; the input reads as it did. -/
def pastStaysUptoRow : OpenClaim := { program := "ytdeolllpbflemaa", sum := "1e21a91202364e02f0d78b216eb4f0b1849b52cfe21071c02dafd4f1558df853", func := "roundhouse/roundhouselaw10.PastStays", spec := "pastStays", inPlace := ["slices.overlaps[roundhouse/api.Pair]"], unfollowed := true, recurses := true, apart := false, narrowed := true }
def PastStaysUptoSaid : Prop := pastStaysUptoRow.holds Try.pinned (OpenSpec.upto pastStaysSpec)

/-- 'roundhouselaw10.PastJoins', WHERE WHAT IT READS IS OF BULK AT MOST 1048576: true; the input reads as it did. -/
def pastJoinsUptoRow : OpenClaim := { program := "ytdeolllpbflemaa", sum := "1e21a91202364e02f0d78b216eb4f0b1849b52cfe21071c02dafd4f1558df853", func := "roundhouse/roundhouselaw10.PastJoins", spec := "pastJoins", inPlace := ["slices.overlaps[roundhouse/api.Pair]"], unfollowed := true, recurses := true, apart := false, narrowed := true }
def PastJoinsUptoSaid : Prop := pastJoinsUptoRow.holds Try.pinned (OpenSpec.upto pastJoinsSpec)

/-- 'roundhouselaw10.PastBack', WHERE WHAT IT READS IS OF BULK AT MOST 1048576: true; the input reads as it did. -/
def pastBackUptoRow : OpenClaim := { program := "ytdeolllpbflemaa", sum := "1e21a91202364e02f0d78b216eb4f0b1849b52cfe21071c02dafd4f1558df853", func := "roundhouse/roundhouselaw10.PastBack", spec := "pastBack", inPlace := ["slices.overlaps[roundhouse/api.Pair]"], unfollowed := true, recurses := true, apart := false, narrowed := true }
def PastBackUptoSaid : Prop := pastBackUptoRow.holds Try.pinned (OpenSpec.upto pastBackSpec)

/-- 'roundhouselaw10.PastForgets', WHERE WHAT IT READS IS OF BULK AT MOST 1048576: true; the input reads as it did. -/
def pastForgetsUptoRow : OpenClaim := { program := "ytdeolllpbflemaa", sum := "1e21a91202364e02f0d78b216eb4f0b1849b52cfe21071c02dafd4f1558df853", func := "roundhouse/roundhouselaw10.PastForgets", spec := "pastForgets", inPlace := ["slices.overlaps[roundhouse/api.Pair]"], unfollowed := true, recurses := true, apart := false, narrowed := true }
def PastForgetsUptoSaid : Prop := pastForgetsUptoRow.holds Try.pinned (OpenSpec.upto pastForgetsSpec)

/-- 'roundhouselaw10.PastKeys', WHERE WHAT IT READS IS OF BULK AT MOST 1048576: true; the input reads as it did. -/
def pastKeysUptoRow : OpenClaim := { program := "ytdeolllpbflemaa", sum := "1e21a91202364e02f0d78b216eb4f0b1849b52cfe21071c02dafd4f1558df853", func := "roundhouse/roundhouselaw10.PastKeys", spec := "pastKeys", inPlace := ["slices.overlaps[roundhouse/api.Pair]"], unfollowed := true, recurses := true, apart := false, narrowed := true }
def PastKeysUptoSaid : Prop := pastKeysUptoRow.holds Try.pinned (OpenSpec.upto pastKeysSpec)

/-- 'roundhouselaw10.PastNone', WHERE WHAT IT READS IS OF BULK AT MOST 1048576: true; the input reads as it did. -/
def pastNoneUptoRow : OpenClaim := { program := "ytdeolllpbflemaa", sum := "1e21a91202364e02f0d78b216eb4f0b1849b52cfe21071c02dafd4f1558df853", func := "roundhouse/roundhouselaw10.PastNone", spec := "pastNone", inPlace := ["slices.overlaps[roundhouse/api.Pair]"], unfollowed := true, recurses := true, apart := false, narrowed := true }
def PastNoneUptoSaid : Prop := pastNoneUptoRow.holds Try.pinned (OpenSpec.upto pastNoneSpec)

/-- 'roundhouselaw10.PastPlays', WHERE WHAT IT READS IS OF BULK AT MOST 1048576: true; the input reads as it did. -/
def pastPlaysUptoRow : OpenClaim := { program := "ytdeolllpbflemaa", sum := "1e21a91202364e02f0d78b216eb4f0b1849b52cfe21071c02dafd4f1558df853", func := "roundhouse/roundhouselaw10.PastPlays", spec := "pastPlays", inPlace := ["slices.overlaps[roundhouse/api.Pair]"], unfollowed := true, recurses := true, apart := false, narrowed := true }
def PastPlaysUptoSaid : Prop := pastPlaysUptoRow.holds Try.pinned (OpenSpec.upto pastPlaysSpec)

end Rows
end Go.Proofs.Ytdeolllpbflemaa
