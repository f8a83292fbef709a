/-
  No cell of these rows narrows 'for every input' (looked for: loops, veiled, ifaces, maps, wideKeys, modest, calm, conditions, laid).
  DERIVED. THE GIVEN ROWS OF THIS SEAT. 6 by the template 'for every input the law returns true; each argument reads behind the call as it read before'; 0 by the template 'total and deterministic' (their statements: YtnigonhkfpnodaaTotals.lean).
  GIVEN WITH THE SEED: the statements are not yours to turn. If you find one false, say at which input.
  Laid BY PROGRAM, IN A SANDBOX (cutbox-rows.mjs): the forced cells as the released guide's own fill.sh prints them over the translation 62b8a81fb6463567… (all of the seat's roots in one cut). By AI agents, Wed Nov 11 2026. No macro, syntax, notation, axiom, sorry.
-/
import Derived.Test.YtnigonhkfpnodaaChecked
import GoSem.Claim
import GoSem.ClaimJoined
import GoSem.ClaimMapViews
import Derived.JoinedTies
import Derived.KernelRfl
namespace Go.Proofs.Ytnigonhkfpnodaa
/- THE CELL 'sum', in the pinned program and in every row, IS THE sha256 OF THE DUMP (.gsa) THAT YtnigonhkfpnodaaProg.lean LOADS. Nothing in Lean hashes anything: it is a label: what it is worth is what the hold of that sum in a sandbox is worth. -/
noncomputable def Try.pinned : Pinned := { name := "ytnigonhkfpnodaa", sum := "62b8a81fb64635676bc68fd3c6b6ea1929c7ce5615dfe421e72c2fd97cd372cc", checked := Try.checked }
namespace Rows
def none {H : Type} : Left H := { results := [], args := [] }

/-- 'roundhouselaw15.CouncilNone': WHATEVER THE INPUT: true; the input reads as it did. -/
def councilNoneSpec : ChangeSpec := { name := "councilNone", fn := fun _ => fun
  | [d1, d2] => { results := [.lit (.bool true)], args := [d1, d2] }
  | _ => none }
def councilNoneRow : OpenClaim := { program := "ytnigonhkfpnodaa", sum := "62b8a81fb64635676bc68fd3c6b6ea1929c7ce5615dfe421e72c2fd97cd372cc", func := "roundhouse/roundhouselaw15.CouncilNone", spec := "councilNone", unfollowed := true, recurses := true, apart := false }
def CouncilNoneSaid : Prop := councilNoneRow.holds Try.pinned (OpenSpec.ofChange councilNoneSpec)

/-- ITS FALSE NEIGHBOUR: 'it returns false'. Refute it at one input. -/
def councilNoneWrong : ChangeSpec := { name := "councilNone", fn := fun _ => fun
  | [d1, d2] => { results := [.lit (.bool false)], args := [d1, d2] }
  | _ => none }
def CouncilNoneWrongFalsely : Prop := councilNoneRow.holds Try.pinned (OpenSpec.ofChange councilNoneWrong)

/-- 'roundhouselaw15.CouncilKeeps': WHATEVER THE INPUT: true; the input reads as it did. -/
def councilKeepsSpec : ChangeSpec := { name := "councilKeeps", fn := fun _ => fun
  | [d1, d2, d3, d4] => { results := [.lit (.bool true)], args := [d1, d2, d3, d4] }
  | _ => none }
def councilKeepsRow : OpenClaim := { program := "ytnigonhkfpnodaa", sum := "62b8a81fb64635676bc68fd3c6b6ea1929c7ce5615dfe421e72c2fd97cd372cc", func := "roundhouse/roundhouselaw15.CouncilKeeps", spec := "councilKeeps", unfollowed := true, recurses := true, apart := false }
def CouncilKeepsSaid : Prop := councilKeepsRow.holds Try.pinned (OpenSpec.ofChange councilKeepsSpec)

/-- ITS FALSE NEIGHBOUR: 'it returns false'. Refute it at one input. -/
def councilKeepsWrong : ChangeSpec := { name := "councilKeeps", fn := fun _ => fun
  | [d1, d2, d3, d4] => { results := [.lit (.bool false)], args := [d1, d2, d3, d4] }
  | _ => none }
def CouncilKeepsWrongFalsely : Prop := councilKeepsRow.holds Try.pinned (OpenSpec.ofChange councilKeepsWrong)

/-- 'roundhouselaw15.CouncilPlays': WHATEVER THE INPUT: true; the input reads as it did. -/
def councilPlaysSpec : ChangeSpec := { name := "councilPlays", fn := fun _ => fun
  | [d] => { results := [.lit (.bool true)], args := [d] }
  | _ => none }
def councilPlaysRow : OpenClaim := { program := "ytnigonhkfpnodaa", sum := "62b8a81fb64635676bc68fd3c6b6ea1929c7ce5615dfe421e72c2fd97cd372cc", func := "roundhouse/roundhouselaw15.CouncilPlays", spec := "councilPlays", unfollowed := true, recurses := true, apart := false }
def CouncilPlaysSaid : Prop := councilPlaysRow.holds Try.pinned (OpenSpec.ofChange councilPlaysSpec)

/-- ITS FALSE NEIGHBOUR: 'it returns false'. Refute it at one input. -/
def councilPlaysWrong : ChangeSpec := { name := "councilPlays", fn := fun _ => fun
  | [d] => { results := [.lit (.bool false)], args := [d] }
  | _ => none }
def CouncilPlaysWrongFalsely : Prop := councilPlaysRow.holds Try.pinned (OpenSpec.ofChange councilPlaysWrong)

/-- 'roundhouselaw18.ShelfParts': WHATEVER THE INPUT: true; the input reads as it did. -/
def shelfPartsSpec : ChangeSpec := { name := "shelfParts", fn := fun _ => fun
  | [d1, d2] => { results := [.lit (.bool true)], args := [d1, d2] }
  | _ => none }
def shelfPartsRow : OpenClaim := { program := "ytnigonhkfpnodaa", sum := "62b8a81fb64635676bc68fd3c6b6ea1929c7ce5615dfe421e72c2fd97cd372cc", func := "roundhouse/roundhouselaw18.ShelfParts", spec := "shelfParts", inPlace := ["slices.overlaps[roundhouse/api.Pair]"], unfollowed := true, recurses := true, apart := false }
def ShelfPartsSaid : Prop := shelfPartsRow.holds Try.pinned (OpenSpec.ofChange shelfPartsSpec)

/-- ITS FALSE NEIGHBOUR: 'it returns false'. Refute it at one input. -/
def shelfPartsWrong : ChangeSpec := { name := "shelfParts", fn := fun _ => fun
  | [d1, d2] => { results := [.lit (.bool false)], args := [d1, d2] }
  | _ => none }
def ShelfPartsWrongFalsely : Prop := shelfPartsRow.holds Try.pinned (OpenSpec.ofChange shelfPartsWrong)

/-- 'roundhouselaw18.ShelfAgain': WHATEVER THE INPUT: true; the input reads as it did. -/
def shelfAgainSpec : ChangeSpec := { name := "shelfAgain", fn := fun _ => fun
  | [d1, d2, d3] => { results := [.lit (.bool true)], args := [d1, d2, d3] }
  | _ => none }
def shelfAgainRow : OpenClaim := { program := "ytnigonhkfpnodaa", sum := "62b8a81fb64635676bc68fd3c6b6ea1929c7ce5615dfe421e72c2fd97cd372cc", func := "roundhouse/roundhouselaw18.ShelfAgain", spec := "shelfAgain", inPlace := ["slices.overlaps[roundhouse/api.Pair]"], unfollowed := true, recurses := true, apart := false }
def ShelfAgainSaid : Prop := shelfAgainRow.holds Try.pinned (OpenSpec.ofChange shelfAgainSpec)

/-- ITS FALSE NEIGHBOUR: 'it returns false'. Refute it at one input. -/
def shelfAgainWrong : ChangeSpec := { name := "shelfAgain", fn := fun _ => fun
  | [d1, d2, d3] => { results := [.lit (.bool false)], args := [d1, d2, d3] }
  | _ => none }
def ShelfAgainWrongFalsely : Prop := shelfAgainRow.holds Try.pinned (OpenSpec.ofChange shelfAgainWrong)

/-- 'roundhouselaw18.ShelfNone': WHATEVER THE INPUT: true; the input reads as it did. -/
def shelfNoneSpec : ChangeSpec := { name := "shelfNone", fn := fun _ => fun
  | [d1, d2, d3, d4] => { results := [.lit (.bool true)], args := [d1, d2, d3, d4] }
  | _ => none }
def shelfNoneRow : OpenClaim := { program := "ytnigonhkfpnodaa", sum := "62b8a81fb64635676bc68fd3c6b6ea1929c7ce5615dfe421e72c2fd97cd372cc", func := "roundhouse/roundhouselaw18.ShelfNone", spec := "shelfNone", inPlace := ["slices.overlaps[roundhouse/api.Pair]"], unfollowed := true, recurses := true, apart := false }
def ShelfNoneSaid : Prop := shelfNoneRow.holds Try.pinned (OpenSpec.ofChange shelfNoneSpec)

/-- ITS FALSE NEIGHBOUR: 'it returns false'. Refute it at one input. -/
def shelfNoneWrong : ChangeSpec := { name := "shelfNone", fn := fun _ => fun
  | [d1, d2, d3, d4] => { results := [.lit (.bool false)], args := [d1, d2, d3, d4] }
  | _ => none }
def ShelfNoneWrongFalsely : Prop := shelfNoneRow.holds Try.pinned (OpenSpec.ofChange shelfNoneWrong)

/- THE SECOND FORM. 'bulk': how many values and letters a reading holds, each counted each time it is reached (what is shared counts as often as it is met; a slice's spare places count too). A statement '..UptoSaid' is the law's where the arguments, and the package variables that the reading takes, are together of bulk at most 1048576: NARROWER than '..Said'. Prove '..Said' where nothing that the law and all that it calls make is longer than what came in: it says more and counts as full. Else prove '..UptoSaid'. A law counts once. -/
mutual
def uptoBulk {H : Type} : DataW H → Nat
  | .lit (.string bytes) => bytes.length + 1
  | .lit _ => 1
  | .nil => 1
  | .ptr d => uptoBulk d + 1
  | .slice elems spare => uptoBulkAll elems + uptoBulkAll spare + 1
  | .agg parts => uptoBulkAll parts + 1
  | .iface _ d => uptoBulk d + 1
  | .map entries => uptoBulkEntries entries + 1
  | .held _ => 1
def uptoBulkAll {H : Type} : List (DataW H) → Nat
  | [] => 0
  | d :: r => uptoBulk d + uptoBulkAll r
def uptoBulkEntries {H : Type} : List (Lit × DataW H) → Nat
  | [] => 0
  | x :: r => uptoBulkEntry x + uptoBulkEntries r
def uptoBulkEntry {H : Type} : Lit × DataW H → Nat
  | (.string bytes, d) => bytes.length + uptoBulk d + 1
  | (_, d) => uptoBulk d + 1
 end
def uptoSmall : (H : Type) → List (DataW H) → Bool := fun _ ds => decide (uptoBulkAll ds ≤ 1048576)
def OpenSpec.upto (s : _root_.Go.ChangeSpec) : _root_.Go.OpenSpec := { _root_.Go.OpenSpec.ofChange s with cond := some uptoSmall }

/-- 'roundhouselaw15.CouncilNone', WHERE WHAT IT READS IS OF BULK AT MOST 1048576: true; the input reads as it did. -/
def councilNoneUptoRow : OpenClaim := { program := "ytnigonhkfpnodaa", sum := "62b8a81fb64635676bc68fd3c6b6ea1929c7ce5615dfe421e72c2fd97cd372cc", func := "roundhouse/roundhouselaw15.CouncilNone", spec := "councilNone", unfollowed := true, recurses := true, apart := false, narrowed := true }
def CouncilNoneUptoSaid : Prop := councilNoneUptoRow.holds Try.pinned (OpenSpec.upto councilNoneSpec)

/-- 'roundhouselaw15.CouncilKeeps', WHERE WHAT IT READS IS OF BULK AT MOST 1048576: true; the input reads as it did. -/
def councilKeepsUptoRow : OpenClaim := { program := "ytnigonhkfpnodaa", sum := "62b8a81fb64635676bc68fd3c6b6ea1929c7ce5615dfe421e72c2fd97cd372cc", func := "roundhouse/roundhouselaw15.CouncilKeeps", spec := "councilKeeps", unfollowed := true, recurses := true, apart := false, narrowed := true }
def CouncilKeepsUptoSaid : Prop := councilKeepsUptoRow.holds Try.pinned (OpenSpec.upto councilKeepsSpec)

/-- 'roundhouselaw15.CouncilPlays', WHERE WHAT IT READS IS OF BULK AT MOST 1048576: true; the input reads as it did. -/
def councilPlaysUptoRow : OpenClaim := { program := "ytnigonhkfpnodaa", sum := "62b8a81fb64635676bc68fd3c6b6ea1929c7ce5615dfe421e72c2fd97cd372cc", func := "roundhouse/roundhouselaw15.CouncilPlays", spec := "councilPlays", unfollowed := true, recurses := true, apart := false, narrowed := true }
def CouncilPlaysUptoSaid : Prop := councilPlaysUptoRow.holds Try.pinned (OpenSpec.upto councilPlaysSpec)

/-- 'roundhouselaw18.ShelfParts', WHERE WHAT IT READS IS OF BULK AT MOST 1048576: true; the input reads as it did. -/
def shelfPartsUptoRow : OpenClaim := { program := "ytnigonhkfpnodaa", sum := "62b8a81fb64635676bc68fd3c6b6ea1929c7ce5615dfe421e72c2fd97cd372cc", func := "roundhouse/roundhouselaw18.ShelfParts", spec := "shelfParts", inPlace := ["slices.overlaps[roundhouse/api.Pair]"], unfollowed := true, recurses := true, apart := false, narrowed := true }
def ShelfPartsUptoSaid : Prop := shelfPartsUptoRow.holds Try.pinned (OpenSpec.upto shelfPartsSpec)

/-- 'roundhouselaw18.ShelfAgain', WHERE WHAT IT READS IS OF BULK AT MOST 1048576: true; the input reads as it did. -/
def shelfAgainUptoRow : OpenClaim := { program := "ytnigonhkfpnodaa", sum := "62b8a81fb64635676bc68fd3c6b6ea1929c7ce5615dfe421e72c2fd97cd372cc", func := "roundhouse/roundhouselaw18.ShelfAgain", spec := "shelfAgain", inPlace := ["slices.overlaps[roundhouse/api.Pair]"], unfollowed := true, recurses := true, apart := false, narrowed := true }
def ShelfAgainUptoSaid : Prop := shelfAgainUptoRow.holds Try.pinned (OpenSpec.upto shelfAgainSpec)

/-- 'roundhouselaw18.ShelfNone', WHERE WHAT IT READS IS OF BULK AT MOST 1048576: true; the input reads as it did. -/
def shelfNoneUptoRow : OpenClaim := { program := "ytnigonhkfpnodaa", sum := "62b8a81fb64635676bc68fd3c6b6ea1929c7ce5615dfe421e72c2fd97cd372cc", func := "roundhouse/roundhouselaw18.ShelfNone", spec := "shelfNone", inPlace := ["slices.overlaps[roundhouse/api.Pair]"], unfollowed := true, recurses := true, apart := false, narrowed := true }
def ShelfNoneUptoSaid : Prop := shelfNoneUptoRow.holds Try.pinned (OpenSpec.upto shelfNoneSpec)

end Rows
end Go.Proofs.Ytnigonhkfpnodaa
