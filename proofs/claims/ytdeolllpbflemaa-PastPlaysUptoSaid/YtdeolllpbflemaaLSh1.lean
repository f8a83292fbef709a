/- Whether bounds are sound: the program's answer and the document's. Conditions: on sizes. -/
import Derived.Test.YtdeolllpbflemaaLEnv
set_option maxRecDepth 100000
set_option maxHeartbeats 8000000
set_option linter.unusedSimpArgs false
set_option linter.unusedVariables false
namespace Go.Proofs.Ytdeolllpbflemaa
open Go Go.Lx
open Go.Sx (vcIf)

abbrev BL := List (List UInt8)
def sP (bs : BL) : List PV := bs.map .str
theorem sP_length (bs : BL) : (sP bs).length = bs.length := List.length_map _
theorem sP_get {bs : BL} {i : Nat} {b : List UInt8} (h : bs[i]? = some b) : (sP bs)[i]? = some (.str b) := by unfold sP; rw [List.getElem?_map, h]; rfl
def gB (bs : BL) (i : Nat) : Bool :=
  match bs[i]? with
  | none => true
  | some b => decide (1 ≤ b.length ∧ b.length ≤ 16 ∧ (i = 0 ∨ bl (bs.getD (i - 1) []) b = true))
theorem gB_some {bs : BL} {i : Nat} {b : List UInt8} (h : bs[i]? = some b) : gB bs i = true ↔ (1 ≤ b.length ∧ b.length ≤ 16 ∧ (i = 0 ∨ bl (bs.getD (i - 1) []) b = true)) := by
  unfold gB; rw [h]; exact decide_eq_true_iff
def sndB (bs : BL) : Bool := decide (bs.length < 8 ∧ ∀ i, i < bs.length → gB bs i = true)
theorem snd_bad {bs : BL} {i : Nat} {b : List UInt8} (h : bs[i]? = some b) (hn : ¬ (1 ≤ b.length ∧ b.length ≤ 16 ∧ (i = 0 ∨ bl (bs.getD (i - 1) []) b = true))) : sndB bs = false := by
  unfold sndB
  refine decide_eq_false fun c => hn ((gB_some h).1 (c.2 i (List.getElem?_eq_some_iff.1 h).1))

end Go.Proofs.Ytdeolllpbflemaa
