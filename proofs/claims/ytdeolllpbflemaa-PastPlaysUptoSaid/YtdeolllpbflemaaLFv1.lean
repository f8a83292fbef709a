/- Transactions: sound or not. Conditions: on sizes. -/
import Derived.Test.YtdeolllpbflemaaLCh1
set_option maxRecDepth 100000
set_option maxHeartbeats 4000000
set_option linter.unusedSimpArgs false
set_option linter.unusedVariables false
namespace Go.Proofs.Ytdeolllpbflemaa
open Go Go.Lx
open Go.Sx (vcIf)

structure Spn where
  lo : List UInt8
  hi : List UInt8
def Spn.v (c : Spn) : PV := .agg [.str c.lo, .str c.hi]
def pP (l : List Spn) : List PV := l.map Spn.v
theorem pP_length (l : List Spn) : (pP l).length = l.length := List.length_map _
theorem pP_get {l : List Spn} {i : Nat} {c : Spn} (h : l[i]? = some c) : (pP l)[i]? = some (.agg [.str c.lo, .str c.hi]) := by unfold pP; rw [List.getElem?_map, h]; rfl
theorem Spn.wf (c : Spn) : c.v.wf 2 := ⟨rfl, fun u hu => by simp [Spn.v, PV.cells] at hu; rcases hu with rfl | rfl <;> rfl⟩
/-- A span that is too long, or runs backward. -/
def Spn.bad (c : Spn) : Bool := decide (17 < c.lo.length ∨ 17 < c.hi.length ∨ Op.bytesLess c.hi c.lo = true)
structure Tx where
  r : Int
  sp : List Spn
  ch : List Chg
def Tx.v (s : Tx) : PV := .agg [.int .i64 s.r, .sl (pP s.sp), .sl (cP s.ch)]
def Tx.okB (s : Tx) : Bool := decide (0 ≤ s.r ∧ s.sp.length ≤ 24 ∧ s.ch.length ≤ 24 ∧ chks s.ch = 0 ∧ s.sp.any Spn.bad = false)
theorem Tx.ok_iff (s : Tx) : s.okB = true ↔ (0 ≤ s.r ∧ s.sp.length ≤ 24 ∧ s.ch.length ≤ 24 ∧ chks s.ch = 0 ∧ s.sp.any Spn.bad = false) := by unfold Tx.okB; rw [decide_eq_true_eq]
def Tx.fit (s : Tx) : Prop := (-9223372036854775808 ≤ s.r ∧ s.r ≤ 9223372036854775807) ∧ (∀ c ∈ s.ch, c.fit) ∧ s.sp.length < 9223372036854775807 ∧ s.ch.length < 9223372036854775807

end Go.Proofs.Ytdeolllpbflemaa
