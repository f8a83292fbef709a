/- Ledgers: sound or not; the document's too. Conditions: on sizes. -/
import Derived.Test.YtdeolllpbflemaaLCh1
set_option maxRecDepth 100000
set_option maxHeartbeats 8000000
set_option linter.unusedSimpArgs false
set_option linter.unusedVariables false
namespace Go.Proofs.Ytdeolllpbflemaa
open Go Go.Lx
open Go.Sx (vcIf)

structure Bt where
  prev : Int
  ver : Int
  known : Int
  ch : List Chg
def Bt.v (b : Bt) : PV := .agg [.int .i64 b.prev, .int .i64 b.ver, .int .i64 b.known, .sl (cP b.ch)]
def btP (l : List Bt) : List PV := l.map Bt.v
theorem btP_length (l : List Bt) : (btP l).length = l.length := List.length_map _
theorem btP_get {l : List Bt} {i : Nat} {b : Bt} (h : l[i]? = some b) : (btP l)[i]? = some (.agg [.int .i64 b.prev, .int .i64 b.ver, .int .i64 b.known, .sl (cP b.ch)]) := by unfold btP; rw [List.getElem?_map, h]; rfl
theorem Bt.wf (b : Bt) : b.v.wf 4 := ⟨rfl, fun u hu => by simp [Bt.v, PV.cells] at hu; rcases hu with rfl | rfl | rfl | rfl <;> rfl⟩
def Bt.fit (b : Bt) : Prop := (∀ c ∈ b.ch, c.fit) ∧ b.ch.length < 9223372036854775807 ∧ -9223372036854775808 ≤ b.ver ∧ b.ver ≤ 9223372036854775807
/-- A batch that stands where it may. -/
def bgood (l : List Bt) (j : Nat) : Prop := ∀ b, l[j]? = some b → 0 ≤ b.ver ∧ chks b.ch = 0 ∧ ∀ a, 0 < j → l[j - 1]? = some a → a.ver < b.ver
def lsnd (l : List Bt) : Prop := ∀ j, j < l.length → bgood l j
theorem lsnd_next {l : List Bt} {i : Nat} (h : ∀ q, q < i → bgood l q) (hi : bgood l i) : ∀ q, q < i + 1 → bgood l q := fun q hq => by
  rcases Nat.lt_succ_iff_lt_or_eq.1 hq with c | c
  · exact h q c
  · rw [c]; exact hi

end Go.Proofs.Ytdeolllpbflemaa
