/- Pairs: whether they are sound, and whether two lists are one; the document's. Conditions: on sizes. -/
import Derived.Test.YtdoikpagilmplaaLSq2
set_option maxRecDepth 100000
set_option maxHeartbeats 8000000
set_option linter.unusedSimpArgs false
set_option linter.unusedVariables false
namespace Go.Proofs.Ytdoikpagilmplaa
open Go Go.Lx
open Go.Sx (vcIf)

structure Pr where
  key : List UInt8
  val : List UInt8
def Pr.v (p : Pr) : PV := .agg [.str p.key, .str p.val]
def prP (l : List Pr) : List PV := l.map Pr.v
theorem prP_length (l : List Pr) : (prP l).length = l.length := List.length_map _
theorem prP_get {l : List Pr} {i : Nat} {p : Pr} (h : l[i]? = some p) : (prP l)[i]? = some (.agg [.str p.key, .str p.val]) := by unfold prP; rw [List.getElem?_map, h]; rfl
theorem Pr.wf (p : Pr) : p.v.wf 2 := ⟨rfl, fun u hu => by simp [Pr.v, PV.cells] at hu; rcases hu with rfl | rfl <;> rfl⟩
def gP (ps : List Pr) (i : Nat) : Bool :=
  match ps[i]? with
  | none => true
  | some p => decide (p.key.length ≤ 16 ∧ p.val.length ≤ 64 ∧ (i = 0 ∨ bl (ps.getD (i - 1) ⟨[], []⟩).key p.key = true))
theorem gP_some {ps : List Pr} {i : Nat} {p : Pr} (h : ps[i]? = some p) : gP ps i = true ↔ (p.key.length ≤ 16 ∧ p.val.length ≤ 64 ∧ (i = 0 ∨ bl (ps.getD (i - 1) ⟨[], []⟩).key p.key = true)) := by
  unfold gP; rw [h]; exact decide_eq_true_iff
def sndP (ps : List Pr) : Bool := decide (∀ i, i < ps.length → gP ps i = true)
theorem sndP_bad {ps : List Pr} {i : Nat} {p : Pr} (h : ps[i]? = some p) (hn : ¬ (p.key.length ≤ 16 ∧ p.val.length ≤ 64 ∧ (i = 0 ∨ bl (ps.getD (i - 1) ⟨[], []⟩).key p.key = true))) : sndP ps = false := by
  unfold sndP
  exact decide_eq_false fun c => hn ((gP_some h).1 (c i (List.getElem?_eq_some_iff.1 h).1))
def Pr.fit (p : Pr) : Prop := p.key.length < 281474976710656 ∧ p.val.length < 281474976710656

end Go.Proofs.Ytdoikpagilmplaa
