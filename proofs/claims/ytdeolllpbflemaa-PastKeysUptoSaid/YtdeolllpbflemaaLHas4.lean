/- Inputs read as pairs. No conditions. -/
import Derived.Test.YtdeolllpbflemaaLHas
import Derived.Test.YtdeolllpbflemaaLAp1
set_option maxRecDepth 100000
set_option maxHeartbeats 4000000
set_option linter.unusedSimpArgs false
set_option linter.unusedVariables false
namespace Go.Proofs.Ytdeolllpbflemaa
open Go Go.Lx

theorem has_Pr {K : Nat} (hK : K < 140737488355328) {z : PV} (h : Sh.Has K (.st [.str, .str]) z) : ∃ p : Pr, z = p.v ∧ p.fit := by
  obtain ⟨cs, rfl, h0⟩ := has_st h
  obtain ⟨y1, c1, k1, e1, h2⟩ := has_cons h0
  obtain ⟨y2, c2, k2, e2, h3⟩ := has_cons h2
  obtain rfl := has_nil h3
  subst e2 e1
  obtain ⟨a1, rfl, p1⟩ := has_str k1
  obtain ⟨a2, rfl, p2⟩ := has_str k2
  exact ⟨⟨a1, a2⟩, rfl, by unfold Pr.fit; simp only; omega⟩
end Go.Proofs.Ytdeolllpbflemaa
