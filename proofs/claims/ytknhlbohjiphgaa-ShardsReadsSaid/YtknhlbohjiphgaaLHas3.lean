/- Inputs read as transactions, with their size. No conditions. -/
import Derived.Test.YtknhlbohjiphgaaLHas
set_option maxRecDepth 100000
set_option maxHeartbeats 4000000
set_option linter.unusedSimpArgs false
set_option linter.unusedVariables false
namespace Go.Proofs.Ytknhlbohjiphgaa
open Go Go.Lx

theorem has_Tx3 {K : Nat} (hK : K < 140737488355328) {z : PV} (h : Sh.Has K (.st [.int .i64, .sl 32 (.st [.str, .str]), .sl 40 (.st [.int .i64, .str, .str])]) z) : ∃ s : Tx, z = s.v ∧ s.fit ∧ s.ch.length * 40 ≤ 140737488355328 := by
  obtain ⟨cs, rfl, h0⟩ := has_st h
  obtain ⟨y0, c0, k0, e0, h1⟩ := has_cons h0
  obtain ⟨y1, c1, k1, e1, h2⟩ := has_cons h1
  obtain ⟨y2, c2, k2, e2, h3⟩ := has_cons h2
  obtain rfl := has_nil h3
  subst e2 e1 e0
  obtain ⟨a0, rfl, p0, q0⟩ := has_int k0
  obtain ⟨l1, rfl, hl1, hm1⟩ := has_sl k1 fun z hz => has_Spn hz
  obtain ⟨l, rfl, hl, hm⟩ := has_sl k2 fun z hz => has_Chg hK hz
  exact ⟨⟨a0, l1, l⟩, rfl, ⟨⟨p0, q0⟩, hm, by simp only; omega, by simp only; omega⟩, by simp only; omega⟩
end Go.Proofs.Ytknhlbohjiphgaa
