/- Inputs read as lists of transactions. No conditions. -/
import Derived.Test.YtocmeaamaecgeaaLHas
import Derived.Test.YtocmeaamaecgeaaLPk1
set_option maxRecDepth 100000
set_option maxHeartbeats 4000000
set_option linter.unusedSimpArgs false
set_option linter.unusedVariables false
namespace Go.Proofs.Ytocmeaamaecgeaa
open Go Go.Lx

theorem has_Tx2 {K : Nat} (hK : K < 140737488355328) {z : PV} (h : Sh.Has K (.st [.int .i64, .sl 32 (.st [.str, .str]), .sl 40 (.st [.int .i64, .str, .str])]) z) : ∃ s : Tx, z = s.v ∧ (s.fit ∧ s.ch.length * 40 ≤ 140737488355328) := by
  obtain ⟨cs, rfl, h0⟩ := has_st h
  obtain ⟨y0, c0, k0, e0, h1⟩ := has_cons h0
  obtain ⟨y1, c1, k1, e1, h2⟩ := has_cons h1
  obtain ⟨y2, c2, k2, e2, h3⟩ := has_cons h2
  obtain rfl := has_nil h3
  subst e2 e1 e0
  obtain ⟨a0, rfl, p0, q0⟩ := has_int k0
  obtain ⟨l1, rfl, hl1, hm1⟩ := has_sl k1 fun z hz => has_Spn hz
  obtain ⟨l, rfl, hl, hm⟩ := has_sl k2 fun z hz => has_Chg hK hz
  exact ⟨⟨a0, l1, l⟩, rfl, ⟨⟨p0, q0⟩, hm, by simp only; omega, by simp only; omega⟩, by simp only; omega⟩
theorem has_Txs {K : Nat} (hK : K < 140737488355328) {z : PV} (h : Sh.Has K (.sl 56 (.st [.int .i64, .sl 32 (.st [.str, .str]), .sl 40 (.st [.int .i64, .str, .str])])) z) : ∃ ts : List Tx, z = .sl (tP ts) ∧ ts.length * 56 ≤ K ∧ ∀ t ∈ ts, t.fit ∧ t.ch.length * 40 ≤ 140737488355328 := by
  obtain ⟨l, rfl, hl, hm⟩ := has_sl h fun z hz => has_Tx2 hK hz
  exact ⟨l, rfl, hl, hm⟩
end Go.Proofs.Ytocmeaamaecgeaa
