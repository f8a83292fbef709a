/- Inputs read as steps of a game. No conditions. -/
import Derived.Test.YtegkojnngdlfaaaGreatLGxE
import Derived.Test.YtegkojnngdlfaaaGreatLGum
set_option maxRecDepth 100000
set_option maxHeartbeats 4000000
set_option linter.unusedSimpArgs false
set_option linter.unusedVariables false
namespace Go.Proofs.YtegkojnngdlfaaaGreat
open Go Go.Lx
theorem has_Stp {K : Nat} (hK : K < 140737488355328) {z : PV} (h : Sh.Has K (.st [.int .i64, .int .i64, .str, .st [.str, .str], .st [.int .i64, .str, .str]]) z) : ∃ s : Stp, z = s.v ∧ s.fit := by
  obtain ⟨cs, rfl, h0⟩ := has_st h
  obtain ⟨y0, c0, k0, e0, h1⟩ := has_cons h0
  obtain ⟨y1, c1, k1, e1, h2⟩ := has_cons h1
  obtain ⟨y2, c2, k2, e2, h3⟩ := has_cons h2
  obtain ⟨y3, c3, k3, e3, h4⟩ := has_cons h3
  obtain ⟨y4, c4, k4, e4, h5⟩ := has_cons h4
  obtain rfl := has_nil h5
  subst e4 e3 e2 e1 e0
  obtain ⟨ds, rfl, g0⟩ := has_st k3
  obtain ⟨z0, d0, m0, f0, g1⟩ := has_cons g0
  obtain ⟨z1, d1, m1, f1, g2⟩ := has_cons g1
  obtain rfl := has_nil g2
  subst f1 f0
  obtain ⟨b0, rfl, r0⟩ := has_str m0
  obtain ⟨b1, rfl, r1⟩ := has_str m1
  obtain ⟨es, rfl, q0⟩ := has_st k4
  obtain ⟨w0, l0, n0, t0, q1⟩ := has_cons q0
  obtain ⟨w1, l1, n1, t1, q2⟩ := has_cons q1
  obtain ⟨w2, l2, n2, t2, q3⟩ := has_cons q2
  obtain rfl := has_nil q3
  subst t2 t1 t0
  obtain ⟨u0, rfl, v0, v0'⟩ := has_int n0
  obtain ⟨u1, rfl, v1⟩ := has_str n1
  obtain ⟨u2, rfl, v2⟩ := has_str n2
  obtain ⟨a0, rfl, p0, _⟩ := has_int k0
  obtain ⟨a1, rfl, p1, _⟩ := has_int k1
  obtain ⟨a2, rfl, p2⟩ := has_str k2
  exact ⟨⟨a0, a1, a2, b0, b1, ⟨u0, u1, u2⟩⟩, rfl, by simp only; omega, by simp only; omega, by simp only; omega, by simp only; omega, by simp only; omega, v0, v0'⟩
theorem has_Stps {K : Nat} (hK : K < 140737488355328) {z : PV} (h : Sh.Has K (.sl 104 (.st [.int .i64, .int .i64, .str, .st [.str, .str], .st [.int .i64, .str, .str]])) z) : ∃ l : List Stp, z = .sl (l.map Stp.v) ∧ l.length * 104 ≤ K ∧ ∀ s ∈ l, s.fit := has_sl h fun z hz => has_Stp hK hz
end Go.Proofs.YtegkojnngdlfaaaGreat
