/- LHas, LHasB together. Conditions: on sizes. -/
import Derived.Test.YtnigonhkfpnodaaLSqm
import Derived.Test.YtnigonhkfpnodaaLFtm
set_option maxRecDepth 100000
set_option maxHeartbeats 4000000
set_option linter.unusedSimpArgs false
set_option linter.unusedVariables false
section
namespace Go.Proofs.Ytnigonhkfpnodaa
open Go Go.Lx

theorem has_Chg {K : Nat} (hK : K < 140737488355328) {z : PV} (h : Sh.Has K (.st [.int .i64, .str, .str]) z) : ∃ s : Chg, z = s.v ∧ s.fit := by
  obtain ⟨cs, rfl, h0⟩ := has_st h
  obtain ⟨y0, c0, k0, e0, h1⟩ := has_cons h0
  obtain ⟨y1, c1, k1, e1, h2⟩ := has_cons h1
  obtain ⟨y2, c2, k2, e2, h3⟩ := has_cons h2
  obtain rfl := has_nil h3
  subst e2 e1 e0
  obtain ⟨a0, rfl, p0, q0⟩ := has_int k0
  obtain ⟨a1, rfl, p1⟩ := has_str k1
  obtain ⟨a2, rfl, p2⟩ := has_str k2
  exact ⟨⟨a0, a1, a2⟩, rfl, Nat.lt_of_le_of_lt p1 hK, Nat.lt_of_le_of_lt p2 hK, p0, q0⟩
theorem has_Spn {K : Nat} {z : PV} (h : Sh.Has K (.st [.str, .str]) z) : ∃ s : Spn, z = s.v ∧ True := by
  obtain ⟨cs, rfl, h0⟩ := has_st h
  obtain ⟨y1, c1, k1, e1, h2⟩ := has_cons h0
  obtain ⟨y2, c2, k2, e2, h3⟩ := has_cons h2
  obtain rfl := has_nil h3
  subst e2 e1
  obtain ⟨a1, rfl, p1⟩ := has_str k1
  obtain ⟨a2, rfl, p2⟩ := has_str k2
  exact ⟨⟨a1, a2⟩, rfl, trivial⟩
theorem has_Tx {K : Nat} (hK : K < 140737488355328) {z : PV} (h : Sh.Has K (.st [.int .i64, .sl 32 (.st [.str, .str]), .sl 40 (.st [.int .i64, .str, .str])]) z) : ∃ s : Tx, z = s.v ∧ s.fit := by
  obtain ⟨cs, rfl, h0⟩ := has_st h
  obtain ⟨y0, c0, k0, e0, h1⟩ := has_cons h0
  obtain ⟨y1, c1, k1, e1, h2⟩ := has_cons h1
  obtain ⟨y2, c2, k2, e2, h3⟩ := has_cons h2
  obtain rfl := has_nil h3
  subst e2 e1 e0
  obtain ⟨a0, rfl, p0, q0⟩ := has_int k0
  obtain ⟨l1, rfl, hl1, hm1⟩ := has_sl k1 fun z hz => has_Spn hz
  obtain ⟨l, rfl, hl, hm⟩ := has_sl k2 fun z hz => has_Chg hK hz
  exact ⟨⟨a0, l1, l⟩, rfl, ⟨p0, q0⟩, hm, by simp only; omega, by simp only; omega⟩
end Go.Proofs.Ytnigonhkfpnodaa
end
section
namespace Go.Proofs.Ytnigonhkfpnodaa
open Go Go.Lx

theorem has_Bat {K : Nat} (hK : K < 140737488355328) {z : PV} (h : Sh.Has K (.st [.int .i64, .int .i64, .int .i64, .sl 40 (.st [.int .i64, .str, .str])]) z) : ∃ s : Bat, z = s.v ∧ s.fit := by
  obtain ⟨cs, rfl, h0⟩ := has_st h
  obtain ⟨y0, c0, k0, e0, h1⟩ := has_cons h0
  obtain ⟨y1, c1, k1, e1, h2⟩ := has_cons h1
  obtain ⟨y2, c2, k2, e2, h3⟩ := has_cons h2
  obtain ⟨y3, c3, k3, e3, h4⟩ := has_cons h3
  obtain rfl := has_nil h4
  subst e3 e2 e1 e0
  obtain ⟨a0, rfl, p0, q0⟩ := has_int k0
  obtain ⟨a1, rfl, p1, q1⟩ := has_int k1
  obtain ⟨a2, rfl, p2, q2⟩ := has_int k2
  obtain ⟨l, rfl, hl, hm⟩ := has_sl k3 fun z hz => has_Chg hK hz
  refine ⟨⟨a0, a1, a2, l⟩, rfl, fun z hz => ?_, hm, by simp only; omega⟩
  simp only [List.mem_cons, List.not_mem_nil, or_false] at hz
  rcases hz with rfl | rfl | rfl <;> exact ⟨by assumption, by assumption⟩
end Go.Proofs.Ytnigonhkfpnodaa
end
