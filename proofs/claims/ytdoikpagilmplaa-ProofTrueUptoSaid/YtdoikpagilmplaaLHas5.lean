/- Inputs read as ledgers and deeds. No conditions. -/
import Derived.Test.YtdoikpagilmplaaLHas
import Derived.Test.YtdoikpagilmplaaLHas4
import Derived.Test.YtdoikpagilmplaaLPr4
set_option maxRecDepth 100000
set_option maxHeartbeats 4000000
set_option linter.unusedSimpArgs false
set_option linter.unusedVariables false
namespace Go.Proofs.Ytdoikpagilmplaa
open Go Go.Lx

theorem has_Chgs {K : Nat} (hK : K < 140737488355328) {z : PV} (h : Sh.Has K (.sl 40 (.st [.int .i64, .str, .str])) z) : ∃ l : List Chg, z = .sl (cP l) ∧ l.length * 40 ≤ K ∧ ∀ c ∈ l, c.fit := has_sl h fun z hz => has_Chg hK hz
theorem has_Prs {K : Nat} (hK : K < 140737488355328) {z : PV} (h : Sh.Has K (.sl 32 (.st [.str, .str])) z) : ∃ l : List Pr, z = .sl (prP l) ∧ l.length * 32 ≤ K ∧ ∀ c ∈ l, c.fit := has_sl h fun z hz => has_Pr hK hz
theorem has_Bt {K : Nat} (hK : K < 140737488355328) {z : PV} (h : Sh.Has K (.st [.int .i64, .int .i64, .int .i64, .sl 40 (.st [.int .i64, .str, .str])]) z) : ∃ s : Bt, z = s.v ∧ s.fit ∧ s.ch.length * 40 ≤ K := by
  obtain ⟨cs, rfl, h0⟩ := has_st h
  obtain ⟨y0, c0, k0, e0, h1⟩ := has_cons h0
  obtain ⟨y1, c1, k1, e1, h2⟩ := has_cons h1
  obtain ⟨y2, c2, k2, e2, h3⟩ := has_cons h2
  obtain ⟨y3, c3, k3, e3, h4⟩ := has_cons h3
  obtain rfl := has_nil h4
  subst e3 e2 e1 e0
  obtain ⟨a0, rfl, p0, q0⟩ := has_int k0
  obtain ⟨a1, rfl, p1, q1⟩ := has_int k1
  obtain ⟨a2, rfl, p2, q2⟩ := has_int k2
  obtain ⟨l, rfl, hl, hm⟩ := has_Chgs hK k3
  exact ⟨⟨a0, a1, a2, l⟩, rfl, ⟨hm, by simp only; omega, p1, q1⟩, hl⟩
theorem has_Bts {K : Nat} (hK : K < 140737488355328) {z : PV} (h : Sh.Has K (.sl 48 (.st [.int .i64, .int .i64, .int .i64, .sl 40 (.st [.int .i64, .str, .str])])) z) : ∃ l : List Bt, z = .sl (btP l) ∧ l.length * 48 ≤ K ∧ ∀ b ∈ l, b.fit ∧ b.ch.length * 40 ≤ K := has_sl h fun z hz => has_Bt hK hz
theorem has_Sn {K : Nat} (hK : K < 140737488355328) {z : PV} (h : Sh.Has K (.st [.st [.str, .str], .int .i64, .sl 32 (.st [.str, .str])]) z) : ∃ s : Sn, z = s.v ∧ s.fit := by
  obtain ⟨cs, rfl, h0⟩ := has_st h
  obtain ⟨y0, c0, k0, e0, h1⟩ := has_cons h0
  obtain ⟨y1, c1, k1, e1, h2⟩ := has_cons h1
  obtain ⟨y2, c2, k2, e2, h3⟩ := has_cons h2
  obtain rfl := has_nil h3
  subst e2 e1 e0
  obtain ⟨ds, rfl, g0⟩ := has_st k0
  obtain ⟨z0, d0, m0, f0, g1⟩ := has_cons g0
  obtain ⟨z1, d1, m1, f1, g2⟩ := has_cons g1
  obtain rfl := has_nil g2
  subst f1 f0
  obtain ⟨a0, rfl, p0⟩ := has_str m0
  obtain ⟨a1, rfl, p1⟩ := has_str m1
  obtain ⟨a2, rfl, p2, q2⟩ := has_int k1
  obtain ⟨l, rfl, hl, hm⟩ := has_Prs hK k2
  exact ⟨⟨a0, a1, a2, l⟩, rfl, by simp only; omega, p2, q2⟩
theorem has_Dd {K : Nat} (hK : K < 140737488355328) {z : PV} (h : Sh.Has K (.st [.int .i64, .int .i64, .int .i64, .int .i64, .int .i64, .int .i64, .sl 64 (.st [.st [.str, .str], .int .i64, .sl 32 (.st [.str, .str])]), .sl 40 (.st [.int .i64, .str, .str])]) z) : ∃ s : Dd, z = s.v ∧ s.fit ∧ s.ch.length * 40 ≤ K := by
  obtain ⟨cs, rfl, h0⟩ := has_st h
  obtain ⟨y0, c0, k0, e0, h1⟩ := has_cons h0
  obtain ⟨y1, c1, k1, e1, h2⟩ := has_cons h1
  obtain ⟨y2, c2, k2, e2, h3⟩ := has_cons h2
  obtain ⟨y3, c3, k3, e3, h4⟩ := has_cons h3
  obtain ⟨y4, c4, k4, e4, h5⟩ := has_cons h4
  obtain ⟨y5, c5, k5, e5, h6⟩ := has_cons h5
  obtain ⟨y6, c6, k6, e6, h7⟩ := has_cons h6
  obtain ⟨y7, c7, k7, e7, h8⟩ := has_cons h7
  obtain rfl := has_nil h8
  subst e7 e6 e5 e4 e3 e2 e1 e0
  obtain ⟨a0, rfl, p0, q0⟩ := has_int k0
  obtain ⟨a1, rfl, p1, q1⟩ := has_int k1
  obtain ⟨a2, rfl, p2, q2⟩ := has_int k2
  obtain ⟨a3, rfl, p3, q3⟩ := has_int k3
  obtain ⟨a4, rfl, p4, q4⟩ := has_int k4
  obtain ⟨a5, rfl, p5, q5⟩ := has_int k5
  obtain ⟨ss, rfl, hs, ht⟩ := has_sl k6 fun z hz => has_Sn hK hz
  obtain ⟨l, rfl, hl, hm⟩ := has_Chgs hK k7
  exact ⟨⟨a0, a1, a2, a3, a4, a5, ss, l⟩, rfl, ⟨by simp only; omega, ht, by simp only; omega, hm⟩, hl⟩
theorem has_Dds {K : Nat} (hK : K < 140737488355328) {z : PV} (h : Sh.Has K (.sl 96 (.st [.int .i64, .int .i64, .int .i64, .int .i64, .int .i64, .int .i64, .sl 64 (.st [.st [.str, .str], .int .i64, .sl 32 (.st [.str, .str])]), .sl 40 (.st [.int .i64, .str, .str])])) z) : ∃ l : List Dd, z = .sl (ddP l) ∧ l.length * 96 ≤ K ∧ ∀ b ∈ l, b.fit ∧ b.ch.length * 40 ≤ K := has_sl h fun z hz => has_Dd hK hz
end Go.Proofs.Ytdoikpagilmplaa
