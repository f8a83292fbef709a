/- The walk of the law FrameStates. Conditions: on sizes. -/
import Derived.Test.YtnigonhkfpnodaaLFr8
set_option maxRecDepth 100000
set_option maxHeartbeats 4000000
set_option linter.unusedSimpArgs false
set_option linter.unusedVariables false
namespace Go.Proofs.Ytnigonhkfpnodaa
open Go Go.Lx
open Go.Sx (vcIf)

theorem gSt_ok {l : List UInt8} {s : Stt} {e : Nat} (h : (s, e) = gSt l) : s.ch.length ≤ 16 ∧ (∀ z ∈ [s.gen, s.epoch, s.recv], -9223372036854775808 ≤ z ∧ z ≤ 9223372036854775807) ∧ ∀ z ∈ s.ch, -9223372036854775808 ≤ z ∧ z ≤ 9223372036854775807 := by
  have z0 : Stt.zero.ch.length ≤ 16 ∧ (∀ z ∈ [Stt.zero.gen, Stt.zero.epoch, Stt.zero.recv], -9223372036854775808 ≤ z ∧ z ≤ 9223372036854775807) ∧ ∀ z ∈ Stt.zero.ch, -9223372036854775808 ≤ z ∧ z ≤ 9223372036854775807 :=
    ⟨by decide, fun z hz => by simp [Stt.zero] at hz; omega, fun z hz => by simp [Stt.zero] at hz⟩
  unfold gSt at h
  obtain ⟨⟨n1, l1, e1⟩, h1⟩ : ∃ r, r = rdN l 0 := ⟨_, rfl⟩
  rw [← h1] at h; simp only at h
  obtain ⟨⟨n2, l2, e2⟩, h2⟩ : ∃ r, r = rdN l1 e1 := ⟨_, rfl⟩
  rw [← h2] at h; simp only at h
  obtain ⟨⟨n3, l3, e3⟩, h3⟩ : ∃ r, r = rdN l2 e2 := ⟨_, rfl⟩
  rw [← h3] at h; simp only at h
  obtain ⟨⟨n4, l4, e4⟩, h4⟩ : ∃ r, r = rdC l3 e3 16 := ⟨_, rfl⟩
  rw [← h4] at h; simp only at h
  obtain ⟨⟨ns, l5, e5⟩, h5⟩ : ∃ r, r = rdNs n4 l4 e4 := ⟨_, rfl⟩
  rw [← h5] at h; simp only at h
  split at h
  · rename_i hc
    have hok := (Stt.ok_iff _).1 hc.2.2
    simp only at hok
    have b1 := rdN_lt h1; have b2 := rdN_lt h2; have b3 := rdN_lt h3
    rw [(Prod.mk.inj h).1]
    refine ⟨hok.2.2.2.1, fun z hz => ?_, fun z hz => ?_⟩
    · simp only [List.mem_cons, List.not_mem_nil, or_false] at hz
      rcases hz with rfl | rfl | rfl <;> omega
    · have := hok.2.2.2.2 z hz; omega
  · rw [(Prod.mk.inj h).1]; exact z0

theorem has_Stt {K : Nat} (hK : K < 9223372036854775807) {z : PV} (h : Sh.Has K (.st [.int .i64, .int .i64, .int .i64, .sl 8 (.int .i64)]) z) : ∃ s : Stt, z = s.v ∧ s.fit := by
  obtain ⟨cs, rfl, h0⟩ := has_st h
  obtain ⟨y0, c0, k0, e0, h1⟩ := has_cons h0
  obtain ⟨y1, c1, k1, e1, h2⟩ := has_cons h1
  obtain ⟨y2, c2, k2, e2, h3⟩ := has_cons h2
  obtain ⟨y3, c3, k3, e3, h4⟩ := has_cons h3
  obtain rfl := has_nil h4
  subst e3 e2 e1 e0
  obtain ⟨a0, rfl, p0, q0⟩ := has_int k0
  obtain ⟨a1, rfl, p1, q1⟩ := has_int k1
  obtain ⟨a2, rfl, p2, q2⟩ := has_int k2
  obtain ⟨l, rfl, hl, hm⟩ := has_ints k3
  refine ⟨⟨a0, a1, a2, l⟩, rfl, fun z hz => ?_, hm, by simp only; omega⟩
  simp only [List.mem_cons, List.not_mem_nil, or_false] at hz
  rcases hz with rfl | rfl | rfl <;> exact ⟨by assumption, by assumption⟩
end Go.Proofs.Ytnigonhkfpnodaa
