/- The simplest facts of frames; the walk of the law FrameMessages. Conditions: on sizes. -/
import Derived.Test.YtnigonhkfpnodaaLFr4
set_option maxRecDepth 100000
set_option maxHeartbeats 4000000
set_option linter.unusedSimpArgs false
set_option linter.unusedVariables false
namespace Go.Proofs.Ytnigonhkfpnodaa
open Go Go.Lx
open Go.Sx (vcIf)

theorem rdN_enc (n : Nat) (hn : n < 9223372036854775808) (r : List UInt8) : rdN (enc n ++ r) 0 = (n, r, 0) := by
  unfold rdN
  rw [if_neg (by simp), dec_enc0 n r hn]
  simp
theorem rdT_enc (s : List UInt8) (hs : s.length ≤ 65536) (r : List UInt8) : rdT (enct s ++ r) 0 = (s, r, 0) := by
  unfold rdT decT enct
  rw [if_neg (by simp), List.append_assoc, dec_enc0 s.length _ (by omega)]
  simp only [ne_eq, not_true_eq_false, if_false]
  rw [if_neg (by omega), if_neg (by simp)]
  simp only [List.drop_left, List.take_left]
  rw [← List.drop_drop, List.drop_left, List.drop_left]
theorem rdMsg_enc (m : Msg) (hm : m.fit) (h0 : ∀ z ∈ m.nums, 0 ≤ z) (hb : m.body.length ≤ 65536) (r : List UInt8) : rdMsg (encs m.nums ++ enct m.body ++ r) = (m, r, 0) := by
  obtain ⟨k, f, t, p, a, b, c, s⟩ := m
  have g : ∀ z ∈ [k, f, t, p, a, b, c], ∃ y : Nat, z = (y : Int) ∧ y < 9223372036854775808 := fun z hz => ⟨z.toNat, by have := h0 z hz; omega, by have := hm.1 z hz; have := h0 z hz; omega⟩
  obtain ⟨k, rfl, hk⟩ := g k (by simp)
  obtain ⟨f, rfl, hf⟩ := g f (by simp)
  obtain ⟨t, rfl, ht⟩ := g t (by simp)
  obtain ⟨p, rfl, hp⟩ := g p (by simp)
  obtain ⟨a, rfl, ha⟩ := g a (by simp)
  obtain ⟨b, rfl, hb'⟩ := g b (by simp)
  obtain ⟨c, rfl, hc⟩ := g c (by simp)
  have e : encs (Msg.nums ⟨k, f, t, p, a, b, c, s⟩) ++ enct s ++ r = enc k ++ (enc f ++ (enc t ++ (enc p ++ (enc a ++ (enc b ++ (enc c ++ (enct s ++ r))))))) := by
    simp [encs, Msg.nums]
  simp only
  rw [e]
  unfold rdMsg
  rw [rdN_enc k hk]; simp only
  rw [rdN_enc f hf]; simp only
  rw [rdN_enc t ht]; simp only
  rw [rdN_enc p hp]; simp only
  rw [rdN_enc a ha]; simp only
  rw [rdN_enc b hb']; simp only
  rw [rdN_enc c hc]; simp only
  rw [rdT_enc s hb]
theorem fDec_enc (m : Msg) (hm : m.fit) (l : List UInt8) (h : (l, 0) = fEnc m) : fDec l = (m, 0) := by
  have hok : m.okB = true := by
    unfold fEnc at h
    split at h
    · assumption
    · simp at h
  have hl : l = cseal (encs m.nums ++ enct m.body) := by
    unfold fEnc at h
    rw [if_pos hok] at h
    simpa using h
  have hr := rdMsg_enc m hm (fun z hz => by
    unfold Msg.okB at hok
    simp only [decide_eq_true_eq] at hok
    simp only [Msg.nums, List.mem_cons, List.not_mem_nil, or_false] at hz
    rcases hz with rfl | rfl | rfl | rfl | rfl | rfl | rfl <;> omega) (by unfold Msg.okB at hok; simp only [decide_eq_true_eq] at hok; omega) []
  rw [List.append_nil] at hr
  unfold fDec
  rw [hl, copen_seal]
  simp only [ne_eq, not_true_eq_false, if_false]
  rw [hr]
  simp only
  rw [← hl, ← h, if_pos (by simp)]

theorem fEnc_len (m : Msg) (hm : m.fit) {l : List UInt8} {e : Nat} (h : (l, e) = fEnc m) : l.length ≤ 70000 := by
  unfold fEnc at h
  split at h
  · rename_i hok
    unfold Msg.okB at hok
    simp only [decide_eq_true_eq] at hok
    rw [(Prod.mk.inj h).1]
    have h1 := encs_len m.nums (fun z hz => (hm.1 z hz).2)
    have h2 := enc_len9 (show m.body.length < 9223372036854775808 by omega)
    simp only [cseal, le4, enct, Msg.nums, List.length_append, List.length_cons, List.length_nil] at h1 h2 ⊢
    omega
  · rw [(Prod.mk.inj h).1]; simp

theorem has_Msg {K : Nat} (hK : K < 140737488355328) {z : PV} (h : Sh.Has K (.st [.int .i64, .int .i64, .int .i64, .int .i64, .int .i64, .int .i64, .int .i64, .sl 1 (.int .u8)]) z) : ∃ m : Msg, z = m.v ∧ m.fit := by
  obtain ⟨cs, rfl, h0⟩ := has_st h
  obtain ⟨y0, c0, k0, e0, h1⟩ := has_cons h0
  obtain ⟨y1, c1, k1, e1, h2⟩ := has_cons h1
  obtain ⟨y2, c2, k2, e2, h3⟩ := has_cons h2
  obtain ⟨y3, c3, k3, e3, h4⟩ := has_cons h3
  obtain ⟨y4, c4, k4, e4, h5⟩ := has_cons h4
  obtain ⟨y5, c5, k5, e5, h6⟩ := has_cons h5
  obtain ⟨y6, c6, k6, e6, h7⟩ := has_cons h6
  obtain ⟨y7, c7, k7, e7, h8⟩ := has_cons h7
  obtain rfl := has_nil h8
  subst e7 e6 e5 e4 e3 e2 e1 e0
  obtain ⟨a0, rfl, p0, q0⟩ := has_int k0
  obtain ⟨a1, rfl, p1, q1⟩ := has_int k1
  obtain ⟨a2, rfl, p2, q2⟩ := has_int k2
  obtain ⟨a3, rfl, p3, q3⟩ := has_int k3
  obtain ⟨a4, rfl, p4, q4⟩ := has_int k4
  obtain ⟨a5, rfl, p5, q5⟩ := has_int k5
  obtain ⟨a6, rfl, p6, q6⟩ := has_int k6
  obtain ⟨l, rfl, hl⟩ := has_bytes k7
  refine ⟨⟨a0, a1, a2, a3, a4, a5, a6, l⟩, rfl, fun z hz => ?_, by simp only; omega⟩
  simp only [Msg.nums, List.mem_cons, List.not_mem_nil, or_false] at hz
  rcases hz with rfl | rfl | rfl | rfl | rfl | rfl | rfl <;> exact ⟨by assumption, by assumption⟩
end Go.Proofs.Ytnigonhkfpnodaa
