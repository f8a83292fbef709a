/- A burst of at most 32 bits in sealed bytes shows. No conditions. -/
import Derived.Test.YtnigonhkfpnodaaLFr5
set_option maxRecDepth 100000
set_option maxHeartbeats 4000000
set_option linter.unusedSimpArgs false
set_option linter.unusedVariables false
namespace Go.Proofs.Ytnigonhkfpnodaa
open Go Go.Lx

theorem csts_zero : ∀ k, csts k 0 = 0
  | 0 => rfl
  | k + 1 => by rw [csts]; exact csts_zero k
theorem burst_step {u v D t : Nat} (a c : UInt8) (hv : v = u ^^^ D) (hc : c.toNat = a.toNat ^^^ t % 256) :
    cby v c = cby u a ^^^ csts 8 (D ^^^ t % 256) ∧ csts 8 (D ^^^ t % 256) ^^^ t / 256 = csts 8 (D ^^^ t) := by
  refine ⟨?_, ?_⟩
  · unfold cby
    rw [← csts_xor, hv, hc]
    congr 1
    simp only [Nat.xor_assoc]
    congr 1
    rw [← Nat.xor_assoc, ← Nat.xor_assoc, Nat.xor_comm D]
  · rw [csts_xor 8 D t, csts_byte t, csts_xor 8 D (t % 256), Nat.xor_assoc, Nat.xor_comm (csts 8 (t % 256))]
theorem burst4 {r b : Nat} (hr : r < 4294967296) (hb : b < 4294967296) (a0 a1 a2 a3 c0 c1 c2 c3 : UInt8) (h0 : c0.toNat = a0.toNat ^^^ b % 256) (h1 : c1.toNat = a1.toNat ^^^ b / 256 % 256) (h2 : c2.toNat = a2.toNat ^^^ b / 256 / 256 % 256) (h3 : c3.toNat = a3.toNat ^^^ b / 256 / 256 / 256 % 256)
    (h : cbs r [a0, a1, a2, a3] = cbs r [c0, c1, c2, c3]) : b = 0 := by
  simp only [cbs, List.foldl_cons, List.foldl_nil] at h
  obtain ⟨p0, q0⟩ := burst_step (u := r) (v := r) (D := 0) (t := b) a0 c0 (by simp) h0
  obtain ⟨p1, q1⟩ := burst_step (t := b / 256) a1 c1 p0 h1
  obtain ⟨p2, q2⟩ := burst_step (t := b / 256 / 256) a2 c2 p1 h2
  obtain ⟨p3, q3⟩ := burst_step (t := b / 256 / 256 / 256) a3 c3 p2 h3
  have hz : b / 256 / 256 / 256 / 256 = 0 := by omega
  rw [hz, Nat.xor_zero] at q3
  rw [q2, q1, q0] at q3
  rw [← h] at p3
  simp only [Nat.zero_xor] at q3 p3
  have e3 : csts 8 (csts 8 (csts 8 (csts 8 b))) = 0 := by
    rw [← q3]
    have := congrArg (fun x => cby (cby (cby (cby r a0) a1) a2) a3 ^^^ x) p3
    simp only [Nat.xor_self, ← Nat.xor_assoc, Nat.zero_xor] at this
    exact this.symm
  have z := fun (x : Nat) (hx : x < 4294967296) (h : csts 8 x = 0) => csts_inj 8 hx (by decide) (h.trans (csts_zero 8).symm)
  exact z _ hb (z _ (csts_lt 8 hb) (z _ (csts_lt 8 (csts_lt 8 hb)) (z _ (csts_lt 8 (csts_lt 8 (csts_lt 8 hb))) e3)))
theorem csum_inj {x y : List UInt8} (h : csum x = csum y) : cbs 4294967295 x = cbs 4294967295 y := xor_left_inj' h
theorem le4_inj {s t : Nat} (hs : s < 4294967296) (ht : t < 4294967296) (h : le4 s = le4 t) : s = t := by
  have e1 := nu4_le4 hs
  have e2 := nu4_le4 ht
  unfold le4 at h
  simp only [List.cons.injEq, and_true] at h
  rw [← h.1, ← h.2.1, ← h.2.2.1, ← h.2.2.2] at e2
  exact e1.symm.trans e2
/-- Spoilt behind the sum. -/
theorem spoilt {body p s : List UInt8} {b : Nat} (hb : b < 4294967296) (hb0 : b ≠ 0) (a0 a1 a2 a3 c0 c1 c2 c3 : UInt8) (h0 : c0.toNat = a0.toNat ^^^ b % 256) (h1 : c1.toNat = a1.toNat ^^^ b / 256 % 256) (h2 : c2.toNat = a2.toNat ^^^ b / 256 / 256 % 256) (h3 : c3.toNat = a3.toNat ^^^ b / 256 / 256 / 256 % 256)
    (hl : cseal body = p ++ ([a0, a1, a2, a3] ++ s)) (hp : 4 ≤ p.length) : copen (p ++ ([c0, c1, c2, c3] ++ s)) = ([], 2) := by
  obtain ⟨k, p', hk, rfl⟩ : ∃ k p', List.length k = 4 ∧ p = k ++ p' := ⟨p.take 4, p.drop 4, by rw [List.length_take]; omega, (List.take_append_drop 4 p).symm⟩
  have hle : (le4 (csum body)).length = 4 := rfl
  unfold cseal at hl
  rw [List.append_assoc] at hl
  obtain ⟨e1, e2⟩ := List.append_inj hl (by rw [hle, hk])
  rw [copen_iff, if_neg (by simp; omega), if_neg]
  intro c
  have hd : (k ++ p' ++ ([c0, c1, c2, c3] ++ s)).drop 4 = p' ++ ([c0, c1, c2, c3] ++ s) := by rw [List.append_assoc, ← hk, List.drop_left]
  rw [hd, List.append_assoc] at c
  unfold cseal at c
  obtain ⟨e3, _⟩ := List.append_inj c (by rw [hk]; rfl)
  rw [← e1] at e3
  have e4 := csum_inj (le4_inj (csum_lt _) (csum_lt _) e3)
  rw [e2] at e4
  unfold cbs at e4
  rw [List.foldl_append, List.foldl_append, List.foldl_append, List.foldl_append] at e4
  have hr : List.foldl cby 4294967295 p' < 4294967296 := cbs_lt p' (by decide)
  have e5 := cbs_inj s (cbs_lt [c0, c1, c2, c3] hr) (cbs_lt [a0, a1, a2, a3] hr) e4
  exact hb0 (burst4 hr hb a0 a1 a2 a3 c0 c1 c2 c3 h0 h1 h2 h3 e5.symm)
theorem fDec_spoilt {l : List UInt8} (h : copen l = ([], 2)) : fDec l = (Msg.zero, 2) := by
  unfold fDec; rw [h]; simp
end Go.Proofs.Ytnigonhkfpnodaa
