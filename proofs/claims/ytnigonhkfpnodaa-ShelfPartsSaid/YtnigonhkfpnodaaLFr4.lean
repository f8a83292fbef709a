/- The document's messages read; the walk of the law FrameMessages. Conditions: on sizes. -/
import Derived.Test.YtnigonhkfpnodaaLFr3
set_option maxRecDepth 100000
set_option maxHeartbeats 4000000
set_option linter.unusedSimpArgs false
set_option linter.unusedVariables false
namespace Go.Proofs.Ytnigonhkfpnodaa
open Go Go.Lx
open Go.Sx (vcIf)

/-- What is read is what was laid, and what is left. -/
theorem rdN_back {l l' : List UInt8} {e n : Nat} (h : (n, l', 0) = rdN l e) : e = 0 ∧ l = enc n ++ l' := by
  unfold rdN at h
  split at h
  · rename_i he; cases h; exact absurd rfl he
  · rename_i he
    simp only [Prod.mk.injEq] at h
    obtain ⟨h1, h2, h3⟩ := h
    refine ⟨by simpa using he, ?_⟩
    have := enc_dec0 l h3.symm
    rw [h1, h2, this, List.take_append_drop]
theorem decT_ok {l : List UInt8} (h : (decT l).2.2 = 0) : (dec 0 0 l).2.2 = 0 ∧ (dec 0 0 l).1 ≤ 65536 ∧ (dec 0 0 l).1 ≤ l.length - (dec 0 0 l).2.1 ∧ (decT l).1 = (l.drop (dec 0 0 l).2.1).take (dec 0 0 l).1 ∧ (decT l).2.1 = (dec 0 0 l).2.1 + (dec 0 0 l).1 := by
  unfold decT at h ⊢
  obtain ⟨⟨x, u, e⟩, hd⟩ : ∃ r, r = dec 0 0 l := ⟨_, rfl⟩
  rw [← hd] at h ⊢
  simp only at h ⊢
  split at h
  · rename_i he; exact absurd h he
  rename_i he
  split at h
  · simp at h
  rename_i hx
  split at h
  · simp at h
  rename_i hs
  rw [if_neg he, if_neg hx, if_neg hs]
  exact ⟨by simpa using he, by omega, by omega, rfl, rfl⟩
theorem rdT_back {l l' s : List UInt8} {e : Nat} (h : (s, l', 0) = rdT l e) : e = 0 ∧ l = enct s ++ l' := by
  unfold rdT at h
  split at h
  · rename_i he; cases h; exact absurd rfl he
  · rename_i he
    simp only [Prod.mk.injEq] at h
    obtain ⟨h1, h2, h3⟩ := h
    refine ⟨by simpa using he, ?_⟩
    obtain ⟨k1, k2, k3, k4, k5⟩ := decT_ok h3.symm
    have hen := enc_dec0 l k1
    have hu := dec_used l 0 0 k1
    have hsl : s.length = (dec 0 0 l).1 := by rw [h1, k4, List.length_take, List.length_drop]; omega
    unfold enct
    rw [hsl, hen, h1, h2, k4, k5, List.append_assoc, ← List.drop_drop, List.take_append_drop, List.take_append_drop]
theorem rdMsg_back {l l' : List UInt8} {m : Msg} (h : rdMsg l = (m, l', 0)) : l = encs m.nums ++ enct m.body ++ l' := by
  unfold rdMsg at h
  obtain ⟨⟨n1, l1, e1⟩, h1⟩ : ∃ r, r = rdN l 0 := ⟨_, rfl⟩
  rw [← h1] at h; simp only at h
  obtain ⟨⟨n2, l2, e2⟩, h2⟩ : ∃ r, r = rdN l1 e1 := ⟨_, rfl⟩
  rw [← h2] at h; simp only at h
  obtain ⟨⟨n3, l3, e3⟩, h3⟩ : ∃ r, r = rdN l2 e2 := ⟨_, rfl⟩
  rw [← h3] at h; simp only at h
  obtain ⟨⟨n4, l4, e4⟩, h4⟩ : ∃ r, r = rdN l3 e3 := ⟨_, rfl⟩
  rw [← h4] at h; simp only at h
  obtain ⟨⟨n5, l5, e5⟩, h5⟩ : ∃ r, r = rdN l4 e4 := ⟨_, rfl⟩
  rw [← h5] at h; simp only at h
  obtain ⟨⟨n6, l6, e6⟩, h6⟩ : ∃ r, r = rdN l5 e5 := ⟨_, rfl⟩
  rw [← h6] at h; simp only at h
  obtain ⟨⟨n7, l7, e7⟩, h7⟩ : ∃ r, r = rdN l6 e6 := ⟨_, rfl⟩
  rw [← h7] at h; simp only at h
  obtain ⟨⟨s, l8, e8⟩, h8⟩ : ∃ r, r = rdT l7 e7 := ⟨_, rfl⟩
  rw [← h8] at h; simp only [Prod.mk.injEq] at h
  obtain ⟨hm, rfl, rfl⟩ := h
  obtain ⟨rfl, b8⟩ := rdT_back h8
  obtain ⟨rfl, b7⟩ := rdN_back h7
  obtain ⟨rfl, b6⟩ := rdN_back h6
  obtain ⟨rfl, b5⟩ := rdN_back h5
  obtain ⟨rfl, b4⟩ := rdN_back h4
  obtain ⟨rfl, b3⟩ := rdN_back h3
  obtain ⟨rfl, b2⟩ := rdN_back h2
  obtain ⟨_, b1⟩ := rdN_back h1
  rw [← hm, b1, b2, b3, b4, b5, b6, b7, b8]
  simp [encs, Msg.nums]
/-- Read on behind nothing left: what is laid again is what was there. -/
theorem fDec_alt (l : List UInt8) : fDec l = (match copen l with
    | (bd, e) => if e ≠ 0 then (Msg.zero, 2) else match rdMsg bd with
      | (m, _, e8) => if e8 = 0 ∧ (fEnc m).2 = 0 ∧ (fEnc m).1 = l then (m, 0) else (Msg.zero, 2)) := by
  unfold fDec
  obtain ⟨⟨bd, e⟩, hc⟩ : ∃ r, r = copen l := ⟨_, rfl⟩
  rw [← hc]
  simp only
  by_cases he : e = 0
  · subst he
    obtain ⟨⟨m, l8, e8⟩, hm⟩ : ∃ r, r = rdMsg bd := ⟨_, rfl⟩
    rw [← hm]
    simp only [ne_eq, not_true_eq_false, if_false]
    by_cases h : e8 = 0 ∧ (fEnc m).2 = 0 ∧ (fEnc m).1 = l
    · rw [if_pos h, if_pos]
      obtain ⟨rfl, h2, h3⟩ := h
      refine ⟨rfl, ?_, h2, h3⟩
      have hb := rdMsg_back hm.symm
      have ho := copen_ok hc.symm
      have hen : fEnc m = (cseal (encs m.nums ++ enct m.body), 0) := by
        unfold fEnc at h2 ⊢
        split
        · rfl
        · rename_i hk; rw [if_neg hk] at h2; simp at h2
      rw [hen] at h3
      simp only at h3
      have := copen_seal (encs m.nums ++ enct m.body)
      rw [h3, ← hc] at this
      simp only [Prod.mk.injEq, and_true] at this
      rw [this] at hb
      have := List.self_eq_append_right.1 hb
      exact this
    · rw [if_neg h, if_neg]
      exact fun c => h ⟨c.1, c.2.2.1, c.2.2.2⟩
  · simp [he]

end Go.Proofs.Ytnigonhkfpnodaa
