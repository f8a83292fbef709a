/- What ShardsReads answers. Conditions: on sizes. -/
import Derived.Test.YtknhlbohjiphgaaLCv1
set_option maxRecDepth 100000
set_option maxHeartbeats 16000000
set_option linter.unusedSimpArgs false
set_option linter.unusedVariables false
namespace Go.Proofs.Ytknhlbohjiphgaa
open Go Go.Lx
open Go.Sx (vcIf)

theorem wh_before : ∀ (bs : BL) (k : List UInt8) (q : Nat) (b : List UInt8), q < wh bs k → bs[q]? = some b → bl k b = false
  | [], k, q, b, h, _ => by simp [wh] at h
  | c :: r, k, q, b, h, hb => by
    unfold wh at h
    split at h
    · omega
    · rename_i hc
      cases q with
      | zero => simp at hb; subst hb; exact Bool.eq_false_iff.2 hc
      | succ q => exact wh_before r k q b (by omega) hb
theorem wh_at : ∀ (bs : BL) (k : List UInt8) (b : List UInt8), bs[wh bs k]? = some b → bl k b = true
  | [], k, b, h => by simp [wh] at h
  | c :: r, k, b, h => by
    unfold wh at h
    split at h
    · rename_i hc; simp at h; subst h; exact hc
    · exact wh_at r k b h
theorem bl_top : ∀ (m : Nat) (k : List UInt8), k.length < m → bl k (List.replicate m 255) = true
  | 0, k, h => by omega
  | m + 1, [], h => rfl
  | m + 1, x :: k, h => by
    have ih := bl_top m k (by simpa using h)
    rw [List.replicate_succ]
    have e1 : bl (x :: k) (255 :: List.replicate m 255) = (decide (x < 255) || (x == 255 && bl k (List.replicate m 255))) := rfl
    rw [e1, ih]
    by_cases h : x = 255
    · subst h; rfl
    · have : x < 255 := by
        have h1 := x.toNat_lt
        have h2 : x.toNat ≠ 255 := fun c => h (UInt8.toNat_inj.1 c)
        exact UInt8.lt_iff_toNat_lt.2 (show x.toNat < 255 by omega)
      simp [this]
theorem one_law {bs : BL} (hs : sndB bs = true) (k : List UInt8) (hk : k.length ≤ 16) (i : Nat) (hi : i ≤ bs.length) : (!(bl k (pcLo bs i)) && bl k (pcHi bs i)) = decide (i = wh bs k) := by
  have hwl := wh_le bs k
  rcases Nat.lt_trichotomy i (wh bs k) with h | h | h
  · obtain ⟨b, hb⟩ := get_of_lt (show i < bs.length by omega)
    have h1 : pcHi bs i = b := by rw [pcHi, if_pos (by omega), List.getD_eq_getElem?_getD, hb]; rfl
    rw [h1, wh_before bs k i b h hb, decide_eq_false (by omega)]; simp
  · have h2 : bl k (pcHi bs i) = true := by
      by_cases hn : i < bs.length
      · obtain ⟨b, hb⟩ := get_of_lt hn
        have h1 : pcHi bs i = b := by rw [pcHi, if_pos (by omega), List.getD_eq_getElem?_getD, hb]; rfl
        rw [h1]; exact wh_at bs k b (by rw [← h]; exact hb)
      · rw [pcHi, if_neg hn]; exact bl_top 17 k (by omega)
    have h3 : bl k (pcLo bs i) = false := by
      by_cases hn : 0 < i
      · obtain ⟨b, hb⟩ := get_of_lt (show i - 1 < bs.length by omega)
        have h1 : pcLo bs i = b := by rw [pcLo, if_pos hn, List.getD_eq_getElem?_getD, hb]; rfl
        rw [h1]; exact wh_before bs k (i - 1) b (by omega) hb
      · rw [pcLo, if_neg hn]; exact bl_nil k
    rw [h2, h3, decide_eq_true h]; rfl
  · obtain ⟨b, hb⟩ := get_of_lt (show i - 1 < bs.length by omega)
    obtain ⟨c, hc⟩ := get_of_lt (show wh bs k < bs.length by omega)
    have h1 : pcLo bs i = b := by rw [pcLo, if_pos (by omega), List.getD_eq_getElem?_getD, hb]; rfl
    have h2 := wh_at bs k c hc
    have h3 : bl k b = true := by
      rcases Nat.lt_or_eq_of_le (show wh bs k ≤ i - 1 by omega) with e | e
      · exact bl_trans h2 (snd_lt hs hc hb e)
      · rw [← e, hc] at hb; cases hb; exact h2
    rw [h1, h3, decide_eq_false (by omega)]; rfl
theorem bl_smx (k a c : List UInt8) : bl k (smx a c) = (bl k a || bl k c) := by
  unfold smx
  by_cases h : Op.bytesLess a c = true
  · rw [if_pos h]
    by_cases h2 : bl k a = true
    · rw [h2, show bl k c = true from bl_trans h2 h]; rfl
    · rw [Bool.eq_false_iff.2 h2]; rfl
  · rw [if_neg h]
    by_cases h2 : bl k c = true
    · rw [h2, show bl k a = true from bl_lt_le h2 (Bool.eq_false_iff.2 h)]; rfl
    · rw [Bool.eq_false_iff.2 h2]; simp
theorem bl_smn (k b d : List UInt8) : bl k (smn b d) = (bl k b && bl k d) := by
  unfold smn
  by_cases h : Op.bytesLess d b = true
  · rw [if_pos h]
    by_cases h2 : bl k d = true
    · rw [h2, show bl k b = true from bl_trans h2 h]; rfl
    · rw [Bool.eq_false_iff.2 h2]; simp
  · rw [if_neg h]
    by_cases h2 : bl k b = true
    · rw [h2, show bl k d = true from bl_lt_le h2 (Bool.eq_false_iff.2 h)]; rfl
    · rw [Bool.eq_false_iff.2 h2]; rfl
theorem hs_mt (s p : Spn) (k : List UInt8) : hs (mt s p) k = (hs s k && hs p k) := by
  have key : hs ⟨smx s.lo p.lo, smn s.hi p.hi⟩ k = (hs s k && hs p k) := by
    unfold hs
    simp only [bl_smx, bl_smn]
    cases bl k s.lo <;> cases bl k p.lo <;> cases bl k s.hi <;> cases bl k p.hi <;> rfl
  unfold mt
  split
  · exact key
  · rename_i h
    rw [← key]
    unfold hs
    simp only [bl_nil]
    cases h1 : bl k (smx s.lo p.lo) with
    | true => simp
    | false =>
      cases h2 : bl k (smn s.hi p.hi) with
      | false => simp
      | true => exact absurd (bl_le_trans h1 h2) h
theorem rd1_any (p s : Spn) (k : List UInt8) : (rd1 p s).any (fun m => hs m k) = (hs s k && hs p k) := by
  unfold rd1
  split
  · simp [hs_mt]
  · rename_i h
    rw [← hs_mt]
    unfold mt at h ⊢
    split at h
    · rename_i h2; exact absurd h2 h
    · rename_i h2; rw [if_neg h2]; unfold hs; simp [bl_nil]
theorem rdL_any (p : Spn) (k : List UInt8) : ∀ l : List Spn, (rdL p l).any (fun m => hs m k) = (l.any (fun s => hs s k) && hs p k)
  | [] => by simp [rdL]
  | s :: l => by
    have ih := rdL_any p k l
    unfold rdL at ih ⊢
    rw [List.flatMap_cons, List.any_append, ih, rd1_any, List.any_cons]
    cases hs s k <;> cases hs p k <;> cases l.any (fun s => hs s k) <;> rfl
end Go.Proofs.Ytknhlbohjiphgaa
