/- LSl1 together. Conditions: on sizes. -/
import Derived.Test.YtegkojnngdlfaaaGreatLPbm
import Derived.Test.YtegkojnngdlfaaaGreatLNm
set_option maxRecDepth 100000
set_option maxHeartbeats 4000000
set_option linter.unusedSimpArgs false
set_option linter.unusedVariables false
section
namespace Go.Proofs.YtegkojnngdlfaaaGreat
open Go Go.Lx
theorem bl_smx (k a c : List UInt8) : bl k (smx a c) = (bl k a || bl k c) := by
  unfold smx
  by_cases h : Op.bytesLess a c = true
  · rw [if_pos h]
    by_cases h2 : bl k a = true
    · rw [h2, show bl k c = true from bl_trans h2 h]; rfl
    · rw [Bool.eq_false_iff.2 h2]; rfl
  · rw [if_neg h]
    by_cases h2 : bl k c = true
    · rw [h2, show bl k a = true from bl_lt_le h2 (Bool.eq_false_iff.2 h)]; rfl
    · rw [Bool.eq_false_iff.2 h2]; simp
theorem bl_smn (k b d : List UInt8) : bl k (smn b d) = (bl k b && bl k d) := by
  unfold smn
  by_cases h : Op.bytesLess d b = true
  · rw [if_pos h]
    by_cases h2 : bl k d = true
    · rw [h2, show bl k b = true from bl_trans h2 h]; rfl
    · rw [Bool.eq_false_iff.2 h2]; simp
  · rw [if_neg h]
    by_cases h2 : bl k b = true
    · rw [h2, show bl k d = true from bl_lt_le h2 (Bool.eq_false_iff.2 h)]; rfl
    · rw [Bool.eq_false_iff.2 h2]; rfl
theorem hs_mt (s p : Spn) (k : List UInt8) : hs (mt s p) k = (hs s k && hs p k) := by
  have key : hs ⟨smx s.lo p.lo, smn s.hi p.hi⟩ k = (hs s k && hs p k) := by
    unfold hs
    simp only [bl_smx, bl_smn]
    cases bl k s.lo <;> cases bl k p.lo <;> cases bl k s.hi <;> cases bl k p.hi <;> rfl
  unfold mt
  split
  · exact key
  · rename_i h
    rw [← key]
    unfold hs
    simp only [bl_nil]
    cases h1 : bl k (smx s.lo p.lo) with
    | true => simp
    | false =>
      cases h2 : bl k (smn s.hi p.hi) with
      | false => simp
      | true => exact absurd (bl_le_trans h1 h2) h
theorem eff_cut1 (p : Spn) (c : Chg) (k : List UInt8) (o : Option (List UInt8)) : (cut1 p c).foldl (eff k) o = if hs p k = true then eff k o c else o := by
  unfold cut1
  by_cases h3 : c.kind = 3
  · rw [if_pos h3]
    have hm := hs_mt p (spn c) k
    have he : eff k o c = if hs (spn c) k = true then none else o := by rw [eff, if_neg (by rw [h3]; decide)]
    by_cases hb : Op.bytesLess (mt p (spn c)).lo (mt p (spn c)).hi = true
    · rw [if_pos hb]
      have e2 : eff k o ⟨3, (mt p (spn c)).lo, (mt p (spn c)).hi⟩ = if hs (mt p (spn c)) k = true then none else o := by
        rw [eff, if_neg (show ¬ (3 : Int) = 1 by decide), spn, if_pos rfl]
      show eff k o ⟨3, (mt p (spn c)).lo, (mt p (spn c)).hi⟩ = _
      rw [e2, hm, he]
      cases hs p k <;> simp
    · rw [if_neg hb]
      have hf : hs (mt p (spn c)) k = false := by
        unfold hs
        cases h1 : bl k (mt p (spn c)).lo with
        | true => rfl
        | false =>
          cases h2 : bl k (mt p (spn c)).hi with
          | false => rfl
          | true => exact absurd (bl_le_trans h1 h2) hb
      rw [hf] at hm
      rw [he]
      show o = _
      cases h1 : hs p k <;> cases h2 : hs (spn c) k <;> rw [h1, h2] at hm <;> simp at hm ⊢
  · rw [if_neg h3]
    have hk := hs_spn h3 k
    have hne : k ≠ c.key → eff k o c = o := fun h => by
      rw [eff]
      by_cases h1 : c.kind = 1
      · rw [if_pos h1, if_neg h]
      · rw [if_neg h1, if_neg fun d => h (hk.1 d)]
    by_cases e : k = c.key
    · subst e
      cases hs p c.key <;> rfl
    · rw [hne e]
      cases hs p c.key with
      | true =>
        show eff k o c = _
        rw [hne e]; simp
      | false => show o = _; simp
theorem eff_cutL (p : Spn) (k : List UInt8) : ∀ (l : List Chg) (o : Option (List UInt8)), (cutL p l).foldl (eff k) o = if hs p k = true then l.foldl (eff k) o else o
  | [], o => by simp [cutL]
  | c :: l, o => by
    have ih := eff_cutL p k l
    unfold cutL at ih ⊢
    rw [List.flatMap_cons, List.foldl_append, ih, eff_cut1]
    cases hs p k <;> simp
theorem smx_len (a b : List UInt8) (n : Nat) (h1 : a.length ≤ n) (h2 : b.length ≤ n) : (smx a b).length ≤ n := by unfold smx; split <;> assumption
theorem smn_len (a b : List UInt8) (n : Nat) (h1 : a.length ≤ n) (h2 : b.length ≤ n) : (smn a b).length ≤ n := by unfold smn; split <;> assumption
theorem mt_len (s t : Spn) (n : Nat) (h1 : s.lo.length ≤ n) (h2 : s.hi.length ≤ n) (h3 : t.lo.length ≤ n) (h4 : t.hi.length ≤ n) : (mt s t).lo.length ≤ n ∧ (mt s t).hi.length ≤ n := by
  unfold mt; split
  · exact ⟨smx_len _ _ _ h1 h3, smn_len _ _ _ h2 h4⟩
  · exact ⟨Nat.zero_le _, Nat.zero_le _⟩
theorem cut1_chk {p : Spn} (h1 : p.lo.length ≤ 17) (h2 : p.hi.length ≤ 17) {c : Chg} (hc : chk c = 0) : ∀ d ∈ cut1 p c, chk d = 0 := by
  intro d hd
  unfold cut1 at hd
  split at hd
  · rename_i h3
    split at hd
    · rename_i hb
      simp at hd
      have hl : c.key.length ≤ 17 ∧ c.val.length ≤ 17 := by
        unfold chk at hc; rw [if_pos h3] at hc
        split at hc
        · cases hc
        · omega
      have hs3 : spn c = ⟨c.key, c.val⟩ := by rw [spn, if_pos h3]
      obtain ⟨m1, m2⟩ := mt_len p (spn c) 17 h1 h2 (by rw [hs3]; exact hl.1) (by rw [hs3]; exact hl.2)
      rw [hd]
      unfold chk
      simp only
      rw [if_pos trivial, if_neg (by omega), if_neg (by rw [show Op.bytesLess (mt p (spn c)).hi (mt p (spn c)).lo = false from bl_asymm hb]; decide)]
    · cases hd
  · split at hd
    · simp at hd; rw [hd]; exact hc
    · cases hd
theorem cutL_chks {p : Spn} (h1 : p.lo.length ≤ 17) (h2 : p.hi.length ≤ 17) {l : List Chg} (hl : chks l = 0) : chks (cutL p l) = 0 :=
  chks_of fun d hd => by
    obtain ⟨c, hc, hd⟩ := List.mem_flatMap.1 hd
    exact cut1_chk h1 h2 (chks_mem hl c hc) d hd
theorem ones_ok : ∀ (l : List Chg) (ps : List Pr), Srt ps → Srt (ones ps l) ∧ ∀ k, lk (ones ps l) k = l.foldl (eff k) (lk ps k)
  | [], ps, h => ⟨h, fun k => rfl⟩
  | c :: l, ps, h => by
    obtain ⟨h1, h2⟩ := one_ok c ps h
    obtain ⟨h3, h4⟩ := ones_ok l (one ps c) h1
    exact ⟨h3, fun k => by show lk (ones (one ps c) l) k = _; rw [h4 k, h2 k]; rfl⟩
theorem lk_hs (s : Spn) (k : List UInt8) : ∀ ps : List Pr, lk (ps.filter fun p => hs s p.key) k = if hs s k = true then lk ps k else none
  | [] => by simp [lk]
  | p :: r => by
    have ih := lk_hs s k r
    rw [List.filter_cons]
    by_cases h : hs s p.key = true
    · rw [if_pos h, lk, lk, ih]
      by_cases e : p.key = k
      · rw [if_pos e, if_pos e, if_pos (by rw [← e]; exact h)]
      · rw [if_neg e, if_neg e]
    · rw [if_neg h, ih, lk]
      by_cases e : p.key = k
      · rw [if_neg (by rw [← e]; exact h), if_neg (by rw [← e]; exact h)]
      · rw [if_neg e]
end Go.Proofs.YtegkojnngdlfaaaGreat
end
