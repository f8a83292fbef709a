/- Changes done piece by piece do what they do all at once: the plain law. No conditions. -/
import Derived.Test.YtknhlbohjiphgaaLAq1
set_option maxRecDepth 100000
set_option maxHeartbeats 4000000
set_option linter.unusedSimpArgs false
set_option linter.unusedVariables false
namespace Go.Proofs.Ytknhlbohjiphgaa
open Go Go.Lx

theorem eff_cut1 (p : Spn) (c : Chg) (k : List UInt8) (o : Option (List UInt8)) : (cut1 p c).foldl (eff k) o = if hs p k = true then eff k o c else o := by
  unfold cut1
  by_cases h3 : c.kind = 3
  · rw [if_pos h3]
    have hm := hs_mt p (spn c) k
    have he : eff k o c = if hs (spn c) k = true then none else o := by rw [eff, if_neg (by rw [h3]; decide)]
    by_cases hb : Op.bytesLess (mt p (spn c)).lo (mt p (spn c)).hi = true
    · rw [if_pos hb]
      have e2 : eff k o ⟨3, (mt p (spn c)).lo, (mt p (spn c)).hi⟩ = if hs (mt p (spn c)) k = true then none else o := by
        rw [eff, if_neg (show ¬ (3 : Int) = 1 by decide), spn, if_pos rfl]
      show eff k o ⟨3, (mt p (spn c)).lo, (mt p (spn c)).hi⟩ = _
      rw [e2, hm, he]
      cases hs p k <;> simp
    · rw [if_neg hb]
      have hf : hs (mt p (spn c)) k = false := by
        unfold hs
        cases h1 : bl k (mt p (spn c)).lo with
        | true => rfl
        | false =>
          cases h2 : bl k (mt p (spn c)).hi with
          | false => rfl
          | true => exact absurd (bl_le_trans h1 h2) hb
      rw [hf] at hm
      rw [he]
      show o = _
      cases h1 : hs p k <;> cases h2 : hs (spn c) k <;> rw [h1, h2] at hm <;> simp at hm ⊢
  · rw [if_neg h3]
    have hk := hs_spn h3 k
    have hne : k ≠ c.key → eff k o c = o := fun h => by
      rw [eff]
      by_cases h1 : c.kind = 1
      · rw [if_pos h1, if_neg h]
      · rw [if_neg h1, if_neg fun d => h (hk.1 d)]
    by_cases e : k = c.key
    · subst e
      cases hs p c.key <;> rfl
    · rw [hne e]
      cases hs p c.key with
      | true =>
        show eff k o c = _
        rw [hne e]; simp
      | false => show o = _; simp
theorem eff_cutL (p : Spn) (k : List UInt8) : ∀ (l : List Chg) (o : Option (List UInt8)), (cutL p l).foldl (eff k) o = if hs p k = true then l.foldl (eff k) o else o
  | [], o => by simp [cutL]
  | c :: l, o => by
    have ih := eff_cutL p k l
    unfold cutL at ih ⊢
    rw [List.flatMap_cons, List.foldl_append, ih, eff_cut1]
    cases hs p k <;> simp

theorem sndP_iff (ps : List Pr) : sndP ps = true ↔ Srt ps ∧ ∀ p ∈ ps, p.key.length ≤ 16 ∧ p.val.length ≤ 64 := by
  constructor
  · intro h
    have h := of_decide_eq_true h
    have hg : ∀ (i : Nat) (p : Pr), ps[i]? = some p → p.key.length ≤ 16 ∧ p.val.length ≤ 64 ∧ (i = 0 ∨ bl (ps.getD (i - 1) ⟨[], []⟩).key p.key = true) := fun i p hp => (gP_some hp).1 (h i (List.getElem?_eq_some_iff.1 hp).1)
    refine ⟨?_, fun p hp => ?_⟩
    · have key : ∀ (d i : Nat) (a b : Pr), ps[i]? = some a → ps[i + d + 1]? = some b → bl a.key b.key = true := by
        intro d
        induction d with
        | zero =>
          intro i a b ha hb
          rcases (hg (i + 1) b hb).2.2 with c | c
          · omega
          · rw [Nat.add_sub_cancel, List.getD_eq_getElem?_getD, ha] at c; exact c
        | succ d ih =>
          intro i a b ha hb
          have hlt := (List.getElem?_eq_some_iff.1 hb).1
          obtain ⟨m, hm⟩ := get_of_lt (show i + d + 1 < ps.length by omega)
          have h1 := ih i a m ha hm
          rcases (hg (i + (d + 1) + 1) b hb).2.2 with c | c
          · omega
          · rw [show i + (d + 1) + 1 - 1 = i + d + 1 by omega, List.getD_eq_getElem?_getD, hm] at c
            exact bl_trans h1 c
      refine List.pairwise_iff_getElem.2 fun i j hi hj hij => ?_
      exact key (j - i - 1) i _ _ (List.getElem?_eq_getElem hi) (by rw [show i + (j - i - 1) + 1 = j by omega]; exact List.getElem?_eq_getElem hj)
    · obtain ⟨i, hi, he⟩ := List.getElem_of_mem hp
      have := hg i p (by rw [List.getElem?_eq_getElem hi, he])
      exact ⟨this.1, this.2.1⟩
  · rintro ⟨h1, h2⟩
    refine decide_eq_true fun i hi => ?_
    have hp := List.getElem?_eq_getElem hi
    refine (gP_some hp).2 ⟨(h2 _ (List.getElem_mem hi)).1, (h2 _ (List.getElem_mem hi)).2, ?_⟩
    by_cases h0 : i = 0
    · exact .inl h0
    · right
      rw [List.getD_eq_getElem?_getD, List.getElem?_eq_getElem (show i - 1 < ps.length by omega)]
      exact List.pairwise_iff_getElem.1 h1 (i - 1) i (by omega) hi (by omega)
theorem one_snd {ps : List Pr} {c : Chg} (h : sndP ps = true) (hc : chk c = 0) : sndP (one ps c) = true := by
  obtain ⟨h1, h2⟩ := (sndP_iff ps).1 h
  refine (sndP_iff _).2 ⟨(one_ok c ps h1).1, fun p hp => ?_⟩
  rw [one_eq] at hp
  split at hp
  · rename_i hk
    rcases ins_mem hp with e | e
    · rw [e]
      unfold chk at hc
      rw [if_neg (by rw [hk]; decide), if_neg (by rw [hk]; decide), if_pos hk] at hc
      split at hc
      · cases hc
      · simp only; omega
    · exact h2 p e
  · exact h2 p (List.mem_filter.1 hp).1
theorem chks_mem : ∀ {l : List Chg}, chks l = 0 → ∀ c ∈ l, chk c = 0
  | [], _, c, h => by cases h
  | d :: r, h, c, hc => by
    unfold chks at h
    split at h
    · rename_i h0; exact absurd h h0
    · rename_i h0
      rcases List.mem_cons.1 hc with e | e
      · rw [e]; exact Classical.not_not.1 h0
      · exact chks_mem h c e
theorem chks_of : ∀ {l : List Chg}, (∀ c ∈ l, chk c = 0) → chks l = 0
  | [], _ => rfl
  | d :: r, h => by
    unfold chks
    rw [if_neg (by rw [h d (by simp)]; decide)]
    exact chks_of fun c hc => h c (by simp [hc])
theorem app_snd : ∀ {l : List Chg} {ps : List Pr}, sndP ps = true → chks l = 0 → sndP (app ps l) = true
  | [], ps, h, _ => h
  | c :: l, ps, h, hl => by
    have hm := chks_mem hl
    exact app_snd (l := l) (one_snd h (hm c (by simp))) (chks_of fun d hd => hm d (by simp [hd]))
theorem smx_len (a b : List UInt8) (n : Nat) (h1 : a.length ≤ n) (h2 : b.length ≤ n) : (smx a b).length ≤ n := by unfold smx; split <;> assumption
theorem smn_len (a b : List UInt8) (n : Nat) (h1 : a.length ≤ n) (h2 : b.length ≤ n) : (smn a b).length ≤ n := by unfold smn; split <;> assumption
theorem mt_len (s t : Spn) (n : Nat) (h1 : s.lo.length ≤ n) (h2 : s.hi.length ≤ n) (h3 : t.lo.length ≤ n) (h4 : t.hi.length ≤ n) : (mt s t).lo.length ≤ n ∧ (mt s t).hi.length ≤ n := by
  unfold mt; split
  · exact ⟨smx_len _ _ _ h1 h3, smn_len _ _ _ h2 h4⟩
  · exact ⟨Nat.zero_le _, Nat.zero_le _⟩
theorem cut1_chk {p : Spn} (h1 : p.lo.length ≤ 17) (h2 : p.hi.length ≤ 17) {c : Chg} (hc : chk c = 0) : ∀ d ∈ cut1 p c, chk d = 0 := by
  intro d hd
  unfold cut1 at hd
  split at hd
  · rename_i h3
    split at hd
    · rename_i hb
      simp at hd
      have hl : c.key.length ≤ 17 ∧ c.val.length ≤ 17 := by
        unfold chk at hc; rw [if_pos h3] at hc
        split at hc
        · cases hc
        · omega
      have hs3 : spn c = ⟨c.key, c.val⟩ := by rw [spn, if_pos h3]
      obtain ⟨m1, m2⟩ := mt_len p (spn c) 17 h1 h2 (by rw [hs3]; exact hl.1) (by rw [hs3]; exact hl.2)
      rw [hd]
      unfold chk
      simp only
      rw [if_pos trivial, if_neg (by omega), if_neg (by rw [show Op.bytesLess (mt p (spn c)).hi (mt p (spn c)).lo = false from bl_asymm hb]; decide)]
    · cases hd
  · split at hd
    · simp at hd; rw [hd]; exact hc
    · cases hd
theorem cutL_chks {p : Spn} (h1 : p.lo.length ≤ 17) (h2 : p.hi.length ≤ 17) {l : List Chg} (hl : chks l = 0) : chks (cutL p l) = 0 :=
  chks_of fun d hd => by
    obtain ⟨c, hc, hd⟩ := List.mem_flatMap.1 hd
    exact cut1_chk h1 h2 (chks_mem hl c hc) d hd

/-- Behind the pieces from i on, done last first. -/
def stg (bs : BL) (l : List Chg) (ps : List Pr) : Nat → Nat → List Pr
  | _, 0 => ps
  | m, n + 1 => app (stg bs l ps (m + 1) n) (cutL (pc bs m) l)
theorem stg_ok {bs : BL} (hsn : sndB bs = true) {l : List Chg} (hl : chks l = 0) {ps : List Pr} (hp : sndP ps = true) : ∀ (n m : Nat), m + n = bs.length + 1 → sndP (stg bs l ps m n) = true ∧ ∀ k, k.length ≤ 16 → lk (stg bs l ps m n) k = if m ≤ wh bs k then l.foldl (eff k) (lk ps k) else lk ps k
  | 0, m, h => ⟨hp, fun k hk => by
      have := wh_le bs k
      rw [if_neg (by omega)]; rfl⟩
  | n + 1, m, h => by
    obtain ⟨i1, i2⟩ := stg_ok hsn hl hp n (m + 1) (by omega)
    have hpl := pc_len hsn m (by omega)
    refine ⟨app_snd i1 (cutL_chks hpl.1 hpl.2 hl), fun k hk => ?_⟩
    rw [stg, (app_ok _ _ ((sndP_iff _).1 i1).1).2 k, eff_cutL, i2 k hk]
    have ho : hs (pc bs m) k = decide (m = wh bs k) := one_law hsn k hk m (by omega)
    rw [ho]
    by_cases e : m = wh bs k
    · rw [decide_eq_true e, if_pos rfl, if_neg (by omega), if_pos (by omega)]
    · rw [decide_eq_false e, if_neg (by decide)]
      by_cases e2 : m + 1 ≤ wh bs k
      · rw [if_pos e2, if_pos (by omega)]
      · rw [if_neg e2, if_neg (by omega)]
theorem all_pieces {bs : BL} (hsn : sndB bs = true) {l : List Chg} (hl : chks l = 0) {ps : List Pr} (hp : sndP ps = true) : stg bs l ps 0 (bs.length + 1) = app ps l := by
  obtain ⟨h1, h2⟩ := stg_ok hsn hl hp (bs.length + 1) 0 (by omega)
  have h3 := app_snd hp hl
  obtain ⟨s1, s2⟩ := (sndP_iff _).1 h1
  obtain ⟨t1, t2⟩ := (sndP_iff _).1 h3
  refine srt_ext s1 t1 fun k => ?_
  by_cases hk : k.length ≤ 16
  · rw [h2 k hk, if_pos (Nat.zero_le _), (app_ok l ps ((sndP_iff _).1 hp).1).2 k]
  · rw [lk_none fun p hp c => hk (by rw [← c]; exact (s2 p hp).1), lk_none fun p hp c => hk (by rw [← c]; exact (t2 p hp).1)]
end Go.Proofs.Ytknhlbohjiphgaa
