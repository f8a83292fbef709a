/- One change of pairs that are in order, by places: the plain law. No program in sight. No conditions. -/
import Derived.Test.YtdeolllpbflemaaLOn1
set_option maxRecDepth 100000
set_option maxHeartbeats 4000000
set_option linter.unusedSimpArgs false
set_option linter.unusedVariables false
namespace Go.Proofs.Ytdeolllpbflemaa
open Go Go.Lx

theorem filter_mid {α : Type} (f : α → Bool) (ps : List α) (i j : Nat) (hij : i ≤ j) (h1 : ∀ q p, q < i → ps[q]? = some p → f p = true) (h2 : ∀ q p, i ≤ q → q < j → ps[q]? = some p → f p = false)
    (h3 : ∀ q p, j ≤ q → ps[q]? = some p → f p = true) : ps.filter f = ps.take i ++ ps.drop j := by
  have e : ps = ps.take i ++ ((ps.drop i).take (j - i) ++ ps.drop j) := by
    have e2 : ps.drop j = (ps.drop i).drop (j - i) := by rw [List.drop_drop]; congr 1; omega
    rw [e2, List.take_append_drop, List.take_append_drop]
  have g1 : (ps.take i).filter f = ps.take i := List.filter_eq_self.2 fun a ha => by
    obtain ⟨q, hq, hqa⟩ := List.mem_iff_getElem?.1 ha |>.imp fun q h => (⟨(List.getElem?_eq_some_iff.1 h).1, h⟩ : q < (ps.take i).length ∧ _)
    rw [List.getElem?_take] at hqa
    split at hqa
    · exact h1 q a (by assumption) hqa
    · cases hqa
  have g2 : ((ps.drop i).take (j - i)).filter f = [] := List.filter_eq_nil_iff.2 fun a ha => by
    obtain ⟨q, hqa⟩ := List.mem_iff_getElem?.1 ha
    rw [List.getElem?_take] at hqa
    split at hqa
    · rw [List.getElem?_drop] at hqa
      rw [h2 (i + q) a (by omega) (by omega) hqa]; decide
    · cases hqa
  have g3 : (ps.drop j).filter f = ps.drop j := List.filter_eq_self.2 fun a ha => by
    obtain ⟨q, hqa⟩ := List.mem_iff_getElem?.1 ha
    rw [List.getElem?_drop] at hqa
    exact h3 (j + q) a (by omega) hqa
  conv => lhs; rw [e]
  rw [List.filter_append, List.filter_append, g1, g2, g3]; rfl

theorem ins_pos (c : Chg) (hc : c.kind = 1) : ∀ (ps : List Pr) (i : Nat), Pos ps c.key i → ins c ps = ps.take i ++ ⟨c.key, c.val⟩ :: (ps.drop i).filter (nh c)
  | [], i, ⟨h, _, _⟩ => by simp [ins]
  | p :: r, 0, ⟨_, _, h⟩ => by
    have hlt := h 0 p (Nat.le_refl _) rfl
    have : ¬ Op.bytesLess p.key c.key = true := fun d => by rw [show bl p.key c.key = true from d] at hlt; cases hlt
    rw [ins, if_neg this]; rfl
  | p :: r, i + 1, ⟨h0, h1, h2⟩ => by
    have hlt : Op.bytesLess p.key c.key = true := h1 0 p (by omega) rfl
    have h3 : c.kind ≠ 3 := by rw [hc]; decide
    have hnh : ¬ hs (spn c) p.key = true := fun d => (bl_ne hlt) ((hs_spn h3 p.key).1 d)
    rw [ins, if_pos hlt, if_neg hnh, ins_pos c hc r i ⟨by simpa using h0, fun q a hq ha => h1 (q + 1) a (by omega) (by simpa using ha), fun q a hq ha => h2 (q + 1) a (by omega) (by simpa using ha)⟩]
    rfl

theorem nh_iff {c : Chg} (h : c.kind ≠ 3) (p : Pr) : nh c p = decide (p.key ≠ c.key) := by
  unfold nh
  by_cases e : p.key = c.key
  · rw [(hs_spn h p.key).2 e]; simp [e]
  · rw [Bool.eq_false_iff.2 fun d => e ((hs_spn h p.key).1 d)]; simp [e]

theorem pos_ne {ps : List Pr} (hs : Srt ps) {k : List UInt8} {i : Nat} (hp : Pos ps k i) (hnot : ¬ ∃ p, ps[i]? = some p ∧ p.key = k) {q : Nat} {p : Pr} (h : ps[q]? = some p) : p.key ≠ k := by
  intro e
  by_cases hq : q < i
  · have := hp.2.1 q p hq h
    rw [e, bl_irrefl] at this; cases this
  · by_cases hqi : q = i
    · subst hqi; exact hnot ⟨p, h, e⟩
    · obtain ⟨a, ha⟩ := get_of_lt (show i < ps.length by have := (List.getElem?_eq_some_iff.1 h).1; omega)
      have h1 := srt_lt hs ha h (by omega)
      rw [e, hp.2.2 i a (Nat.le_refl _) ha] at h1; cases h1
theorem pos_ne_there {ps : List Pr} (hs : Srt ps) {k : List UInt8} {i : Nat} {b : Pr} (hb : ps[i]? = some b) (hk : b.key = k) {q : Nat} {p : Pr} (h : ps[q]? = some p) (hq : q ≠ i) : p.key ≠ k := by
  intro e
  rcases Nat.lt_or_gt_of_ne hq with c | c
  · have := srt_lt hs h hb c
    rw [e, hk, bl_irrefl] at this; cases this
  · have := srt_lt hs hb h c
    rw [e, hk, bl_irrefl] at this; cases this

theorem one_put_there {ps : List Pr} (hs : Srt ps) (c : Chg) (hc : c.kind = 1) {i : Nat} (hp : Pos ps c.key i) {b : Pr} (hb : ps[i]? = some b) (hk : b.key = c.key) : one ps c = ps.set i ⟨c.key, c.val⟩ := by
  have h3 : c.kind ≠ 3 := by rw [hc]; decide
  have hil := (List.getElem?_eq_some_iff.1 hb).1
  rw [one_eq, if_pos hc, ins_pos c hc ps i hp]
  rw [filter_mid (nh c) (ps.drop i) 0 1 (by omega) (fun q p h => absurd h (Nat.not_lt_zero q)) ?_ ?_]
  · rw [List.take_zero, List.nil_append, List.drop_drop, List.set_eq_take_append_cons_drop, if_pos hil]
  · intro q p h1 h2 h
    have : q = 0 := by omega
    subst this
    rw [List.getElem?_drop] at h
    rw [nh_iff h3]
    rw [show i + 0 = i from rfl, hb] at h; cases h
    simp [hk]
  · intro q p h1 h
    rw [List.getElem?_drop] at h
    rw [nh_iff h3]
    exact decide_eq_true (pos_ne_there hs hb hk h (by omega))
theorem one_put_new {ps : List Pr} (hs : Srt ps) (c : Chg) (hc : c.kind = 1) {i : Nat} (hp : Pos ps c.key i) (hnot : ¬ ∃ p, ps[i]? = some p ∧ p.key = c.key) : one ps c = ps.take i ++ ⟨c.key, c.val⟩ :: ps.drop i := by
  have h3 : c.kind ≠ 3 := by rw [hc]; decide
  rw [one_eq, if_pos hc, ins_pos c hc ps i hp]
  congr 2
  refine List.filter_eq_self.2 fun a ha => ?_
  obtain ⟨q, hqa⟩ := List.mem_iff_getElem?.1 ha
  rw [List.getElem?_drop] at hqa
  rw [nh_iff h3]
  exact decide_eq_true (pos_ne hs hp hnot hqa)
theorem one_clear_there {ps : List Pr} (hs : Srt ps) (c : Chg) (hc : c.kind = 2) {i : Nat} {b : Pr} (hb : ps[i]? = some b) (hk : b.key = c.key) : one ps c = ps.take i ++ ps.drop (i + 1) := by
  have h3 : c.kind ≠ 3 := by rw [hc]; decide
  rw [one_eq, if_neg (by rw [hc]; decide)]
  refine filter_mid _ _ _ _ (by omega) (fun q p hq h => ?_) (fun q p h1 h2 h => ?_) fun q p hq h => ?_
  · rw [nh_iff h3]; exact decide_eq_true (pos_ne_there hs hb hk h (by omega))
  · have : q = i := by omega
    subst this
    rw [hb] at h; cases h
    rw [nh_iff h3]; simp [hk]
  · rw [nh_iff h3]; exact decide_eq_true (pos_ne_there hs hb hk h (by omega))
theorem one_clear_not {ps : List Pr} (hs : Srt ps) (c : Chg) (hc : c.kind = 2) {i : Nat} (hp : Pos ps c.key i) (hnot : ¬ ∃ p, ps[i]? = some p ∧ p.key = c.key) : one ps c = ps := by
  have h3 : c.kind ≠ 3 := by rw [hc]; decide
  rw [one_eq, if_neg (by rw [hc]; decide)]
  refine List.filter_eq_self.2 fun a ha => ?_
  obtain ⟨q, hqa⟩ := List.mem_iff_getElem?.1 ha
  rw [nh_iff h3]
  exact decide_eq_true (pos_ne hs hp hnot hqa)
theorem one_wipe {ps : List Pr} (c : Chg) (hc : c.kind = 3) {i k : Nat} (hp : Pos ps c.key i) (hk : Pos ps c.val k) : one ps c = ps.take i ++ ps.drop (max i k) := by
  have hh : ∀ p : Pr, nh c p = !(!(bl p.key c.key) && bl p.key c.val) := fun p => by
    unfold nh; rw [show spn c = ⟨c.key, c.val⟩ by unfold spn; rw [if_pos hc]]; rfl
  rw [one_eq, if_neg (by rw [hc]; decide)]
  refine filter_mid _ _ _ _ (by omega) (fun q p hq h => ?_) (fun q p h1 h2 h => ?_) fun q p hq h => ?_
  · rw [hh, hp.2.1 q p hq h]; simp
  · rw [hh, hp.2.2 q p h1 h, hk.2.1 q p (by omega) h]; simp
  · rw [hh, hk.2.2 q p (by omega) h]; simp
theorem one_len_le (ps : List Pr) (hs : Srt ps) (c : Chg) : (one ps c).length ≤ ps.length + 1 := by
  rw [one_eq]
  split
  · have : ∀ l : List Pr, (ins c l).length ≤ l.length + 1 := by
      intro l
      induction l with
      | nil => simp [ins]
      | cons p r ih =>
        rw [ins]
        split
        · split <;> simp <;> omega
        · have := List.length_filter_le (nh c) (p :: r)
          simp only [List.length_cons] at this ⊢; omega
    exact this ps
  · have := List.length_filter_le (nh c) ps
    omega
end Go.Proofs.Ytdeolllpbflemaa
