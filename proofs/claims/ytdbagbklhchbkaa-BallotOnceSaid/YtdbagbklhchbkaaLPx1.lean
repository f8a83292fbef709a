/- The plain law of ballots: no two states are taken by majorities. No program in sight; conditions: none. -/
import Init
set_option linter.unusedSimpArgs false
set_option linter.unusedVariables false
namespace Go.Proofs.Ytdbagbklhchbkaa
/-- What councils and ballots are at: p, a, g of each council; of each ballot k (its number is k + 1) what it was told, what it proposes (0: nothing yet), who was asked, who took it; and what was chosen. -/
structure Px where
  p : Nat → Nat
  a : Nat → Nat
  g : Nat → Nat
  told : Nat → List (Nat × Nat)
  mine : Nat → Nat
  asked : Nat → Nat → Bool
  took : Nat → Nat → Bool
  chosen : Nat
def fset {α : Type} (f : Nat → α) (i : Nat) (x : α) : Nat → α := fun j => if j = i then x else f j
theorem fset_at {α : Type} (f : Nat → α) (i : Nat) (x : α) : fset f i x i = x := by simp [fset]
theorem fset_ne {α : Type} (f : Nat → α) {i j : Nat} (x : α) (h : j ≠ i) : fset f i x j = f j := by simp [fset, h]
def fset2 (f : Nat → Nat → Bool) (k c : Nat) : Nat → Nat → Bool := fset f k (fset (f k) c true)
def cnt (n : Nat) (f : Nat → Bool) : Nat := ((List.range n).filter f).length
def bst : Nat × Nat → List (Nat × Nat) → Nat × Nat
  | b, [] => b
  | b, v :: r => bst (if b.1 < v.1 then v else b) r
def Px.promise (n : Nat) (s : Px) (k c : Nat) : Px :=
  if s.p c < k + 1 then
    if s.asked k c = false ∧ s.mine k = 0 then
      let t := s.told k ++ [(s.a c, s.g c)]
      { s with p := fset s.p c (k + 1), told := fset s.told k t, asked := fset2 s.asked k c,
               mine := if n < 2 * t.length then fset s.mine k (if (bst (0, 0) t).2 = 0 then k + 1 else (bst (0, 0) t).2) else s.mine }
    else { s with p := fset s.p c (k + 1) }
  else s
/-- A ballot has a state taken. -/
def Px.take (s : Px) (k c : Nat) : Px :=
  if k + 1 < s.p c then s else { s with p := fset s.p c (k + 1), a := fset s.a c (k + 1), g := fset s.g c (s.mine k), took := fset2 s.took k c }
structure Px.Ok (n : Nat) (s : Px) : Prop where
  vow : ∀ c, s.a c ≤ s.p c ∧ ((s.a c = 0 ∧ s.g c = 0) ∨ (∃ j, s.a c = j + 1 ∧ s.mine j ≠ 0 ∧ s.g c = s.mine j))
  took : ∀ k c, s.took k c = true → s.mine k ≠ 0 ∧ k + 1 ≤ s.p c ∧ k + 1 ≤ s.a c
  asked : ∀ k c, s.asked k c = true → k + 1 ≤ s.p c ∧ ∃ v ∈ s.told k, ∀ j, j < k → s.took j c = true → j + 1 ≤ v.1
  told : ∀ k, ∀ v ∈ s.told k, v.1 ≤ k ∧ ((v.1 = 0 ∧ v.2 = 0) ∨ (∃ j, v.1 = j + 1 ∧ s.mine j ≠ 0 ∧ v.2 = s.mine j))
  len : ∀ k, (s.told k).length = cnt n (s.asked k)
  mine : ∀ k, s.mine k ≠ 0 → n < 2 * (s.told k).length ∧ s.mine k = if (bst (0, 0) (s.told k)).2 = 0 then k + 1 else (bst (0, 0) (s.told k)).2
  chosen : s.chosen = 0 ∨ ∃ j, n < 2 * cnt n (s.took j) ∧ s.chosen = s.mine j
theorem cnt_two {n : Nat} {f g : Nat → Bool} (h : ∀ c, c < n → ¬ (f c = true ∧ g c = true)) : cnt n f + cnt n g ≤ n := by
  have key : ∀ l : List Nat, (∀ c ∈ l, ¬ (f c = true ∧ g c = true)) → (l.filter f).length + (l.filter g).length ≤ l.length := by
    intro l
    induction l with
    | nil => intro _; simp
    | cons x r ih =>
      intro hx
      have h1 := ih fun c hc => hx c (List.mem_cons_of_mem _ hc)
      have h2 := hx x (List.mem_cons_self ..)
      rw [List.filter_cons, List.filter_cons]
      cases hf : f x <;> cases hg : g x <;> simp [hf, hg] at h2 ⊢ <;> omega
  have := key (List.range n) fun c hc => h c (List.mem_range.1 hc)
  rw [List.length_range] at this
  exact this
theorem cnt_meet {n : Nat} {f g : Nat → Bool} (hf : n < 2 * cnt n f) (hg : n < 2 * cnt n g) : ∃ c, c < n ∧ f c = true ∧ g c = true := by
  refine Classical.byContradiction fun hn => ?_
  have := @cnt_two n f g fun c hc hfg => hn ⟨c, hc, hfg⟩
  omega
theorem bst_ge : ∀ (l : List (Nat × Nat)) (b : Nat × Nat), b.1 ≤ (bst b l).1 ∧ (∀ v ∈ l, v.1 ≤ (bst b l).1) ∧ (bst b l = b ∨ bst b l ∈ l)
  | [], b => ⟨Nat.le_refl _, by simp, .inl rfl⟩
  | v :: r, b => by
    have ih := bst_ge r (if b.1 < v.1 then v else b)
    show b.1 ≤ (bst (if b.1 < v.1 then v else b) r).1 ∧ (∀ u ∈ v :: r, u.1 ≤ (bst (if b.1 < v.1 then v else b) r).1) ∧ _
    by_cases h : b.1 < v.1
    · rw [if_pos h] at ih ⊢
      refine ⟨by omega, ?_, ?_⟩
      · intro u hu
        rcases List.mem_cons.1 hu with rfl | hu
        · exact ih.1
        · exact ih.2.1 u hu
      · show bst (if b.1 < v.1 then v else b) r = b ∨ bst (if b.1 < v.1 then v else b) r ∈ v :: r
        rw [if_pos h]
        rcases ih.2.2 with e | e
        · rw [e]; exact .inr (List.mem_cons_self ..)
        · exact .inr (List.mem_cons_of_mem _ e)
    · rw [if_neg h] at ih ⊢
      refine ⟨ih.1, ?_, ?_⟩
      · intro u hu
        rcases List.mem_cons.1 hu with rfl | hu
        · have := ih.1; omega
        · exact ih.2.1 u hu
      · show bst (if b.1 < v.1 then v else b) r = b ∨ bst (if b.1 < v.1 then v else b) r ∈ v :: r
        rw [if_neg h]
        rcases ih.2.2 with e | e
        · exact .inl e
        · exact .inr (List.mem_cons_of_mem _ e)
/-- What a later ballot proposes is what a majority took. -/
theorem Px.Ok.one {n : Nat} {s : Px} (h : s.Ok n) {j : Nat} (hj : n < 2 * cnt n (s.took j)) : ∀ (k : Nat), j < k → s.mine k ≠ 0 → s.mine k = s.mine j := by
  intro k
  induction k using Nat.strongRecOn with
  | _ k ih =>
    intro hjk hk
    obtain ⟨h1, h2⟩ := h.mine k hk
    rw [h.len k] at h1
    obtain ⟨c, hc, hca, hct⟩ := cnt_meet h1 hj
    obtain ⟨-, v, hv, hvj⟩ := h.asked k c hca
    have hv1 := hvj j hjk hct
    have hb := bst_ge (s.told k) (0, 0)
    have hb1 := hb.2.1 v hv
    rcases hb.2.2 with e | e
    · rw [e] at hb1; simp at hb1; omega
    · obtain ⟨t1, t2⟩ := h.told k _ e
      rcases t2 with ⟨t2, -⟩ | ⟨m, t2, t3, t4⟩
      · omega
      · rw [t4, if_neg t3] at h2
        rw [h2]
        rcases Nat.lt_or_ge j m with hm | hm
        · exact ih m (by omega) hm t3
        · have : m = j := by omega
          rw [this]
theorem Px.Ok.same {n : Nat} {s : Px} (h : s.Ok n) {j k : Nat} (hj : n < 2 * cnt n (s.took j)) (hk : n < 2 * cnt n (s.took k)) (mj : s.mine j ≠ 0) (mk : s.mine k ≠ 0) : s.mine k = s.mine j := by
  rcases Nat.lt_trichotomy j k with h1 | h1 | h1
  · exact h.one hj k h1 mk
  · rw [h1]
  · exact (h.one hk j h1 mj).symm
theorem cnt_pos {n : Nat} {f : Nat → Bool} (h : 0 < cnt n f) : ∃ c, c < n ∧ f c = true := by
  unfold cnt at h
  obtain ⟨x, hx⟩ := List.exists_mem_of_length_pos h
  rw [List.mem_filter, List.mem_range] at hx
  exact ⟨x, hx.1, hx.2⟩
theorem Px.Ok.mineOf {n : Nat} {s : Px} (h : s.Ok n) {j : Nat} (hj : n < 2 * cnt n (s.took j)) : s.mine j ≠ 0 := by
  obtain ⟨c, -, hc⟩ := cnt_pos (n := n) (f := s.took j) (by omega)
  exact (h.took j c hc).1
/-- What was chosen is what is chosen. -/
theorem Px.Ok.agree {n : Nat} {s : Px} (h : s.Ok n) {k : Nat} (hk : n < 2 * cnt n (s.took k)) : s.chosen = 0 ∨ s.chosen = s.mine k := by
  rcases h.chosen with h0 | ⟨j, hj, e⟩
  · exact .inl h0
  · exact .inr (by rw [e]; exact (h.same hj hk (h.mineOf hj) (h.mineOf hk)).symm)
theorem Px.Ok.choose {n : Nat} {s : Px} (h : s.Ok n) {k : Nat} (hk : n < 2 * cnt n (s.took k)) : ({ s with chosen := s.mine k } : Px).Ok n :=
  ⟨h.vow, h.took, h.asked, h.told, h.len, h.mine, .inr ⟨k, hk, rfl⟩⟩
theorem cnt_set {n : Nat} {f : Nat → Bool} {c : Nat} (hc : c < n) (hf : f c = false) : cnt n (fset f c true) = cnt n f + 1 := by
  have key : ∀ l : List Nat, l.Nodup → (c ∈ l → (l.filter (fset f c true)).length = (l.filter f).length + 1) ∧ (c ∉ l → l.filter (fset f c true) = l.filter f) := by
    intro l
    induction l with
    | nil => intro _; simp
    | cons x r ih =>
      intro hn
      obtain ⟨hx, hr⟩ := List.nodup_cons.1 hn
      obtain ⟨i1, i2⟩ := ih hr
      refine ⟨fun hm => ?_, fun hm => ?_⟩
      · rcases List.mem_cons.1 hm with rfl | hm
        · rw [List.filter_cons, List.filter_cons, fset_at, hf, i2 hx]; simp
        · have hxc : x ≠ c := fun e => hx (e ▸ hm)
          rw [List.filter_cons, List.filter_cons, fset_ne _ _ hxc]
          have := i1 hm
          cases f x
          · exact this
          · simpa using this
      · have hxc : x ≠ c := fun e => hm (e ▸ List.mem_cons_self ..)
        rw [List.filter_cons, List.filter_cons, fset_ne _ _ hxc, i2 fun h => hm (List.mem_cons_of_mem _ h)]
  exact (key _ List.nodup_range).1 (List.mem_range.2 hc)
theorem cnt_mono {n : Nat} {f g : Nat → Bool} (h : ∀ c, f c = true → g c = true) : cnt n f ≤ cnt n g := by
  unfold cnt
  generalize List.range n = l
  induction l with
  | nil => simp
  | cons x r ih =>
    rw [List.filter_cons, List.filter_cons]
    have := h x
    cases hf : f x <;> cases hg : g x <;> simp [hf, hg] at this ⊢ <;> omega
theorem fset2_true {f : Nat → Nat → Bool} {k c k' c' : Nat} (h : fset2 f k c k' c' = true) : (k' = k ∧ c' = c) ∨ f k' c' = true := by
  unfold fset2 fset at h
  by_cases h1 : k' = k
  · subst h1
    by_cases h2 : c' = c
    · exact .inl ⟨rfl, h2⟩
    · simp [h2] at h; exact .inr h
  · simp [h1] at h; exact .inr h
theorem fset2_of {f : Nat → Nat → Bool} {k c k' c' : Nat} (h : f k' c' = true) : fset2 f k c k' c' = true := by
  unfold fset2 fset
  by_cases h1 : k' = k
  · subst h1
    by_cases h2 : c' = c <;> simp [h2, h]
  · simp [h1, h]
theorem Px.Ok.promise {n : Nat} {s : Px} (h : s.Ok n) {k c : Nat} (hc : c < n) : (s.promise n k c).Ok n := by
  unfold Px.promise
  by_cases hp : s.p c < k + 1
  · rw [if_pos hp]
    have hpc : ∀ c', s.p c' ≤ fset s.p c (k + 1) c' := by
      intro c'
      by_cases e : c' = c
      · rw [e, fset_at]; omega
      · rw [fset_ne _ _ e]; exact Nat.le_refl _
    by_cases ha : s.asked k c = false ∧ s.mine k = 0
    · rw [if_pos ha]
      obtain ⟨ha, hm⟩ := ha
      -- what it proposes may be new
      show Px.Ok n ⟨fset s.p c (k + 1), s.a, s.g, fset s.told k (s.told k ++ [(s.a c, s.g c)]), (if n < 2 * (s.told k ++ [(s.a c, s.g c)]).length then fset s.mine k (if (bst (0, 0) (s.told k ++ [(s.a c, s.g c)])).2 = 0 then k + 1 else (bst (0, 0) (s.told k ++ [(s.a c, s.g c)])).2) else s.mine), fset2 s.asked k c, s.took, s.chosen⟩
      generalize hmm : (if n < 2 * (s.told k ++ [(s.a c, s.g c)]).length then fset s.mine k (if (bst (0, 0) (s.told k ++ [(s.a c, s.g c)])).2 = 0 then k + 1 else (bst (0, 0) (s.told k ++ [(s.a c, s.g c)])).2) else s.mine) = mm
      have hne : ∀ j, j ≠ k → mm j = s.mine j := by
        intro j hj
        rw [← hmm]
        split
        · exact fset_ne _ _ hj
        · rfl
      have hold : ∀ j, s.mine j ≠ 0 → mm j = s.mine j := fun j hj => hne j fun e => hj (by rw [e]; exact hm)
      refine ⟨?_, ?_, ?_, ?_, ?_, ?_, ?_⟩
      · intro c'
        obtain ⟨v1, v2⟩ := h.vow c'
        refine ⟨Nat.le_trans v1 (hpc c'), ?_⟩
        rcases v2 with v2 | ⟨j, j1, j2, j3⟩
        · exact .inl v2
        · exact .inr ⟨j, j1, by show mm j ≠ 0; rw [hold j j2]; exact j2, by show s.g c' = mm j; rw [hold j j2]; exact j3⟩
      · intro k' c' ht
        obtain ⟨t1, t2, t3⟩ := h.took k' c' ht
        exact ⟨by show mm k' ≠ 0; rw [hold k' t1]; exact t1, Nat.le_trans t2 (hpc c'), t3⟩
      · intro k' c' hk'
        show k' + 1 ≤ fset s.p c (k + 1) c' ∧ ∃ v ∈ fset s.told k (s.told k ++ [(s.a c, s.g c)]) k', ∀ j, j < k' → s.took j c' = true → j + 1 ≤ v.1
        rcases fset2_true hk' with ⟨rfl, rfl⟩ | hk'
        · refine ⟨by rw [fset_at]; exact Nat.le_refl _, (s.a c', s.g c'), by rw [fset_at]; simp, ?_⟩
          intro j _ hj
          exact (h.took j c' hj).2.2
        · obtain ⟨a1, v, hv, a2⟩ := h.asked k' c' hk'
          refine ⟨Nat.le_trans a1 (hpc c'), v, ?_, a2⟩
          by_cases e : k' = k
          · subst e; rw [fset_at]; exact List.mem_append_left _ hv
          · rw [fset_ne _ _ e]; exact hv
      · intro k' v hv
        show v.1 ≤ k' ∧ ((v.1 = 0 ∧ v.2 = 0) ∨ ∃ j, v.1 = j + 1 ∧ mm j ≠ 0 ∧ v.2 = mm j)
        have hup : ∀ u : Nat × Nat, ((u.1 = 0 ∧ u.2 = 0) ∨ ∃ j, u.1 = j + 1 ∧ s.mine j ≠ 0 ∧ u.2 = s.mine j) → ((u.1 = 0 ∧ u.2 = 0) ∨ ∃ j, u.1 = j + 1 ∧ mm j ≠ 0 ∧ u.2 = mm j) := by
          rintro u (h0 | ⟨j, j1, j2, j3⟩)
          · exact .inl h0
          · exact .inr ⟨j, j1, by rw [hold j j2]; exact j2, by rw [hold j j2]; exact j3⟩
        have hv' : v ∈ fset s.told k (s.told k ++ [(s.a c, s.g c)]) k' := hv
        by_cases e : k' = k
        · subst e
          rw [fset_at] at hv'
          rcases List.mem_append.1 hv' with hv' | hv'
          · obtain ⟨t1, t2⟩ := h.told k' v hv'
            exact ⟨t1, hup v t2⟩
          · rw [List.mem_singleton] at hv'
            subst hv'
            obtain ⟨v1, v2⟩ := h.vow c
            exact ⟨by show s.a c ≤ k'; omega, hup (s.a c, s.g c) v2⟩
        · rw [fset_ne _ _ e] at hv'
          obtain ⟨t1, t2⟩ := h.told k' v hv'
          exact ⟨t1, hup v t2⟩
      · intro k'
        show (fset s.told k (s.told k ++ [(s.a c, s.g c)]) k').length = cnt n (fset2 s.asked k c k')
        unfold fset2
        by_cases e : k' = k
        · subst e
          rw [fset_at, fset_at, List.length_append, List.length_singleton, h.len, cnt_set hc ha]
        · rw [fset_ne _ _ e, fset_ne _ _ e]; exact h.len k'
      · intro k' hk'
        show n < 2 * (fset s.told k (s.told k ++ [(s.a c, s.g c)]) k').length ∧ mm k' = if (bst (0, 0) (fset s.told k (s.told k ++ [(s.a c, s.g c)]) k')).2 = 0 then k' + 1 else (bst (0, 0) (fset s.told k (s.told k ++ [(s.a c, s.g c)]) k')).2
        replace hk' : mm k' ≠ 0 := hk'
        by_cases e : k' = k
        · subst e
          rw [fset_at]
          by_cases hn : n < 2 * (s.told k' ++ [(s.a c, s.g c)]).length
          · refine ⟨hn, ?_⟩
            rw [← hmm, if_pos hn, fset_at]
          · rw [← hmm, if_neg hn] at hk'
            exact absurd hm hk'
        · rw [fset_ne _ _ e]
          rw [hne k' e] at hk' ⊢
          exact h.mine k' hk'
      · rcases h.chosen with h0 | ⟨j, hj, ej⟩
        · exact .inl h0
        · refine .inr ⟨j, hj, ?_⟩
          show s.chosen = mm j
          rw [hold j (h.mineOf hj)]; exact ej
    · rw [if_neg ha]
      exact ⟨fun c' => ⟨Nat.le_trans (h.vow c').1 (hpc c'), (h.vow c').2⟩, fun k' c' ht => ⟨(h.took k' c' ht).1, Nat.le_trans (h.took k' c' ht).2.1 (hpc c'), (h.took k' c' ht).2.2⟩,
        fun k' c' ht => ⟨Nat.le_trans (h.asked k' c' ht).1 (hpc c'), (h.asked k' c' ht).2⟩, h.told, h.len, h.mine, h.chosen⟩
  · rw [if_neg hp]; exact h
theorem Px.Ok.take {n : Nat} {s : Px} (h : s.Ok n) {k c : Nat} (hk : s.mine k ≠ 0) : (s.take k c).Ok n := by
  unfold Px.take
  by_cases hp : k + 1 < s.p c
  · rw [if_pos hp]; exact h
  · rw [if_neg hp]
    have hpc : ∀ c', s.p c' ≤ fset s.p c (k + 1) c' := by
      intro c'
      by_cases e : c' = c
      · rw [e, fset_at]; omega
      · rw [fset_ne _ _ e]; exact Nat.le_refl _
    refine ⟨?_, ?_, ?_, h.told, h.len, h.mine, ?_⟩
    · intro c'
      show fset s.a c (k + 1) c' ≤ fset s.p c (k + 1) c' ∧ ((fset s.a c (k + 1) c' = 0 ∧ fset s.g c (s.mine k) c' = 0) ∨ ∃ j, fset s.a c (k + 1) c' = j + 1 ∧ s.mine j ≠ 0 ∧ fset s.g c (s.mine k) c' = s.mine j)
      by_cases e : c' = c
      · rw [e, fset_at, fset_at, fset_at]
        exact ⟨Nat.le_refl _, .inr ⟨k, rfl, hk, rfl⟩⟩
      · rw [fset_ne _ _ e, fset_ne _ _ e, fset_ne _ _ e]; exact h.vow c'
    · intro k' c' ht
      show s.mine k' ≠ 0 ∧ k' + 1 ≤ fset s.p c (k + 1) c' ∧ k' + 1 ≤ fset s.a c (k + 1) c'
      rcases fset2_true ht with ⟨rfl, rfl⟩ | ht
      · rw [fset_at, fset_at]; exact ⟨hk, Nat.le_refl _, Nat.le_refl _⟩
      · obtain ⟨t1, t2, t3⟩ := h.took k' c' ht
        refine ⟨t1, Nat.le_trans t2 (hpc c'), ?_⟩
        by_cases e : c' = c
        · subst e; rw [fset_at]; have := (h.vow c').1; omega
        · rw [fset_ne _ _ e]; exact t3
    · intro k' c' ha
      obtain ⟨a1, v, hv, a2⟩ := h.asked k' c' ha
      refine ⟨Nat.le_trans a1 (hpc c'), v, hv, ?_⟩
      intro j hj ht
      rcases fset2_true ht with ⟨rfl, rfl⟩ | ht
      · omega
      · exact a2 j hj ht
    · rcases h.chosen with h0 | ⟨j, hj, ej⟩
      · exact .inl h0
      · exact .inr ⟨j, Nat.lt_of_lt_of_le hj (Nat.mul_le_mul_left _ (cnt_mono fun c' hc' => fset2_of hc')), ej⟩
def Px.zero : Px := ⟨fun _ => 0, fun _ => 0, fun _ => 0, fun _ => [], fun _ => 0, fun _ _ => false, fun _ _ => false, 0⟩
theorem Px.Ok.zero (n : Nat) : Px.zero.Ok n := by
  refine ⟨fun c => ⟨Nat.le_refl _, .inl ⟨rfl, rfl⟩⟩, fun k c h => by simp [Px.zero] at h, fun k c h => by simp [Px.zero] at h, fun k v h => by simp [Px.zero] at h, fun k => ?_, fun k h => by simp [Px.zero] at h, .inl rfl⟩
  show 0 = ((List.range n).filter fun _ => false).length
  rw [List.filter_eq_nil_iff.2 (by intro _ _ h; exact absurd h (by decide))]
  rfl
end Go.Proofs.Ytdbagbklhchbkaa
