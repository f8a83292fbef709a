/- The pairs of a ledger at a version. Conditions: on sizes. -/
import Derived.Test.YtdeolllpbflemaaLPr1
import Derived.Test.YtdeolllpbflemaaLOn5
set_option maxRecDepth 100000
set_option maxHeartbeats 16000000
set_option linter.unusedSimpArgs false
set_option linter.unusedVariables false
namespace Go.Proofs.Ytdeolllpbflemaa
open Go Go.Lx
open Go.Sx (vcIf)

/-- What changes make of pairs, one behind the other. -/
def ones (ps : List Pr) (cs : List Chg) : List Pr := cs.foldl one ps
theorem ones_next (ps : List Pr) {cs : List Chg} {k : Nat} {c : Chg} (h : cs[k]? = some c) : ones ps (cs.take (k + 1)) = one (ones ps (cs.take k)) c := by
  unfold ones; rw [List.take_add_one, h, List.foldl_append]; rfl
theorem ones_srt {ps : List Pr} (h : Srt ps) : ∀ cs, Srt (ones ps cs)
  | [] => h
  | c :: r => ones_srt (one_ok c ps h).1 r
theorem ones_len {ps : List Pr} (h : Srt ps) : ∀ cs, (ones ps cs).length ≤ ps.length + cs.length
  | [] => Nat.le_refl _
  | c :: r => by
    have h1 := ones_len (one_ok c ps h).1 r
    have h2 := one_len_le ps h c
    have e : ones ps (c :: r) = ones (one ps c) r := rfl
    rw [e, List.length_cons]; omega
/-- What a batch makes of pairs, up to a version. -/
def bat (v : Int) (ps : List Pr) (b : Bt) : List Pr := if b.ver ≤ v then ones ps b.ch else ps
def atP (l : List Bt) (v : Int) : List Pr := l.foldl (bat v) []
theorem atP_next {l : List Bt} {v : Int} {i : Nat} {b : Bt} (h : l[i]? = some b) : atP (l.take (i + 1)) v = bat v (atP (l.take i) v) b := by
  unfold atP; rw [List.take_add_one, h, List.foldl_append]; rfl
theorem srt_nil : Srt [] := List.Pairwise.nil
theorem bat_srt {v : Int} {ps : List Pr} (h : Srt ps) (b : Bt) : Srt (bat v ps b) := by
  unfold bat; split
  · exact ones_srt h _
  · exact h
theorem bat_len {v : Int} {ps : List Pr} (h : Srt ps) (b : Bt) : (bat v ps b).length ≤ ps.length + b.ch.length := by
  unfold bat; split
  · exact ones_len h _
  · omega
theorem foldl_bat_srt {v : Int} : ∀ (l : List Bt) {ps : List Pr}, Srt ps → Srt (l.foldl (bat v) ps)
  | [], _, h => h
  | b :: r, _, h => foldl_bat_srt r (bat_srt h b)
theorem atP_srt (l : List Bt) (v : Int) : Srt (atP l v) := foldl_bat_srt l srt_nil
theorem foldl_bat_len {v : Int} {M : Nat} : ∀ (l : List Bt) {ps : List Pr}, Srt ps → (∀ b ∈ l, b.ch.length ≤ M) → (l.foldl (bat v) ps).length ≤ ps.length + l.length * M
  | [], _, _, _ => by simp
  | b :: r, ps, h, hM => by
    have h1 := foldl_bat_len (v := v) r (bat_srt h b (v := v)) (fun c hc => hM c (by simp [hc]))
    have h2 := bat_len (v := v) h b
    have h3 := hM b (by simp)
    simp only [List.foldl_cons, List.length_cons, Nat.add_mul]
    omega
theorem atP_len {l : List Bt} {M : Nat} (hM : ∀ b ∈ l, b.ch.length ≤ M) (v : Int) : (atP l v).length ≤ l.length * M := by
  have := foldl_bat_len (v := v) l srt_nil hM
  simpa [atP] using this
theorem atP_take_len {l : List Bt} {M : Nat} (hM : ∀ b ∈ l, b.ch.length ≤ M) (v : Int) {i : Nat} (hi : i ≤ l.length) : (atP (l.take i) v).length ≤ i * M := by
  have := atP_len (l := l.take i) (M := M) (fun b hb => hM b (List.mem_of_mem_take hb)) v
  rwa [List.length_take, Nat.min_eq_left hi] at this
theorem chks_kind : ∀ {cs : List Chg}, chks cs = 0 → ∀ c ∈ cs, c.kind = 1 ∨ c.kind = 2 ∨ c.kind = 3
  | c :: r, h, d, hd => by
    unfold chks at h
    split at h
    · rename_i h1; exact absurd h h1
    · rename_i h1
      rcases List.mem_cons.1 hd with e | e
      · subst e
        have h1 : chk d = 0 := by omega
        unfold chk at h1
        split at h1
        · exact .inr (.inr (by assumption))
        · split at h1
          · exact .inr (.inl (by assumption))
          · split at h1
            · exact .inl (by assumption)
            · cases h1
      · exact chks_kind h d e
theorem lsnd_chks {l : List Bt} (h : lsnd l) {i : Nat} {b : Bt} (hb : l[i]? = some b) : chks b.ch = 0 := (h i (List.getElem?_eq_some_iff.1 hb).1 b hb).2.1
theorem RowP.nil : RowP [] 0 0 [] := ⟨rfl, rfl, Nat.le_refl _, (fun x hx => by cases hx), rfl⟩

theorem ver_up {l : List Bt} (h : lsnd l) {i : Nat} {a : Bt} (ha : l[i]? = some a) : ∀ (d : Nat) (b : Bt), l[i + d + 1]? = some b → a.ver < b.ver
  | 0, b, hb => (h (i + 1) (List.getElem?_eq_some_iff.1 hb).1 b hb).2.2 a (by omega) ha
  | d + 1, b, hb => by
    have hl := (List.getElem?_eq_some_iff.1 hb).1
    obtain ⟨c, hc⟩ := get_of_lt (show i + d + 1 < l.length by omega)
    have h1 := ver_up h ha d c hc
    have h2 := (h (i + (d + 1) + 1) hl b hb).2.2 c (by omega) hc
    omega
theorem foldl_bat_id {v : Int} : ∀ (l : List Bt) (ps : List Pr), (∀ b ∈ l, ¬ b.ver ≤ v) → l.foldl (bat v) ps = ps
  | [], _, _ => rfl
  | b :: r, ps, h => by
    rw [List.foldl_cons, show bat v ps b = ps from if_neg (h b (by simp))]
    exact foldl_bat_id r ps fun c hc => h c (by simp [hc])
theorem atP_stop {l : List Bt} (h : lsnd l) {v : Int} {i : Nat} {b : Bt} (hb : l[i]? = some b) (hv : ¬ b.ver ≤ v) : atP l v = atP (l.take i) v := by
  unfold atP
  conv => lhs; rw [← List.take_append_drop i l]
  rw [List.foldl_append]
  refine foldl_bat_id _ _ fun c hc => ?_
  obtain ⟨q, hq⟩ := List.mem_iff_getElem?.1 hc
  rw [List.getElem?_drop] at hq
  rcases Nat.eq_zero_or_pos q with e | e
  · subst e
    rw [Nat.add_zero, hb] at hq; cases hq; exact hv
  · obtain ⟨d, rfl⟩ : ∃ d, q = d + 1 := ⟨q - 1, by omega⟩
    have := ver_up h hb d c hq
    omega

end Go.Proofs.Ytdeolllpbflemaa
