/- PastKeys: what a list of a version holds. No conditions. -/
import Derived.Test.YtdeolllpbflemaaLPas
import Derived.Test.YtdeolllpbflemaaLPab
set_option maxRecDepth 100000
set_option maxHeartbeats 4000000
set_option linter.unusedSimpArgs false
set_option linter.unusedVariables false
namespace Go.Proofs.Ytdeolllpbflemaa
open Go Go.Lx

theorem sndP_srt {ps : List Pr} (h : sndP ps = true) : Srt ps := by
  have h := of_decide_eq_true h
  have hadj : ∀ (i : Nat) (p q : Pr), ps[i]? = some p → ps[i + 1]? = some q → bl p.key q.key = true := fun i p q hp hq => by
    have h1 := (gP_some hq).1 (h (i + 1) (List.getElem?_eq_some_iff.1 hq).1)
    rcases h1.2.2 with h2 | h2
    · omega
    · rw [show i + 1 - 1 = i from rfl, List.getD_eq_getElem?_getD, hp] at h2; exact h2
  have hlt : ∀ (j i : Nat) (p q : Pr), i < j → ps[i]? = some p → ps[j]? = some q → bl p.key q.key = true := by
    intro j
    induction j with
    | zero => intro i p q h; omega
    | succ j ih =>
      intro i p q hij hp hq
      rcases Nat.lt_succ_iff_lt_or_eq.1 hij with h1 | rfl
      · have hj : j < ps.length := by have := (List.getElem?_eq_some_iff.1 hq).1; omega
        exact bl_trans (ih i p _ h1 hp (List.getElem?_eq_getElem hj)) (hadj j _ q (List.getElem?_eq_getElem hj) hq)
      · exact hadj i p q hp hq
  refine List.pairwise_iff_getElem.2 fun i j hi hj hij => hlt j i _ _ hij (List.getElem?_eq_getElem hi) (List.getElem?_eq_getElem hj)
theorem lk_in {W : List Pr} (hW : Srt W) {p : Pr} (h : p ∈ W) : lk W p.key = some p.val := by
  obtain ⟨i, hi⟩ := List.mem_iff_getElem?.1 h
  exact lk_at (fun j q hj hq he => by have := srt_lt hW hq hi hj; rw [he, bl_irrefl] at this; cases this) hi rfl
theorem lst_all {W : List Pr} {s : Spn} {m : Int} (h : W.length ≤ m.toNat) : lst W s m = W.filter fun p => hs s p.key := by
  unfold lst; rw [List.take_of_length_le (Nat.le_trans (List.length_filter_le _ _) h)]
theorem lst_srt {W : List Pr} (hW : Srt W) (s : Spn) (m : Int) : Srt (lst W s m) := List.Pairwise.sublist (List.take_sublist _ _) (srt_filter hW _)
theorem lst_in {W : List Pr} {s : Spn} {m : Int} {p : Pr} (h : p ∈ lst W s m) : p ∈ W ∧ hs s p.key = true := by
  have := List.mem_filter.1 (List.mem_of_mem_take h)
  exact ⟨this.1, this.2⟩
/-- How often a key was found among the first i. -/
def FndK (X : List Pr) (key : List UInt8) (i f : Nat) : Prop := (f = 0 ∧ ∀ j p, j < i → X[j]? = some p → p.key ≠ key) ∨ (f = 1 ∧ ∃ j p, j < i ∧ X[j]? = some p ∧ p.key = key)
theorem FndK.zero (X : List Pr) (key : List UInt8) : FndK X key 0 0 := .inl ⟨rfl, fun j p h => by omega⟩
theorem FndK.skip {X : List Pr} {key : List UInt8} {i f : Nat} (h : FndK X key i f) {p : Pr} (hp : X[i]? = some p) (hk : p.key ≠ key) : FndK X key (i + 1) f := by
  rcases h with ⟨h1, h2⟩ | ⟨h1, j, q, h2, h3, h4⟩
  · refine .inl ⟨h1, fun j q hj hq => ?_⟩
    rcases Nat.lt_succ_iff_lt_or_eq.1 hj with h | rfl
    · exact h2 j q h hq
    · rw [hp] at hq; cases hq; exact hk
  · exact .inr ⟨h1, j, q, by omega, h3, h4⟩
theorem FndK.hit {X : List Pr} (hX : Srt X) {key : List UInt8} {i f : Nat} (h : FndK X key i f) {p : Pr} (hp : X[i]? = some p) (hk : p.key = key) : f = 0 ∧ FndK X key (i + 1) 1 := by
  refine ⟨?_, .inr ⟨rfl, i, p, by omega, hp, hk⟩⟩
  rcases h with ⟨h1, h2⟩ | ⟨h1, j, q, h2, h3, h4⟩
  · exact h1
  · have := srt_lt hX h3 hp h2
    rw [h4, hk, bl_irrefl] at this; cases this
theorem FndK.fin {W : List Pr} (hW : Srt W) {s : Spn} {m : Int} (hm : W.length ≤ m.toNat) {key : List UInt8} {f : Nat} (h : FndK (lst W s m) key (lst W s m).length f) : (f = 1 ∧ (lk W key).isSome = true ∧ hs s key = true) ∨ (f = 0 ∧ ¬ ((lk W key).isSome = true ∧ hs s key = true)) := by
  rcases h with ⟨h1, h2⟩ | ⟨h1, j, q, h2, h3, h4⟩
  · refine .inr ⟨h1, fun ⟨h3, h4⟩ => ?_⟩
    obtain ⟨v, hv⟩ := Option.isSome_iff_exists.1 h3
    obtain ⟨p, hp, hk, _⟩ := lk_some hv
    have hin : p ∈ lst W s m := by rw [lst_all hm]; exact List.mem_filter.2 ⟨hp, by rw [hk]; exact h4⟩
    obtain ⟨j, hj⟩ := List.mem_iff_getElem?.1 hin
    exact h2 j p (List.getElem?_eq_some_iff.1 hj).1 hj hk
  · refine .inl ⟨h1, ?_, ?_⟩
    · have := lk_in hW (lst_in (List.mem_of_getElem? h3)).1
      rw [← h4, this]; rfl
    · rw [← h4]; exact (lst_in (List.mem_of_getElem? h3)).2
end Go.Proofs.Ytdeolllpbflemaa
