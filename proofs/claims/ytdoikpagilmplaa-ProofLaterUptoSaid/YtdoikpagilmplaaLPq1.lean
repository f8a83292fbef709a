/- A batch more behind a ledger: the plain law. No program in sight. No conditions. -/
import Derived.Test.YtdoikpagilmplaaLPc7
set_option maxRecDepth 100000
set_option maxHeartbeats 4000000
set_option linter.unusedSimpArgs false
set_option linter.unusedVariables false
namespace Go.Proofs.Ytdoikpagilmplaa
open Go Go.Lx

theorem app_some {α : Type} {l : List α} {b x : α} {k : Nat} (h : (l ++ [b])[k]? = some x) : l[k]? = some x ∨ (k = l.length ∧ x = b) := by
  by_cases hk : k < l.length
  · rw [List.getElem?_append_left hk] at h; exact .inl h
  · rw [List.getElem?_append_right (by omega)] at h
    by_cases h0 : k - l.length = 0
    · rw [h0] at h; simp at h; exact .inr ⟨by omega, h.symm⟩
    · have : k - l.length = (k - l.length - 1) + 1 := by omega
      rw [this] at h; simp at h
theorem app_left {α : Type} {l : List α} {b x : α} {k : Nat} (h : l[k]? = some x) : (l ++ [b])[k]? = some x := by
  rw [List.getElem?_append_left (List.getElem?_eq_some_iff.1 h).1]; exact h
theorem app_last {α : Type} {l : List α} {b : α} : (l ++ [b])[l.length]? = some b := by simp
theorem lsnd_app {l : List Bt} {b : Bt} (hb : 0 ≤ b.ver) (hv : ∀ (j : Nat) (a : Bt), l[j]? = some a → a.ver < b.ver) : lsnd (l ++ [b]) ↔ (lsnd l ∧ chks b.ch = 0) := by
  constructor
  · intro h
    refine ⟨fun j hj c hc => ?_, (h l.length (by simp) b app_last).2.1⟩
    obtain ⟨h1, h2, h3⟩ := h j (by simp; omega) c (app_left hc)
    exact ⟨h1, h2, fun a h0 ha => h3 a h0 (app_left ha)⟩
  · rintro ⟨h, hc⟩ j hj x hx
    rcases app_some hx with c | ⟨c, rfl⟩
    · obtain ⟨h1, h2, h3⟩ := h j (List.getElem?_eq_some_iff.1 c).1 x c
      refine ⟨h1, h2, fun a h0 ha => ?_⟩
      rcases app_some ha with e | ⟨e, _⟩
      · exact h3 a h0 e
      · have := (List.getElem?_eq_some_iff.1 c).1; omega
    · refine ⟨hb, hc, fun a h0 ha => ?_⟩
      rcases app_some ha with e | ⟨e, _⟩
      · exact hv _ a e
      · omega
theorem atP_app {l : List Bt} {b : Bt} {v : Int} (h : v < b.ver) : atP (l ++ [b]) v = atP l v := by
  unfold atP
  rw [List.foldl_append]
  show bat v (l.foldl (bat v) []) b = _
  unfold bat
  rw [if_neg (by omega)]
theorem rbad_app {l : List Bt} {b : Bt} {fs : List Dd} (h : ∀ d ∈ fs, d.r < b.ver) (i : Nat) : rbad l fs i ↔ rbad (l ++ [b]) fs i := by
  unfold rbad
  constructor
  · rintro ⟨d, h1, h2⟩
    exact ⟨d, h1, by rw [atP_app (h d (List.mem_of_getElem? h1))]; exact h2⟩
  · rintro ⟨d, h1, h2⟩
    exact ⟨d, h1, by rw [atP_app (h d (List.mem_of_getElem? h1))] at h2; exact h2⟩
theorem sbad_app {l : List Bt} {b : Bt} {fs : List Dd} (h : ∀ d ∈ fs, d.w < b.ver) (i : Nat) : sbad l fs i ↔ sbad (l ++ [b]) fs i := by
  unfold sbad
  constructor
  · rintro ⟨d, h1, h2, h3⟩
    refine ⟨d, h1, h2, fun ⟨k, x, h4, h5, h6⟩ => ?_⟩
    rcases app_some h4 with c | ⟨_, rfl⟩
    · exact h3 ⟨k, x, c, h5, h6⟩
    · have := h d (List.mem_of_getElem? h1); omega
  · rintro ⟨d, h1, h2, h3⟩
    exact ⟨d, h1, h2, fun ⟨k, x, h4, h5, h6⟩ => h3 ⟨k, x, app_left h4, h5, h6⟩⟩
theorem cbad_app {l : List Bt} {b : Bt} {fs : List Dd} (h : ∀ d ∈ fs, d.w < b.ver) (i : Nat) : cbad l fs i ↔ cbad (l ++ [b]) fs i := by
  unfold cbad cBt
  constructor
  · rintro ⟨d, h1, h2, k, x, h3, h4⟩
    exact ⟨d, h1, h2, k, x, app_left h3, h4⟩
  · rintro ⟨d, h1, h2, k, x, h3, h4⟩
    rcases app_some h3 with c | ⟨_, rfl⟩
    · exact ⟨d, h1, h2, k, x, c, h4⟩
    · have := h d (List.mem_of_getElem? h1); have := h4.2.1; omega
theorem isFst.congr {P P' : Nat → Prop} {N : Nat} {n : Int} (h : isFst P N n) (hP : ∀ j, P j ↔ P' j) : isFst P' N n := by
  have : P = P' := funext fun j => propext (hP j)
  rw [← this]; exact h
end Go.Proofs.Ytdoikpagilmplaa
