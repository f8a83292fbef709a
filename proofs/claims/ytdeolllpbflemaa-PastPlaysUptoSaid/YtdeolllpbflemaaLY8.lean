/- A calculus of logical values, part 38: a nil slice as an empty row without room. No conditions. -/
import Derived.Test.YtdeolllpbflemaaLY7
set_option linter.unusedSimpArgs false
set_option linter.unusedVariables false
namespace Go.Lx
open Go
open Go.Sx (NP Keeps Hp)

/-- A nil slice, or an empty one without room, as an empty row without room. -/
theorem Conv.hollowK {B : Base} {st : St} (t : Nat) (T : TypeId) (sz : Nat) (hsz : 0 < sz) (ht : look st.fr t = some (.p .nils) ∨ look st.fr t = some (.p .e0)) :
    Conv B st ⟨st.n, (t, .vw st.own.length sz 0 0 (some 0)) :: st.fr, st.own ++ [.arr T sz []]⟩ := by
  refine ⟨rfl, fun E F a w hI => ?_⟩
  have h1 := hI.newHollow (Keeps.refl _ w) T hsz
  refine ⟨_, _, ⟨h1.n, h1.en, fun t' v hv => ?_, h1.defers, h1.held, h1.apart, h1.low, h1.keep, h1.fresh, h1.olen, h1.pin, h1.bd, h1.low0, h1.rc⟩, fun _ _ h => h⟩
  rw [look_cons] at hv
  split at hv
  · rename_i e
    subst e
    cases hv
    rcases ht with ht | ht
    · have := (hI.slot _ _ ht).nils_inv
      rw [this]
      exact .vwn _ _ (some 0) _ (by simp [Ev.push, hI.en]) (by simp [Ev.push, hI.en]) (by simp [Ev.push, hI.en]) rfl
    · have h2 := hI.slot _ _ ht
      generalize a.tmps.getD _ undef = x at h2 ⊢
      cases h2 with
      | p _ _ h2 => cases h2 with
        | e0 ad => exact .vwn _ _ (some 0) _ (by simp [Ev.push, hI.en]) (by simp [Ev.push, hI.en]) (by simp [Ev.push, hI.en]) rfl
  · exact h1.slot t' v hv
end Go.Lx
