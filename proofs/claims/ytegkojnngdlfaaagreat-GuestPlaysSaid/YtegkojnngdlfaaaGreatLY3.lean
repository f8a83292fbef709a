/- A calculus of logical values, part 33: a row that is left as it is ahead of a piece of code, or of an operation. No conditions. -/
import Derived.Test.YtegkojnngdlfaaaGreatLEnv
set_option linter.unusedSimpArgs false
set_option linter.unusedVariables false
namespace Go.Lx
open Go
open Go.Sx (NP Keeps Hp)
theorem CodeEv.freezeG {B : Base} {P : Program} {c : Code} {st : St} {Q : Exit → St → Prop} (j : Nat) {T : TypeId} {sz : Nat} {xs : List PV} (hj : st.own[j]? = some (.arr T sz xs)) (hnl : B.own0.length ≤ j)
    (h : ∀ g : Nat → Nat → List PV, (∀ off n, g off n = (xs.drop off).take n) → CodeEv B P c ⟨st.n, frMap (V.frzG j g) st.fr, (mapR (V.frzG j g) st.own).set j .dead⟩ Q) : CodeEv B P c st Q := by
  have h1 := h (fun off n => (xs.drop off).take n) (fun _ _ => rfl)
  rw [show V.frzG j (fun off n => (xs.drop off).take n) = V.frz j xs from funext (frzG_eq j xs), mapR_eq] at h1
  exact CodeEv.conv (Conv.freeze j hj hnl) h1
end Go.Lx
