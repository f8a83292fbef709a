/- A calculus of logical values, part 33: a row that is left as it is ahead of a piece of code, or of an operation. No conditions. -/
import Derived.Test.YtnigonhkfpnodaaLEnv
set_option linter.unusedSimpArgs false
set_option linter.unusedVariables false
namespace Go.Lx
open Go
open Go.Sx (NP Keeps Hp)

theorem CodeEv.freezeG {B : Base} {P : Program} {c : Code} {st : St} {Q : Exit → St → Prop} (j : Nat) {T : TypeId} {sz : Nat} {xs : List PV} (hj : st.own[j]? = some (.arr T sz xs)) (hnl : B.own0.length ≤ j)
    (h : ∀ g : Nat → Nat → List PV, (∀ off n, g off n = (xs.drop off).take n) → CodeEv B P c ⟨st.n, frMap (V.frzG j g) st.fr, (mapR (V.frzG j g) st.own).set j .dead⟩ Q) : CodeEv B P c st Q := by
  have h1 := h (fun off n => (xs.drop off).take n) (fun _ _ => rfl)
  rw [show V.frzG j (fun off n => (xs.drop off).take n) = V.frz j xs from funext (frzG_eq j xs), mapR_eq] at h1
  exact CodeEv.conv (Conv.freeze j hj hnl) h1
theorem OpEv.freezeG {B : Base} {P : Program} {o : Oper} {X : Nat → Bool} {st : St} {k : V → St → Prop} (j : Nat) {T : TypeId} {sz : Nat} {xs : List PV} (hj : st.own[j]? = some (.arr T sz xs)) (hnl : B.own0.length ≤ j)
    (h : ∀ g : Nat → Nat → List PV, (∀ off n, g off n = (xs.drop off).take n) → OpEv B P o X ⟨st.n, frMap (V.frzG j g) st.fr, (mapR (V.frzG j g) st.own).set j .dead⟩ k) : OpEv B P o X st k := by
  have h1 := h (fun off n => (xs.drop off).take n) (fun _ _ => rfl)
  rw [show V.frzG j (fun off n => (xs.drop off).take n) = V.frz j xs from funext (frzG_eq j xs), mapR_eq] at h1
  exact OpEv.conv (Conv.freeze j hj hnl) h1
end Go.Lx
