/- A cell of a struct of the call's own told with less. No conditions. -/
import Derived.Test.YtegkojnngdlfaaaGreatLEnv
set_option linter.unusedSimpArgs false
set_option linter.unusedVariables false
namespace Go.Lx
open Go
theorem DenL.less {H : Go.Sx.Hp} {E : Ev} {cells : List V} {vals : List Value} (h : DenL H E cells vals) {p : Nat} {v u : V} (hp : cells[p]? = some v) (hw : VW v u) : DenL H E (cells.set p u) vals := by
  refine ⟨by simpa using h.1, fun i c x hc hx => ?_⟩
  by_cases hi : p = i
  · subst hi
    rw [List.getElem?_set_self (lt_of_some hp)] at hc
    cases hc
    exact hw.den (h.2 p v x hp hx)
  · rw [List.getElem?_set_ne hi] at hc
    exact h.2 i c x hc hx
theorem ConvW.cell {B : Base} {st : St} (i p : Nat) {T : TypeId} {cells : List V} {v : V} (u : V) (hi : st.own[i]? = some (.st T cells)) (hp : cells[p]? = some v) (hw : VW v u) : ConvW B st ⟨st.n, st.fr, st.own.set i (.st T (cells.set p u))⟩ := by
  refine ⟨rfl, fun E F a w hI => ⟨E, F, ⟨hI.n, by simpa using hI.en, hI.slot, hI.defers, fun j r hr => ?_, hI.apart, fun j hj => hI.low j (by simpa using hj), hI.keep, hI.fresh, by simpa using hI.olen, fun j T' c hc => ?_, hI.bd, hI.low0, hI.rc⟩⟩⟩
  · by_cases hj : i = j
    · subst hj
      rw [List.getElem?_set_self (lt_of_some hi)] at hr
      cases hr
      obtain ⟨g0, g1, vals, g2, g3⟩ := hI.held i _ hi
      exact ⟨g0, g1, vals, g2, g3.less hp hw⟩
    · rw [List.getElem?_set_ne hj] at hr
      exact hI.held j r hr
  · obtain ⟨h1, c', h2⟩ := hI.pin j T' c hc
    refine ⟨h1, ?_⟩
    by_cases hj : i = j
    · subst hj
      rw [hi] at h2; cases h2
      exact ⟨_, List.getElem?_set_self (lt_of_some hi)⟩
    · exact ⟨c', by rw [List.getElem?_set_ne hj]; exact h2⟩
/-- A constant that the calculus knows no value for. -/
theorem OpEv.const {B : Base} {P : Program} {o : Oper} {X : Nat → Bool} {st : St} {k : V → St → Prop} {c : Value} (ho : o.op = .assign (.const c)) (h : k (.raw c) st) : OpEv B P o X st k := by
  intro E F a w hI
  refine resOf_value (x := c) (w' := w) ?_ ⟨.raw c, st, E, F, rfl, .raw c, hI, Prot.refl _ _, fun _ _ h => h, h⟩
  simp only [execOp, ho]; rfl
end Go.Lx
