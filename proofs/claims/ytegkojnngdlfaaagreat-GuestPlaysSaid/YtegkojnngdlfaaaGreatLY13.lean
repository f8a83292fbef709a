/- A contract met with arguments that stand for more. No conditions. -/
import Derived.Test.YtegkojnngdlfaaaGreatLEnv
namespace Go.Lx
open Go
open Go.Sx (NP Keeps Hp)
def VWs : List V → List V → Prop
  | [], [] => True
  | x :: r, y :: s => VW x y ∧ VWs r s
  | _, _ => False
theorem VWs.get : ∀ {xs ys : List V}, VWs xs ys → xs.length = ys.length ∧ ∀ (i : Nat) (y : V), ys[i]? = some y → ∃ x, xs[i]? = some x ∧ VW x y
  | [], [], _ => ⟨rfl, fun i y h => by simp at h⟩
  | x :: r, y :: s, h => by
    obtain ⟨h1, h2⟩ := VWs.get (xs := r) (ys := s) h.2
    refine ⟨by simp [h1], fun i z hz => ?_⟩
    cases i with
    | zero => simp at hz; subst hz; exact ⟨x, rfl, h.1⟩
    | succ i => exact h2 i z (by simpa using hz)
  | [], _ :: _, h => h.elim
  | _ :: _, [], h => h.elim
theorem FnL.wk {P : Program} {f : FuncId} {xs ys : List V} {own : List Res} {R : V → List Res → Prop} (h : FnL P f ys own R) (hw : VWs xs ys) : FnL P f xs own R := by
  obtain ⟨hl, hg⟩ := hw.get
  refine ⟨h.1, fun H E Fs vals h1 h2 h3 h4 => h.2 H E Fs vals h1 h2 h3 ⟨h4.1.trans hl, fun i c v hc hv => ?_⟩⟩
  obtain ⟨x, hx, hw⟩ := hg i c hc
  exact hw.den (h4.2 i x v hx hv)
end Go.Lx
