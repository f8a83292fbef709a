/- Lists of one cell each told with less; a second argument told with less. No conditions. -/
import Derived.Test.YtnigonhkfpnodaaLEnv
namespace Go.Lx
open Go
open Go.Sx (NP Keeps Hp)
theorem flat_ones : ∀ {xs : List PV}, (∀ u ∈ xs, u.one = true) → flat xs = xs
  | [], _ => rfl
  | x :: r, h => by
    have h1 := h x (by simp)
    have : x.cells = [x] := by cases x <;> first | rfl | (simp [PV.one] at h1)
    simp [flat, this, flat_ones (xs := r) fun u hu => h u (by simp [hu])]
theorem PW.slO {xs ys : List PV} (h : PWL xs ys) (hx : ∀ u ∈ xs, u.one = true) (hy : ∀ u ∈ ys, u.one = true) : PW (.sl xs) (.sl ys) := fun H v hh => by
  obtain ⟨hl, hg⟩ := h.get
  have e1 := flat_ones hx
  have e2 := flat_ones hy
  cases hh with
  | sle a c hc =>
    have : ys = [] := List.length_eq_zero_iff.1 hl.symm
    subst this
    exact .sle a c hc
  | sl _ b off sz c val hw hc hs hd2 =>
    rw [e1] at hd2
    obtain ⟨s1, s2, c', T, fz, s3, s4⟩ := hs
    rw [e1] at s4
    rw [hl] at hc ⊢
    refine PV.Den.sl ys b off sz c val (fun x hxm => ?_) hc ⟨s1, s2, c', T, fz, s3, fun j u hu => ?_⟩ fun j u hu => ?_
    · obtain ⟨j, hj⟩ := List.mem_iff_getElem?.1 hxm
      obtain ⟨z, hz, _⟩ := hg j x hj
      have hzm := List.mem_of_getElem? hz
      have h1 := (hw z hzm).1
      have hzc : z.cells.length = 1 := by have := hx z hzm; cases z <;> first | rfl | (simp [PV.one] at this)
      have hxc : x.cells = [x] := by have := hy x hxm; cases x <;> first | rfl | (simp [PV.one] at this)
      refine ⟨by rw [← h1, hzc, hxc]; rfl, fun u hu => ?_⟩
      rw [hxc] at hu
      rw [List.mem_singleton.1 hu]; exact hy x hxm
    · rw [e2] at hu
      obtain ⟨x, hx, _⟩ := hg j u hu
      exact s4 j x hx
    · rw [e2] at hu
      obtain ⟨x, hx, hw2⟩ := hg j u hu
      exact hw2 _ _ (hd2 j x hx)
theorem FnL.w2 {P : Program} {f : FuncId} {a : V} {x y : PV} {own : List Res} {R : V → List Res → Prop} (h : FnL P f [a, .p y] own R) (hw : PW x y) : FnL P f [a, .p x] own R :=
  ⟨h.1, fun H E Fs vals h1 h2 h3 h4 => h.2 H E Fs vals h1 h2 h3 ⟨h4.1, fun i c v hc hv => by
    cases i with
    | zero => exact h4.2 0 c v hc hv
    | succ i => cases i with
      | zero =>
        simp at hc; subst hc
        have := h4.2 1 (.p x) v rfl hv
        cases this with
        | p _ _ hd => exact .p _ _ (hw _ _ hd)
      | succ i => simp at hc⟩⟩
end Go.Lx
