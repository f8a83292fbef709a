/- What a reading of a list of vows tells of its value. No conditions. -/
import Derived.Test.YtdbagbklhchbkaaRead2
set_option maxRecDepth 100000
set_option linter.unusedSimpArgs false
set_option linter.unusedVariables false
namespace Go.Proofs.Ytdbagbklhchbkaa
open Go Go.Sx
open Go.ChangeShapes Go.WideShapes Go.ChangeAt Go.RowKit

variable {H : Type} {enc : TypeId × Value → H} {W : World} {base b0 : Nat} {held : Bool} {r : Reach}

theorem wt_all {e : TypeId} : ∀ {ds : List (DataW H)} {i : Nat} {d : DataW H}, ds[i]? = some d → ∀ n ∈ d.weights Try.prog e, n ∈ DataW.weightsAll Try.prog e ds
  | [], i, d, h, n, hn => by simp at h
  | d0 :: ds, 0, d, h, n, hn => by
    simp only [List.getElem?_cons_zero, Option.some.injEq] at h
    subst h
    simp only [DataW.weightsAll, List.mem_append]; exact .inl hn
  | d0 :: ds, i + 1, d, h, n, hn => by
    simp only [List.getElem?_cons_succ] at h
    simp only [DataW.weightsAll, List.mem_append]; exact .inr (wt_all h n hn)

theorem list_choose {α : Type} {Q : Nat → α → Prop} : ∀ (n : Nat), (∀ i, i < n → ∃ v, Q i v) → ∃ vs : List α, vs.length = n ∧ ∀ (i : Nat) (v : α), vs[i]? = some v → Q i v
  | 0, _ => ⟨[], rfl, fun i v h => by simp at h⟩
  | n + 1, h => by
    obtain ⟨vs, h1, h2⟩ := list_choose n fun i hi => h i (by omega)
    obtain ⟨v, hv⟩ := h n (by omega)
    refine ⟨vs ++ [v], by simp [h1], fun i u hu => ?_⟩
    by_cases hi : i < n
    · rw [List.getElem?_append_left (by omega)] at hu; exact h2 i u hu
    · have hlt := (List.getElem?_eq_some_iff.1 hu).1
      simp only [List.length_append, List.length_cons, List.length_nil] at hlt
      have hin : i = n := by omega
      subst hin
      rw [List.getElem?_append_right (by omega), h1, Nat.sub_self] at hu
      simp at hu; subst hu; exact hv

/-- A row's cells, one by one. -/
theorem cells_get {w : World} {a : Addr} {n : Nat} {l : List Value} (h : w.cells? 0 a n = some l) : l.length = n ∧ ∀ j x, l[j]? = some x → w.cell? (a.add j) = some x := by
  unfold World.cells? at h
  rw [if_pos (Nat.zero_le _)] at h
  have h1 := mapM_some_length h
  rw [List.length_range] at h1
  refine ⟨h1, fun j x hx => ?_⟩
  have hj : j < n := by have := (List.getElem?_eq_some_iff.1 hx).1; omega
  rw [mapM_some_get h j j (by simp [hj]), hx]

/-- A slice's elements, read: its cells lie in a row that nobody turns. -/
theorem read_slice {e t k n : Nat} {α : Type} {val : α → Value} {ok : α → Prop} {cs : List Value} {x : DataW H × List MemPlace} (ht : Try.prog.underlying t = some (.slice e)) (hk : Try.prog.cellsOf e = k) (hk0 : 0 < k)
    (h : DataW.trod enc Try.prog W 0 (fun _ => true) held n t cs = some x) (hw : Wt t x.1)
    (each : ∀ m cs x, DataW.trod enc Try.prog W 0 (fun _ => true) held m e cs = some x → Wt e x.1 → ∃ v, cs = (val v).cells.toList ∧ ok v) :
    ∃ (a : Option Addr) (m c : Nat) (vs : List α), cs = [.slice a m c] ∧ SlV ⟨none', W⟩ k a m c (vs.map val) ∧ (∀ v ∈ vs, ok v) ∧ c * Try.prog.bytesOf e ≤ 140737488351232 := by
  rcases DataW.trod_slice ht h with ⟨rfl, rfl⟩ | ⟨a, len, cap, elems, rest, m, _, rfl, rfl, hb, hl, hm, hlen, hel, hsp, hns⟩
  · exact ⟨none, 0, 0, [], rfl, SlV.none, by simp, by simp⟩
  · obtain ⟨hrl, _⟩ := hsp rfl
    have hsz : cap * Try.prog.bytesOf e ≤ 140737488351232 := by
      have := hw ((elems.length + rest.length) * Try.prog.bytesOf e) (by simp [DataW.weights, ht])
      rw [hlen, hrl, show len + (cap - len) = cap by omega] at this
      exact this
    obtain ⟨vs, hvl, hvs⟩ := list_choose (α := α) (Q := fun i v => ok v ∧ W.cells? 0 (a.add (i * k)) k = some (val v).cells.toList) len fun i hi => by
      have he := hel i hi
      have hi2 : i < elems.length := by omega
      rw [List.getElem?_eq_getElem hi2, hk] at he
      cases hc : W.cells? 0 (a.add (i * k)) k with
      | none => rw [hc] at he; cases he
      | some l =>
        rw [hc] at he
        obtain ⟨v, h1, h2⟩ := each m l _ he fun q hq => hw q (by
          unfold DataW.weights
          rw [ht]
          refine List.mem_cons_of_mem _ (List.mem_append_left _ ?_)
          exact wt_all (i := i) (d := elems[i].1) (by rw [List.getElem?_map, List.getElem?_eq_getElem hi2]; rfl) q hq)
        exact ⟨v, h2, by rw [h1]⟩
    refine ⟨some a, len, cap, vs, rfl, ⟨?_, by rw [List.length_map, hvl], fun h => (by cases h), hl⟩, fun v hv => ?_, hsz⟩
    · by_cases hl0 : len = 0
      · left; rw [List.map_eq_nil_iff]; exact List.eq_nil_of_length_eq_zero (by omega)
      · obtain ⟨b, off, sp⟩ := a
        obtain ⟨v0, hv0⟩ : ∃ v0, vs[0]? = some v0 := ⟨_, List.getElem?_eq_getElem (by omega)⟩
        have hc0 := cells_get (hvs 0 v0 hv0).2
        have hsp : sp = none := by
          obtain ⟨x0, hx0⟩ : ∃ x0, (val v0).cells.toList[0]? = some x0 := ⟨_, List.getElem?_eq_getElem (by omega)⟩
          have h0 := hc0.2 0 x0 hx0
          simp only [Nat.zero_mul, Addr.add, if_true, World.cell?] at h0
          split at h0
          · cases sp with
            | none => rfl
            | some s => simp at h0
          · cases h0
        subst hsp
        right
        refine ⟨b, off, rfl, fun i y hy => ?_⟩
        rw [List.getElem?_map] at hy
        cases hv : vs[i]? with
        | none => rw [hv] at hy; cases hy
        | some v =>
          rw [hv] at hy
          cases hy
          have hc := cells_get (hvs i v hv).2
          rw [addr_add] at hc
          have hcell : ∀ j x, (val v).cells.toList[j]? = some x → W.cell? ⟨b, off + i * k + j, none⟩ = some x := fun j x hx => by
            have := hc.2 j x hx
            rwa [addr_add] at this
          obtain ⟨x0, hx0⟩ : ∃ x0, (val v).cells.toList[0]? = some x0 := ⟨_, List.getElem?_eq_getElem (by omega)⟩
          have h0 := hcell 0 x0 hx0
          unfold World.cell? at h0
          split at h0
          · rename_i c0 T fz hh
            refine ⟨fun h => h, (Array.getElem?_eq_some_iff.1 hh).1, c0, T, fz, hh, fun j u hu => ?_⟩
            have hj := hcell j u hu
            unfold World.cell? at hj
            rw [hh] at hj
            simpa using hj
          · cases h0
    · obtain ⟨i, hi⟩ := List.mem_iff_getElem?.1 hv
      exact (hvs i v hi).1
theorem open_vows {v : Value} {d : DataW H} {p : List MemPlace} (hv : Value.okWide Try.prog W r b0 37 v) (h : DataW.Trod enc Try.prog W 0 (fun _ => true) held 37 v d p) (hw : Wt 37 d) :
    ∃ (a : Option Addr) (n c : Nat) (vs : List Vw), v = .slice a n c ∧ VsOk ⟨none', W⟩ a n c vs ∧ n < 9223372036854775807 := by
  obtain ⟨a0, n0, c0, rfl⟩ := okWide_slice Try.underlying37 hv
  obtain ⟨n, h⟩ := h
  obtain ⟨a, m, c, vs, hs, hS, hok, hsz⟩ := read_slice (k := 8) (val := Vw.val) (ok := fun v => v.Ok ⟨none', W⟩) Try.underlying37 (by kernel_rfl) (by decide) h hw fun m cs x h hw => read_vow h hw
  have hs2 : a0 = a ∧ n0 = m ∧ c0 = c := by simpa [Value.cells] using hs
  obtain ⟨rfl, rfl, rfl⟩ := hs2
  rw [show Program.bytesOf Try.prog 31 = 80 by kernel_rfl] at hsz
  have := hS.cap
  exact ⟨_, _, _, vs, rfl, ⟨hS, hok⟩, by omega⟩
end Go.Proofs.Ytdbagbklhchbkaa
