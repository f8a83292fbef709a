/- What readings of this seat's structs tell of their values, with the sizes that the row's form gives. No conditions. -/
import Derived.Test.YtdbagbklhchbkaaBalOpen
import Derived.Test.YtdbagbklhchbkaaBal7
import Derived.SizedLaws
set_option maxRecDepth 100000
set_option linter.unusedSimpArgs false
set_option linter.unusedVariables false
namespace Go.Proofs.Ytdbagbklhchbkaa
open Go Go.Sx
open Go.ChangeShapes Go.WideShapes Go.ChangeAt Go.RowKit

variable {H : Type} {enc : TypeId × Value → H} {W : World} {base b0 : Nat} {spare : Nat → Bool} {held : Bool} {r : Reach}

def Wt (t : TypeId) (d : DataW H) : Prop := ∀ n ∈ d.weights Try.prog t, n ≤ reachBytes

theorem fieldW {t tt n i o k : Nat} {cs : List Value} {x : DataW H × List MemPlace} (ht : Try.prog.underlying t = some (.struct (Try.prog.fieldsOf t))) (h : DataW.trod enc Try.prog W base spare held n t cs = some x) (hw : Wt t x.1)
    (hi : ((Try.prog.fieldsOf t)[i]?).map (fun f => (f.type, f.offset)) = some (tt, o)) (hk : Try.prog.cellsOf tt = k) : ∃ m y, DataW.trod enc Try.prog W base spare held m tt ((cs.drop o).take k) = some y ∧ Wt tt y.1 := by
  obtain ⟨xs, m, _, rfl, hl, hlen, hfs⟩ := DataW.trod_struct ht h
  cases hf : (Try.prog.fieldsOf t)[i]? with
  | none => rw [hf] at hi; cases hi
  | some f =>
    rw [hf] at hi
    simp only [Option.map_some, Option.some.injEq, Prod.mk.injEq] at hi
    obtain ⟨h1, h2⟩ := hi
    have := hfs i f hf
    rw [h1, h2, hk] at this
    have hlt : i < xs.length := by rw [hlen]; exact (Array.getElem?_eq_some_iff.1 hf).1
    rw [List.getElem?_eq_getElem hlt] at this
    refine ⟨m, _, this, fun q hq => hw q ?_⟩
    unfold DataW.weights
    rw [ht]
    exact DataW.weights_mem_each (j := i) (t := tt) (d := xs[i].1) (by rw [List.getElem?_map, Array.getElem?_toList, hf]; simp [h1]) (by rw [List.getElem?_map, List.getElem?_eq_getElem hlt]; rfl) q hq

/-- A slice of ints that came in. -/
theorem ns_of {w : World} {a : Option Addr} {n c : Nat} {zs : List Int} (h : (a = none ∧ n = 0 ∧ c = 0 ∧ zs = []) ∨
    ∃ x, a = some x ∧ n ≤ c ∧ c ≤ maxLen ∧ zs.length = c ∧ (∀ i, i < zs.length → w.cell? (x.add i) = some (.int .i64 (zs.getD i 0))) ∧ ∀ n ∈ zs, (Lit.int .i64 n).wf = true) :
    ∃ l, Ns ⟨none', w⟩ a n c l := by
  rcases h with ⟨rfl, rfl, rfl, rfl⟩ | ⟨x, rfl, h1, h2, h3, h4, h5⟩
  · exact ⟨[], SlV.none⟩
  · refine ⟨zs.take n, ?_⟩
    have hlen : (intV (zs.take n)).length = n := by simp [intV]; omega
    refine ⟨?_, hlen, fun h => (by simp at h), h1⟩
    by_cases hn : n = 0
    · left; exact List.eq_nil_of_length_eq_zero (by rw [hlen, hn])
    · obtain ⟨b, off, sp⟩ := x
      have h0 := h4 0 (by omega)
      have hsp : sp = none := by
        simp only [Addr.add, if_true, World.cell?] at h0
        split at h0
        · cases sp with
          | none => rfl
          | some s => simp at h0
        · cases h0
      subst hsp
      have hcell : ∀ i, i < zs.length → w.cell? ⟨b, off + i, none⟩ = some (.int .i64 (zs.getD i 0)) := by
        intro i hi
        have := h4 i hi
        unfold Addr.add at this
        split at this
        · rename_i h; subst h; exact this
        · exact this
      right
      refine ⟨b, off, rfl, fun i y hy => ?_⟩
      have hi : i < n := by
        have := (List.getElem?_eq_some_iff.1 hy).1
        omega
      have hy' : y = .int .i64 (zs.getD i 0) := by
        rw [getD_at (show i < zs.length by omega)]
        have e1 : (intV (zs.take n))[i]? = some (.int .i64 (zs[i]'(by omega))) := by
          simp [intV, List.getElem?_take, hi, List.getElem?_eq_getElem (show i < zs.length by omega)]
        rw [e1] at hy
        exact (Option.some.inj hy).symm
      have hc := hcell i (by omega)
      unfold World.cell? at hc
      split at hc
      · rename_i c0 T fz hh
        refine ⟨fun h => h, ?_, c0, T, fz, hh, fun j u hu => ?_⟩
        · exact (Array.getElem?_eq_some_iff.1 hh).1
        · subst hy'
          have hj : j = 0 := by
            have := (List.getElem?_eq_some_iff.1 hu).1
            simp [Value.cells] at this; exact this
          subst hj
          simp [Value.cells] at hu
          subst hu
          simpa using hc
      · cases hc

theorem read_ints {n : Nat} {cs : List Value} {x : DataW H × List MemPlace} (h : DataW.trod enc Try.prog W 0 (fun _ => true) held n 27 cs = some x) (hw : Wt 27 x.1) :
    ∃ a m c l, cs = [.slice a m c] ∧ Ns ⟨none', W⟩ a m c l ∧ c * 8 ≤ 140737488351232 := by
  rcases open_ints Try.underlying27 Try.underlying3 (by kernel_rfl) h with ⟨rfl, _⟩ | ⟨x, l, c, zs, rfl, _, hl, hm, hz, hx0, hcell, hwz⟩
  · exact ⟨none, 0, 0, [], rfl, SlV.none, by decide⟩
  · have hz2 : zs.length = c := by simpa using hz
    obtain ⟨l', hN⟩ := ns_of (w := W) (a := some x) (n := l) (c := c) (zs := zs) (.inr ⟨_, rfl, hl, hm, hz2, hcell, hwz⟩)
    refine ⟨_, _, _, _, rfl, hN, ?_⟩
    rw [hx0] at hw
    have := hw (((lits (H := H) .i64 (zs.take l)).length + (lits (H := H) .i64 (zs.drop l)).length) * Try.prog.bytesOf 3) (by simp [DataW.weights, Try.underlying27])
    rw [show Program.bytesOf Try.prog 3 = 8 by kernel_rfl] at this
    simp only [lits, List.length_map, List.length_take, List.length_drop, reachBytes] at this
    omega
end Go.Proofs.Ytdbagbklhchbkaa
