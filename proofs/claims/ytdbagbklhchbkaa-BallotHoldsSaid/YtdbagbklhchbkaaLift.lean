/- From a contract of the walk to what a law's row asks. No conditions. -/
import Derived.Test.YtdbagbklhchbkaaPl2
import Derived.Below
set_option linter.unusedSimpArgs false
set_option linter.unusedVariables false
namespace Go.Sx
open Go RowKit

theorem getD_at {zs : List Int} {i : Nat} (h : i < zs.length) : zs.getD i 0 = zs[i] := by
  rw [List.getD_eq_getElem?_getD, List.getElem?_eq_getElem h]; rfl

theorem below_of {P : Program} {f : FuncId} {args : List Value} {w : World} (h : FnV P f args ⟨none', w⟩ fun v _ => v = .bool true) :
    Calls P f args.toArray w fun e w' => e = .returned (.bool true) ∧ Below w.heap.size w w' := by
  refine Calls.mono h ?_
  rintro e w' ⟨v, H', rfl, rfl, hn, rfl⟩
  exact ⟨rfl, hn.keep.os, hn.keep.tape, hn.keep.output, hn.keep.size, fun k hk => hn.keep.block k hk fun h => h⟩

theorem bd0 (w : World) : Hp.Bd ⟨none', w⟩ := fun _ h => h.elim

theorem wf_i64 {a : Int} (h : (Lit.int .i64 a).wf = true) : -9223372036854775808 ≤ a ∧ a ≤ 9223372036854775807 := by
  simpa [Lit.wf, IntKind.min, IntKind.max, IntKind.bits, IntKind.signed] using h

theorem wf_u8 {a : Int} (h : (Lit.int .u8 a).wf = true) : 0 ≤ a ∧ a ≤ 255 := by
  simpa [Lit.wf, IntKind.min, IntKind.max, IntKind.bits, IntKind.signed] using h

/-- A slice of bytes that came in. -/
theorem bs_of {w : World} {a : Option Addr} {n c : Nat} {zs : List Int} (h : (a = none ∧ n = 0 ∧ c = 0 ∧ zs = []) ∨
    ∃ x, a = some x ∧ n ≤ c ∧ c ≤ maxLen ∧ zs.length = c ∧ (∀ i, i < zs.length → w.cell? (x.add i) = some (.int .u8 (zs.getD i 0))) ∧ ∀ n ∈ zs, (Lit.int .u8 n).wf = true) :
    ∃ l, Bs ⟨none', w⟩ a n c l := by
  rcases h with ⟨rfl, rfl, rfl, rfl⟩ | ⟨x, rfl, h1, h2, h3, h4, h5⟩
  · exact ⟨[], SlV.none⟩
  · refine ⟨(zs.take n).map fun z => UInt8.ofNat z.toNat, ?_⟩
    have hz : ∀ i, i < zs.length → 0 ≤ zs.getD i 0 ∧ zs.getD i 0 ≤ 255 := fun i hi => wf_u8 (h5 _ (by rw [getD_at hi]; exact List.getElem_mem hi))
    have hlen : (byteV ((zs.take n).map fun z => UInt8.ofNat z.toNat)).length = n := by simp [byteV]; omega
    refine ⟨?_, hlen, fun h => (by simp at h), h1⟩
    by_cases hn : n = 0
    · left; exact List.eq_nil_of_length_eq_zero (by rw [hlen, hn])
    · obtain ⟨b, off, sp⟩ := x
      have h0 := h4 0 (by omega)
      have hsp : sp = none := by
        simp only [Addr.add, if_true, World.cell?] at h0
        split at h0
        · cases sp with
          | none => rfl
          | some s => simp at h0
        · cases h0
      subst hsp
      have hcell : ∀ i, i < zs.length → w.cell? ⟨b, off + i, none⟩ = some (.int .u8 (zs.getD i 0)) := by
        intro i hi
        have := h4 i hi
        unfold Addr.add at this
        split at this
        · rename_i h; subst h; exact this
        · exact this
      right
      refine ⟨b, off, rfl, fun i y hy => ?_⟩
      have hi : i < n := by
        have := (List.getElem?_eq_some_iff.1 hy).1
        omega
      have hy' : y = .int .u8 (zs.getD i 0) := by
        have hb := hz i (by omega)
        rw [getD_at (show i < zs.length by omega)] at hb ⊢
        have e1 : (byteV ((zs.take n).map fun z => UInt8.ofNat z.toNat))[i]? = some (.int .u8 ((UInt8.ofNat (zs[i]'(by omega)).toNat).toNat : Nat)) := by
          simp [byteV, List.getElem?_take, hi, List.getElem?_eq_getElem (show i < zs.length by omega)]
        rw [e1] at hy
        rw [← Option.some.inj hy]
        generalize zs[i] = z at hb ⊢
        have hz1 : z.toNat < 256 := by omega
        rw [UInt8.toNat_ofNat_of_lt' hz1]
        congr 1; omega
      have hc := hcell i (by omega)
      unfold World.cell? at hc
      split at hc
      · rename_i c0 T fz hh
        refine ⟨fun h => h, ?_, c0, T, fz, hh, fun j u hu => ?_⟩
        · exact (Array.getElem?_eq_some_iff.1 hh).1
        · subst hy'
          have hj : j = 0 := by
            have := (List.getElem?_eq_some_iff.1 hu).1
            simp [Value.cells] at this; exact this
          subst hj
          simp [Value.cells] at hu
          subst hu
          simpa using hc
      · cases hc
end Go.Sx
