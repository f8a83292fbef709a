/- What a reading of a ballot tells of its value. No conditions. -/
import Derived.Test.YtdbagbklhchbkaaBal7
import Derived.Test.YtdbagbklhchbkaaLift
import Derived.WalkKit
import Derived.ProofKit
import Derived.OpenShut
set_option maxRecDepth 100000
set_option linter.unusedSimpArgs false
set_option linter.unusedVariables false
namespace Go.Proofs.Ytdbagbklhchbkaa
open Go Go.Sx
open Go.ChangeShapes Go.WideShapes Go.ChangeAt Go.RowKit

variable {H : Type} {enc : TypeId × Value → H} {W : World} {base b0 : Nat} {spare : Nat → Bool} {held : Bool} {r : Reach}

theorem cell_int {n t : Nat} {cs : List Value} {x : DataW H × List MemPlace} (ht : Try.prog.underlying t = some (.int .i64)) (h : DataW.trod enc Try.prog W base spare held n t cs = some x) : ∃ z, cs = [.int .i64 z] ∧ -9223372036854775808 ≤ z ∧ z ≤ 9223372036854775807 := by
  obtain ⟨z, rfl, _, hw⟩ := DataW.trod_int ht h
  exact ⟨z, rfl, wf_i64 hw⟩

/-- A struct's field, read. -/
theorem trod_field {t tt n i o k : Nat} {cs : List Value} {x : DataW H × List MemPlace} (ht : Try.prog.underlying t = some (.struct (Try.prog.fieldsOf t))) (h : DataW.trod enc Try.prog W base spare held n t cs = some x)
    (hi : ((Try.prog.fieldsOf t)[i]?).map (fun f => (f.type, f.offset)) = some (tt, o)) (hk : Try.prog.cellsOf tt = k) : ∃ m y, DataW.trod enc Try.prog W base spare held m tt ((cs.drop o).take k) = some y := by
  obtain ⟨xs, m, _, rfl, hl, hlen, hfs⟩ := DataW.trod_struct ht h
  cases hf : (Try.prog.fieldsOf t)[i]? with
  | none => rw [hf] at hi; cases hi
  | some f =>
    rw [hf] at hi
    simp only [Option.map_some, Option.some.injEq, Prod.mk.injEq] at hi
    obtain ⟨h1, h2⟩ := hi
    have := hfs i f hf
    rw [h1, h2, hk] at this
    have hlt : i < xs.length := by rw [hlen]; exact (Array.getElem?_eq_some_iff.1 hf).1
    rw [List.getElem?_eq_getElem hlt] at this
    exact ⟨m, _, this⟩
theorem trod_cells {t n k : Nat} {cs : List Value} {x : DataW H × List MemPlace} (ht : Try.prog.underlying t = some (.struct (Try.prog.fieldsOf t))) (h : DataW.trod enc Try.prog W base spare held n t cs = some x) (hk : Try.prog.cellsOf t = k) : cs.length = k := by
  obtain ⟨xs, m, _, rfl, hl, hlen, hfs⟩ := DataW.trod_struct ht h
  rw [hl, hk]

theorem trod_ball {n : Nat} {cs : List Value} {x : DataW H × List MemPlace} (h : DataW.trod enc Try.prog W base spare held n 23 cs = some x) : ∃ a b, cs = [.int .i64 a, .int .i64 b] := by
  have ht : Try.prog.underlying 23 = some (.struct (Try.prog.fieldsOf 23)) := by kernel_rfl
  have hl := trod_cells ht h (k := 2) (by kernel_rfl)
  obtain ⟨c0, c1, rfl⟩ : ∃ c0 c1, cs = [c0, c1] := by
    match cs, hl with
    | [c0, c1], _ => exact ⟨c0, c1, rfl⟩
  obtain ⟨m0, y0, h0⟩ := trod_field (i := 0) (tt := 3) (o := 0) (k := 1) ht h (by kernel_rfl) (by kernel_rfl)
  obtain ⟨m1, y1, h1⟩ := trod_field (i := 1) (tt := 3) (o := 1) (k := 1) ht h (by kernel_rfl) (by kernel_rfl)
  obtain ⟨a, ha, _⟩ := cell_int Try.underlying3 h0
  obtain ⟨b, hb, _⟩ := cell_int Try.underlying3 h1
  simp only [List.drop_zero, List.take_succ_cons, List.take_zero, List.drop_succ_cons, List.cons.injEq, and_true] at ha hb
  exact ⟨a, b, by rw [ha, hb]⟩

theorem open_ball {r : Reach} {v : Value} {d : DataW H} {p : List MemPlace} (hv : Value.okWide Try.prog W r b0 23 v) (h : DataW.Trod enc Try.prog W base spare held 23 v d p) : ∃ a b, v = ball a b := by
  have ht : Try.prog.underlying 23 = some (.struct (Try.prog.fieldsOf 23)) := by kernel_rfl
  obtain ⟨cs, rfl, _⟩ := okWide_struct ht hv
  obtain ⟨n, h⟩ := h
  obtain ⟨a, b, hc⟩ := trod_ball h
  refine ⟨a, b, ?_⟩
  have : cs.toList = [.int .i64 a, .int .i64 b] := hc
  rw [← Array.toArray_toList (xs := cs), this]
end Go.Proofs.Ytdbagbklhchbkaa
