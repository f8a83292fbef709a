/- What readings of states and vows tell of their values. No conditions. -/
import Derived.Test.YtdbagbklhchbkaaRead
set_option maxRecDepth 100000
set_option linter.unusedSimpArgs false
set_option linter.unusedVariables false
namespace Go.Proofs.Ytdbagbklhchbkaa
open Go Go.Sx
open Go.ChangeShapes Go.WideShapes Go.ChangeAt Go.RowKit

variable {H : Type} {enc : TypeId × Value → H} {W : World} {base b0 : Nat} {held : Bool} {r : Reach}

theorem read_state {n : Nat} {cs : List Value} {x : DataW H × List MemPlace} (h : DataW.trod enc Try.prog W 0 (fun _ => true) held n 29 cs = some x) (hw : Wt 29 x.1) :
    ∃ g e t a m c l, cs = [.int .i64 g, .int .i64 e, .int .i64 t, .slice a m c] ∧ Ns ⟨none', W⟩ a m c l ∧ c * 8 ≤ 140737488351232 := by
  have ht : Try.prog.underlying 29 = some (.struct (Try.prog.fieldsOf 29)) := by kernel_rfl
  have hl := trod_cells ht h (k := 4) (by kernel_rfl)
  obtain ⟨c0, c1, c2, c3, rfl⟩ : ∃ c0 c1 c2 c3, cs = [c0, c1, c2, c3] := by
    match cs, hl with
    | [c0, c1, c2, c3], _ => exact ⟨c0, c1, c2, c3, rfl⟩
  obtain ⟨m0, y0, h0⟩ := trod_field (i := 0) (tt := 3) (o := 0) (k := 1) ht h (by kernel_rfl) (by kernel_rfl)
  obtain ⟨m1, y1, h1⟩ := trod_field (i := 1) (tt := 3) (o := 1) (k := 1) ht h (by kernel_rfl) (by kernel_rfl)
  obtain ⟨m2, y2, h2⟩ := trod_field (i := 2) (tt := 3) (o := 2) (k := 1) ht h (by kernel_rfl) (by kernel_rfl)
  obtain ⟨m3, y3, h3, hw3⟩ := fieldW (i := 3) (tt := 27) (o := 3) (k := 1) ht h hw (by kernel_rfl) (by kernel_rfl)
  obtain ⟨g, hg, _⟩ := cell_int Try.underlying3 h0
  obtain ⟨e, he, _⟩ := cell_int Try.underlying3 h1
  obtain ⟨t, htt, _⟩ := cell_int Try.underlying3 h2
  obtain ⟨a, m, c, l, hs, hN, hc⟩ := read_ints h3 hw3
  simp only [List.drop_zero, List.take_succ_cons, List.take_zero, List.drop_succ_cons, List.cons.injEq, and_true] at hg he htt hs
  exact ⟨g, e, t, a, m, c, l, by rw [hg, he, htt, hs], hN, hc⟩

theorem read_vow {n : Nat} {cs : List Value} {x : DataW H × List MemPlace} (h : DataW.trod enc Try.prog W 0 (fun _ => true) held n 31 cs = some x) (hw : Wt 31 x.1) :
    ∃ v : Vw, cs = v.val.cells.toList ∧ v.Ok ⟨none', W⟩ := by
  have ht : Try.prog.underlying 31 = some (.struct (Try.prog.fieldsOf 31)) := by kernel_rfl
  have hl := trod_cells ht h (k := 8) (by kernel_rfl)
  obtain ⟨c0, c1, c2, c3, c4, c5, c6, c7, rfl⟩ : ∃ c0 c1 c2 c3 c4 c5 c6 c7, cs = [c0, c1, c2, c3, c4, c5, c6, c7] := by
    match cs, hl with
    | [c0, c1, c2, c3, c4, c5, c6, c7], _ => exact ⟨c0, c1, c2, c3, c4, c5, c6, c7, rfl⟩
  obtain ⟨m0, y0, h0⟩ := trod_field (i := 0) (tt := 23) (o := 0) (k := 2) ht h (by kernel_rfl) (by kernel_rfl)
  obtain ⟨m1, y1, h1⟩ := trod_field (i := 1) (tt := 23) (o := 2) (k := 2) ht h (by kernel_rfl) (by kernel_rfl)
  obtain ⟨m2, y2, h2, hw2⟩ := fieldW (i := 2) (tt := 29) (o := 4) (k := 4) ht h hw (by kernel_rfl) (by kernel_rfl)
  obtain ⟨p, q, hp⟩ := trod_ball h0
  obtain ⟨r, s, hr⟩ := trod_ball h1
  obtain ⟨g, e, t, a, m, c, l, hs, hN, hc⟩ := read_state h2 hw2
  simp only [List.drop_zero, List.take_succ_cons, List.take_zero, List.drop_succ_cons, List.cons.injEq, and_true] at hp hr hs
  obtain ⟨rfl, rfl⟩ := hp
  obtain ⟨rfl, rfl⟩ := hr
  obtain ⟨rfl, rfl, rfl, rfl⟩ := hs
  have hcap := hN.cap
  exact ⟨⟨p, q, r, s, g, e, t, a, m, c, l⟩, rfl, hN, by show m * 8 ≤ _; omega⟩

theorem open_vow {v : Value} {d : DataW H} {p : List MemPlace} (hv : Value.okWide Try.prog W r b0 31 v) (h : DataW.Trod enc Try.prog W 0 (fun _ => true) held 31 v d p) (hw : Wt 31 d) : ∃ u : Vw, v = u.val ∧ u.Ok ⟨none', W⟩ := by
  have ht : Try.prog.underlying 31 = some (.struct (Try.prog.fieldsOf 31)) := by kernel_rfl
  obtain ⟨cs, rfl, _⟩ := okWide_struct ht hv
  obtain ⟨n, h⟩ := h
  obtain ⟨u, hc, hu⟩ := read_vow h hw
  refine ⟨u, ?_, hu⟩
  have : cs.toList = u.val.cells.toList := hc
  have e : cs = u.val.cells := Array.toList_inj.1 this
  rw [e]; rfl

theorem open_state {v : Value} {d : DataW H} {p : List MemPlace} (hv : Value.okWide Try.prog W r b0 29 v) (h : DataW.Trod enc Try.prog W 0 (fun _ => true) held 29 v d p) (hw : Wt 29 d) :
    ∃ u : Vw, v = stV u.g u.e u.t u.a u.n u.c ∧ u.Ok ⟨none', W⟩ := by
  have ht : Try.prog.underlying 29 = some (.struct (Try.prog.fieldsOf 29)) := by kernel_rfl
  obtain ⟨cs, rfl, _⟩ := okWide_struct ht hv
  obtain ⟨n, h⟩ := h
  obtain ⟨g, e, t, a, m, c, l, hs, hN, hc⟩ := read_state h hw
  have hcap := hN.cap
  refine ⟨⟨0, 0, 0, 0, g, e, t, a, m, c, l⟩, ?_, hN, by show m * 8 ≤ _; omega⟩
  have : cs.toList = [.int .i64 g, .int .i64 e, .int .i64 t, .slice a m c] := hs
  rw [← Array.toArray_toList (xs := cs), this]

theorem wt_each {ts : List TypeId} {ds : List (DataW H)} {j t : Nat} {d : DataW H} (h : (DataW.weightsEach Try.prog ts ds).all (· ≤ reachBytes) = true) (ht : ts[j]? = some t) (hd : ds[j]? = some d) : Wt t d := by
  intro n hn
  simpa using List.all_eq_true.1 h _ (DataW.weights_mem_each ht hd n hn)
end Go.Proofs.Ytdbagbklhchbkaa
