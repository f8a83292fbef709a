/-
  What is proved: roundhouse roundhouselaw21.GuestArgs: the law GuestArgs returns true. Conditions: none.
-/
import Derived.Test.YtegkojnngdlfaaaGreatRows
import Derived.Test.YtegkojnngdlfaaaGreatLGum
import Derived.WalkKit
import Derived.ProofKit
import Derived.ChangeOld
import Derived.Below
import Derived.OpenShut
import Derived.ShutString
import Derived.SizedLaws
import Derived.JoinedCond
namespace Go.Proofs.YtegkojnngdlfaaaGreat.guestArgs
open Go Go.Lx Go.Proofs.YtegkojnngdlfaaaGreat
open Go.ChangeShapes Go.WideShapes Go.ChangeAt Go.RowKit
open Go.ChangeMaps (open_string shut_string)
set_option linter.unusedVariables false
set_option maxHeartbeats 4000000

theorem own : ownKnob Tryz.prog.godebug = none := by kernel_rfl
theorem laidOut : laidOutB Tryz.prog = true := by kernel_rfl

set_option maxRecDepth 100000 in
theorem contract (H : Type) (enc : TypeId × Value → H) (W : World) (base : Nat) (args : Array Value) (ds gs : List (DataW H)) (before : List MemPlace)
    (hval0 : ∀ (j : Nat) t v, Tryz.f3.params[j]? = some t → args[j]? = some v → Value.okWide Tryz.prog W .any base t v)
    (hW : DataW.Whole enc Tryz.prog Tryz.f3.params.toList Rows.guestArgsSpec.vars false W args.toList ds gs before) (hwt : (DataW.weightsEach Tryz.prog (Tryz.f3.params.toList ++ Rows.guestArgsSpec.plain.varTypes Tryz.prog) (ds ++ gs)).all (· ≤ reachBytes) = true) :
    Calls Tryz.prog 3 args W fun e W' => ∃ v, e = .returned v ∧ Rows.guestArgsSpec.post enc Tryz.prog Tryz.f3 false true false false W args v W' := by
  have hval : ∀ (j : Nat) t v, Tryz.f3.params[j]? = some t → args[j]? = some v → Value.okWide Tryz.prog W .any base t v := hval0
  have hW' := hW
  obtain ⟨p, q, hA0, hV, rfl, hfz, hnd⟩ := hW
  have hA : DataW.TrodAll enc Tryz.prog W 0 (fun _ => true) true Tryz.f3.params.toList args.toList ds p := hA0
  rw [Tryz.params3] at hA hval
  obtain ⟨v0, vs0, d0, ds0, p0, q0, hargs, rfl, rfl, h0, r0⟩ := trodAll_cons hA
  obtain ⟨v1, vs1, d1, ds1, p1, q1, rfl, rfl, rfl, h1, r1⟩ := trodAll_cons r0
  obtain ⟨v2, vs2, d2, ds2, p2, q2, rfl, rfl, rfl, h2, r2⟩ := trodAll_cons r1
  obtain ⟨v3, vs3, d3, ds3, p3, q3, rfl, rfl, rfl, h3, r3⟩ := trodAll_cons r2
  obtain ⟨v4, vs4, d4, ds4, p4, q4, rfl, rfl, rfl, h4, r4⟩ := trodAll_cons r3
  obtain ⟨rfl, rfl, rfl⟩ := trodAll_nil r4
  obtain rfl : args = #[v0, v1, v2, v3, v4] := by cases args; simp_all
  obtain ⟨rfl, rfl⟩ := trodVars_none hV
  have k0 := h0
  have lt0 : ∀ x ∈ p0, x.block < W.heap.size := by obtain ⟨m, hm⟩ := k0; exact DataW.trod_lt m _ _ _ hm
  have k1 := h1
  have lt1 : ∀ x ∈ p1, x.block < W.heap.size := by obtain ⟨m, hm⟩ := k1; exact DataW.trod_lt m _ _ _ hm
  have k2 := h2
  have lt2 : ∀ x ∈ p2, x.block < W.heap.size := by obtain ⟨m, hm⟩ := k2; exact DataW.trod_lt m _ _ _ hm
  have k3 := h3
  have lt3 : ∀ x ∈ p3, x.block < W.heap.size := by obtain ⟨m, hm⟩ := k3; exact DataW.trod_lt m _ _ _ hm
  have k4 := h4
  have lt4 : ∀ x ∈ p4, x.block < W.heap.size := by obtain ⟨m, hm⟩ := k4; exact DataW.trod_lt m _ _ _ hm
  obtain ⟨y0, g0, D0⟩ := open_sh (K := reachBytes) (s := .st [.int .i64, .int .i64, .int .i64, .int .i64, .int .i64, .int .i64]) (t := 23) (by kernel_rfl) (hval 0 23 v0 rfl rfl) h0 (wt_each hwt (j := 0) rfl rfl)
  obtain ⟨y1, g1, D1⟩ := open_sh (K := reachBytes) (s := .int .i64) (t := 3) (by kernel_rfl) (hval 1 3 v1 rfl rfl) h1 (wt_each hwt (j := 1) rfl rfl)
  obtain ⟨y2, g2, D2⟩ := open_sh (K := reachBytes) (s := .str) (t := 9) (by kernel_rfl) (hval 2 9 v2 rfl rfl) h2 (wt_each hwt (j := 2) rfl rfl)
  obtain ⟨y3, g3, D3⟩ := open_sh (K := reachBytes) (s := .st [.int .i64, .str, .str]) (t := 25) (by kernel_rfl) (hval 3 25 v3 rfl rfl) h3 (wt_each hwt (j := 3) rfl rfl)
  obtain ⟨y4, g4, D4⟩ := open_sh (K := reachBytes) (s := .st [.int .i64, .int .i64, .int .i64, .int .i64, .int .i64, .int .i64, .int .i64, .sl 1 (.int .u8)]) (t := 28) (by kernel_rfl) (hval 4 28 v4 rfl rfl) h4 (wt_each hwt (j := 4) rfl rfl)
  obtain ⟨x0, rfl, x0a⟩ := has_Stg g0
  obtain ⟨x1, rfl, x1a, x1b⟩ := has_int g1
  obtain ⟨x2, rfl, x2a⟩ := has_str g2
  obtain ⟨x3, rfl, x3a⟩ := has_Chg (by unfold reachBytes; decide) g3
  obtain ⟨x4, rfl, x4a⟩ := has_Mg g4
  refine (below_of (vals := [v0, v1, v2, v3, v4]) (((guestArgs_spec x0.a x0.b x0.c x0.d x0.e x0.f x1 x2 x3.kind x3.key x3.val x4.k x4.f x4.t x4.e x4.a x4.b x4.c (bP x4.body)).mono fun _ _ h => h.1)) ev0 rfl (.cons (.p _ _ D0) (.cons (.p _ _ D1) (.cons (.p _ _ D2) (.cons (.p _ _ D3) (.cons (.p _ _ D4) .nil)))))).mono fun e W' ⟨he, bel⟩ => ?_
  subst he
  exact ⟨_, rfl, _, _, _, [], _, [], hW', trodAll_mk1 (shut_bool Tryz.underlying4 _), (trodAll_cons_mk (Below.trod laidOut (by kernel_rfl) (of_decide_eq_true (by kernel_rfl)) k0 bel lt0) (trodAll_cons_mk (Below.trod laidOut (by kernel_rfl) (of_decide_eq_true (by kernel_rfl)) k1 bel lt1) (trodAll_cons_mk (Below.trod laidOut (by kernel_rfl) (of_decide_eq_true (by kernel_rfl)) k2 bel lt2) (trodAll_cons_mk (Below.trod laidOut (by kernel_rfl) (of_decide_eq_true (by kernel_rfl)) k3 bel lt3) (trodAll_cons_mk (Below.trod laidOut (by kernel_rfl) (of_decide_eq_true (by kernel_rfl)) k4 bel lt4) trodAll_mk0))))), rfl, bel.frame _, fun h => by cases h⟩

set_option maxRecDepth 100000 in
theorem lifted (os : Os) (started : os.Started) (H : Type) (enc : TypeId × Value → H) :
    ReturnsInHanded {} Tryz.checked os 3 .any (Rows.guestArgsSpec.pre6 enc Tryz.prog Tryz.f3 Rows.guestArgsRow.domain false) (Rows.guestArgsSpec.post enc Tryz.prog Tryz.f3 false true false false) := by
  refine returnsInHanded_of_change_sized (C := Tryz.checked) own started (by kernel_rfl) Tryz.func3
    (ChangeSpec.witness6 (enc := enc) (C := Tryz.checked) false ⟨#[], #[.agg #[.int .i64 0, .int .i64 0, .int .i64 0, .int .i64 0, .int .i64 0, .int .i64 0], .int .i64 0, .string ⟨#[]⟩, .agg #[.int .i64 0, .string ⟨#[]⟩, .string ⟨#[]⟩], .agg #[.int .i64 0, .int .i64 0, .int .i64 0, .int .i64 0, .int .i64 0, .int .i64 0, .int .i64 0, .slice none 0 0]], []⟩ 8 (by kernel_rfl) (by kernel_rfl) (by kernel_rfl) (by kernel_rfl)) ?_
  intro W base args ds gs before hval hW hcnd hwt _
  exact contract H enc W base args ds gs before hval hW hwt

theorem over : Rows.guestArgsRow.holds Tryz.pinned (OpenSpec.ofChange Rows.guestArgsSpec) :=
  OpenClaim.holds_of_wide 3 Tryz.f3 rfl rfl rfl rfl rfl rfl rfl ⟨rfl, rfl, rfl, rfl, rfl⟩ rfl rfl rfl rfl rfl (by kernel_rfl) Tryz.func3 (by kernel_rfl)
    (of_decide_eq_true (by kernel_rfl)) (by unfold Func.isWrapper; first | (rw [if_pos (by decide +kernel)]; kernel_rfl) | (rw [if_neg (by decide +kernel)]; exact ⟨rfl, rfl⟩))
    (fun os started H enc _ => lifted os started H enc)

/-- The statement. -/
theorem proved : Rows.GuestArgsSaid := over
#print axioms proved
end Go.Proofs.YtegkojnngdlfaaaGreat.guestArgs
