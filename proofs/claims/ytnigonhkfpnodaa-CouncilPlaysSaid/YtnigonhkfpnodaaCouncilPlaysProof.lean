/-
  What is proved: roundhouse roundhouselaw15.CouncilPlays: the law CouncilPlays returns true. Conditions: none.
-/
import Derived.Test.YtnigonhkfpnodaaRows
import Derived.Test.YtnigonhkfpnodaaLCpm
import Derived.WalkKit
import Derived.ProofKit
import Derived.ChangeOld
import Derived.Below
import Derived.OpenShut
import Derived.ShutString
import Derived.SizedLaws
import Derived.JoinedCond
namespace Go.Proofs.Ytnigonhkfpnodaa.councilPlays
open Go Go.Lx Go.Proofs.Ytnigonhkfpnodaa
open Go.ChangeShapes Go.WideShapes Go.ChangeAt Go.RowKit
open Go.ChangeMaps (open_string shut_string)
set_option linter.unusedVariables false
set_option maxHeartbeats 4000000

theorem own : ownKnob Try.prog.godebug = none := by kernel_rfl
theorem laidOut : laidOutB Try.prog = true := by kernel_rfl

set_option maxRecDepth 100000 in
theorem contract (H : Type) (enc : TypeId × Value → H) (W : World) (base : Nat) (args : Array Value) (ds gs : List (DataW H)) (before : List MemPlace)
    (hval0 : ∀ (j : Nat) t v, Try.f5.params[j]? = some t → args[j]? = some v → Value.okWide Try.prog W .any base t v)
    (hW : DataW.Whole enc Try.prog Try.f5.params.toList Rows.councilPlaysSpec.vars false W args.toList ds gs before) (hwt : (DataW.weightsEach Try.prog (Try.f5.params.toList ++ Rows.councilPlaysSpec.plain.varTypes Try.prog) (ds ++ gs)).all (· ≤ reachBytes) = true) :
    Calls Try.prog 5 args W fun e W' => ∃ v, e = .returned v ∧ Rows.councilPlaysSpec.post enc Try.prog Try.f5 false true false false W args v W' := by
  have hval : ∀ (j : Nat) t v, Try.f5.params[j]? = some t → args[j]? = some v → Value.okWide Try.prog W .any base t v := hval0
  have hW' := hW
  obtain ⟨p, q, hA0, hV, rfl, hfz, hnd⟩ := hW
  have hA : DataW.TrodAll enc Try.prog W 0 (fun _ => true) true Try.f5.params.toList args.toList ds p := hA0
  rw [Try.params5] at hA hval
  obtain ⟨v0, vs0, d0, ds0, p0, q0, hargs, rfl, rfl, h0, r0⟩ := trodAll_cons hA
  obtain ⟨rfl, rfl, rfl⟩ := trodAll_nil r0
  obtain rfl : args = #[v0] := by cases args; simp_all
  obtain ⟨rfl, rfl⟩ := trodVars_none hV
  have k0 := h0
  have lt0 : ∀ x ∈ p0, x.block < W.heap.size := by obtain ⟨m, hm⟩ := k0; exact DataW.trod_lt m _ _ _ hm
  obtain ⟨y0, g0, D0⟩ := open_sh (K := reachBytes) (s := .sl 88 (.st [.int .i64, .int .i64, .st [.int .i64, .int .i64], .st [.int .i64, .int .i64, .int .i64, .sl 8 (.int .i64)], .int .u8])) (t := 50) (by kernel_rfl) (hval 0 50 v0 rfl rfl) h0 (wt_each hwt (j := 0) rfl rfl)
  obtain ⟨x0, rfl, x0a, x0b⟩ := has_sl (f := CA.v) (ok := CA.ok) g0 (fun z hz => has_CA (by unfold reachBytes; decide) hz)
  refine (below_of (vals := [v0]) (councilPlays_spec x0 x0b (by unfold reachBytes at x0a; omega)) ev0 rfl (.cons (.p _ _ D0) .nil)).mono fun e W' ⟨he, bel⟩ => ?_
  subst he
  exact ⟨_, rfl, _, _, _, [], _, [], hW', trodAll_mk1 (shut_bool Try.underlying4 _), (trodAll_cons_mk (Below.trod laidOut (by kernel_rfl) (of_decide_eq_true (by kernel_rfl)) k0 bel lt0) trodAll_mk0), rfl, bel.frame _, fun h => by cases h⟩

set_option maxRecDepth 100000 in
theorem lifted (os : Os) (started : os.Started) (H : Type) (enc : TypeId × Value → H) :
    ReturnsInHanded {} Try.checked os 5 .any (Rows.councilPlaysSpec.pre6 enc Try.prog Try.f5 Rows.councilPlaysRow.domain false) (Rows.councilPlaysSpec.post enc Try.prog Try.f5 false true false false) := by
  refine returnsInHanded_of_change_sized (C := Try.checked) own started (by kernel_rfl) Try.func5
    (ChangeSpec.witness6 (enc := enc) (C := Try.checked) false ⟨#[], #[.slice none 0 0], []⟩ 8 (by kernel_rfl) (by kernel_rfl) (by kernel_rfl) (by kernel_rfl)) ?_
  intro W base args ds gs before hval hW hcnd hwt _
  exact contract H enc W base args ds gs before hval hW hwt

theorem over : Rows.councilPlaysRow.holds Try.pinned (OpenSpec.ofChange Rows.councilPlaysSpec) :=
  OpenClaim.holds_of_wide 5 Try.f5 rfl rfl rfl rfl rfl rfl rfl ⟨rfl, rfl, rfl, rfl, rfl⟩ rfl rfl rfl rfl rfl (by kernel_rfl) Try.func5 (by kernel_rfl)
    (of_decide_eq_true (by kernel_rfl)) (by unfold Func.isWrapper; first | (rw [if_pos (by decide +kernel)]; kernel_rfl) | (rw [if_neg (by decide +kernel)]; exact ⟨rfl, rfl⟩))
    (fun os started H enc _ => lifted os started H enc)

/-- The statement. -/
theorem proved : Rows.CouncilPlaysSaid := over
#print axioms proved
end Go.Proofs.Ytnigonhkfpnodaa.councilPlays
