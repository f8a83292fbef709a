/-
  What is proved: roundhouse roundhouselaw22.ProofAt: the law ProofAt returns true. Conditions: what it reads is of bulk at most 1048576.
-/
import Derived.Test.YtdoikpagilmplaaRows
import Derived.Test.YtdoikpagilmplaaLPr8
import Derived.Test.YtdoikpagilmplaaLHas5
import Derived.Test.YtdoikpagilmplaaLWb
import Derived.Test.YtdoikpagilmplaaBulk
import Derived.WalkKit
import Derived.ProofKit
import Derived.ChangeOld
import Derived.Below
import Derived.OpenShut
import Derived.ShutString
import Derived.SizedLaws
import Derived.JoinedCond
namespace Go.Proofs.Ytdoikpagilmplaa.proofAt
open Go Go.Lx Go.Proofs.Ytdoikpagilmplaa
open Go.ChangeShapes Go.WideShapes Go.ChangeAt Go.RowKit
open Go.ChangeMaps (open_string shut_string)
set_option linter.unusedVariables false
set_option maxHeartbeats 4000000

theorem own : ownKnob Try.prog.godebug = none := by kernel_rfl
theorem laidOut : laidOutB Try.prog = true := by kernel_rfl

set_option maxRecDepth 100000 in
theorem contract (H : Type) (enc : TypeId × Value → H) (W : World) (base : Nat) (args : Array Value) (ds gs : List (DataW H)) (before : List MemPlace)
    (hval0 : ∀ (j : Nat) t v, Try.f3.params[j]? = some t → args[j]? = some v → Value.okWide Try.prog W .any base t v)
    (hW : DataW.Whole enc Try.prog Try.f3.params.toList Rows.proofAtSpec.vars false W args.toList ds gs before) (hk : Rows.uptoSmall H (ds ++ gs) = true) :
    Calls Try.prog 3 args W fun e W' => ∃ v, e = .returned v ∧ Rows.proofAtSpec.post enc Try.prog Try.f3 false true false false W args v W' := by
  have hval : ∀ (j : Nat) t v, Try.f3.params[j]? = some t → args[j]? = some v → Value.okWide Try.prog W .any base t v := hval0
  have hW' := hW
  obtain ⟨p, q, hA0, hV, rfl, hfz, hnd⟩ := hW
  have hA : DataW.TrodAll enc Try.prog W 0 (fun _ => true) true Try.f3.params.toList args.toList ds p := hA0
  rw [Try.params3] at hA hval
  obtain ⟨v0, vs0, d0, ds0, p0, q0, hargs, rfl, rfl, h0, r0⟩ := trodAll_cons hA
  obtain ⟨v1, vs1, d1, ds1, p1, q1, rfl, rfl, rfl, h1, r1⟩ := trodAll_cons r0
  obtain ⟨rfl, rfl, rfl⟩ := trodAll_nil r1
  obtain rfl : args = #[v0, v1] := by cases args; simp_all
  obtain ⟨rfl, rfl⟩ := trodVars_none hV
  have k0 := h0
  have lt0 : ∀ x ∈ p0, x.block < W.heap.size := by obtain ⟨m, hm⟩ := k0; exact DataW.trod_lt m _ _ _ hm
  have k1 := h1
  have lt1 : ∀ x ∈ p1, x.block < W.heap.size := by obtain ⟨m, hm⟩ := k1; exact DataW.trod_lt m _ _ _ hm
  obtain ⟨y0, g0, D0⟩ := open_sh (K := 67108864) (s := .sl 48 (.st [.int .i64, .int .i64, .int .i64, .sl 40 (.st [.int .i64, .str, .str])])) (t := 22) (by kernel_rfl) (hval 0 22 v0 rfl rfl) h0 (wt_bulk wb_Bts (d := d0) hk (by simp))
  obtain ⟨y1, g1, D1⟩ := open_sh (K := 67108864) (s := .int .i64) (t := 3) (by kernel_rfl) (hval 1 3 v1 rfl rfl) h1 (wt_bulk wb_int (d := d1) hk (by simp))
  obtain ⟨x0, rfl, x0a, x0b⟩ := has_Bts (by decide) g0
  obtain ⟨x1, rfl, x1a, x1b⟩ := has_int g1
  refine (below_of (vals := [v0, v1]) (((proofAt x0 1677721 (fun b h => by have := (x0b b h).2; omega) (Nat.le_trans (Nat.mul_le_mul_right 32 (Nat.succ_le_succ (Nat.mul_le_mul_right 1677721 (show x0.length ≤ 1398101 by omega)))) (by decide)) (by omega) (fun b h => (x0b b h).1) x1).mono fun _ _ h => h.1)) ev0 rfl (.cons (.p _ _ D0) (.cons (.p _ _ D1) .nil))).mono fun e W' ⟨he, bel⟩ => ?_
  subst he
  exact ⟨_, rfl, _, _, _, [], _, [], hW', trodAll_mk1 (shut_bool Try.underlying4 _), (trodAll_cons_mk (Below.trod laidOut (by kernel_rfl) (of_decide_eq_true (by kernel_rfl)) k0 bel lt0) (trodAll_cons_mk (Below.trod laidOut (by kernel_rfl) (of_decide_eq_true (by kernel_rfl)) k1 bel lt1) trodAll_mk0)), rfl, bel.frame _, fun h => by cases h⟩

set_option maxRecDepth 100000 in
theorem lifted (os : Os) (started : os.Started) (H : Type) (enc : TypeId × Value → H) (F : Stop.Interp) :
    ReturnsInHanded {} Try.checked os 3 .any ((Rows.OpenSpec.upto Rows.proofAtSpec).pre6 enc Try.prog Try.f3 Rows.proofAtUptoRow.domain false) (((Rows.OpenSpec.upto Rows.proofAtSpec).at F).post enc Try.prog Try.f3 false true false false) := by
  refine returnsInHanded_of_cond (C := Try.checked) (s := Rows.OpenSpec.upto Rows.proofAtSpec) (k := Rows.uptoSmall) rfl own started (by kernel_rfl) Try.func3
    (OpenSpec.witness (enc := enc) (C := Try.checked) (s := Rows.OpenSpec.upto Rows.proofAtSpec) (k := Rows.uptoSmall) rfl false ⟨#[], #[.slice none 0 0, .int .i64 0], []⟩ 8 (by kernel_rfl) (by kernel_rfl) (by kernel_rfl)
      (x := ([.nil, .lit (.int .i64 0)], [], [])) (by kernel_rfl) rfl (by kernel_rfl)) ?_
  intro W base args ds gs before hval hW _ hk _
  exact contract H enc W base args ds gs before hval hW hk

theorem over : Rows.proofAtUptoRow.holds Try.pinned (Rows.OpenSpec.upto Rows.proofAtSpec) :=
  OpenClaim.holds_of_cond 3 Try.f3 rfl rfl rfl rfl rfl rfl rfl ⟨rfl, rfl, rfl, rfl, rfl⟩ rfl rfl rfl rfl rfl (by kernel_rfl) Try.func3 (by kernel_rfl)
    (of_decide_eq_true (by kernel_rfl)) (by unfold Func.isWrapper; first | (rw [if_pos (by decide +kernel)]; kernel_rfl) | (rw [if_neg (by decide +kernel)]; exact ⟨rfl, rfl⟩))
    (fun os started H enc _ F => lifted os started H enc F)

/-- The statement. -/
theorem proved : Rows.ProofAtUptoSaid := over
#print axioms proved
end Go.Proofs.Ytdoikpagilmplaa.proofAt
