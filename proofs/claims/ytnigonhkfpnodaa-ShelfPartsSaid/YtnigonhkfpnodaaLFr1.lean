/- Messages as bytes. Conditions: on sizes. -/
import Derived.Test.YtnigonhkfpnodaaLWr
import Derived.Test.YtnigonhkfpnodaaLCas1
set_option maxRecDepth 100000
set_option maxHeartbeats 4000000
set_option linter.unusedSimpArgs false
set_option linter.unusedVariables false
namespace Go.Proofs.Ytnigonhkfpnodaa
open Go Go.Lx
open Go.Sx (vcIf)

theorem encs_len : ∀ (l : List Int), (∀ z ∈ l, z ≤ 9223372036854775807) → (encs l).length ≤ 9 * l.length
  | [], _ => by simp [encs]
  | z :: r, h => by
    have h1 := encs_len r fun y hy => h y (by simp [hy])
    have h2 := h z (by simp)
    have h3 := enc_len9 (x := z.toNat) (by omega)
    unfold encs at h1 ⊢
    rw [List.flatMap_cons, List.length_append, List.length_cons]; omega
theorem frIn_spec (z : Int) : FnL Try.prog 68 [.p (.int .i64 z)] [] fun v own => ∃ b, b = decide (0 ≤ z ∧ z ≤ 255) ∧ v = .p (.bool b) ∧ own = [] := by
  refine fn_of_vc eOk fOk fo68 Try.func68 rfl rfl rfl fun B hB => ?_
  intro add sub mul quo rem band bor bxor bclr shl shr ieq ilt ile seq slt beq bnot orb bcond iwrap iof ssz hA cat sq sl imin imax smin smax len slen u8 hL op hop call hcall code hcode ret hret
  cbv
  by_cases h : 0 ≤ z
  · refine vcIf.yes (by first | (simp [hA.not, hA.eq, hA.lt, hA.le, hA.cond, hA.beq, hA.orb, hL.len, hL.slen, hL.sq, h]; done) | (simp only [h]; simp [hA.not, hA.eq, hA.lt, hA.le, hA.cond, hA.beq, hA.orb, hL.len, hL.slen, hL.sq, h]; done) | (simp [hA.not, hA.eq, hA.lt, hA.le, hA.cond, hA.beq, hA.orb, hL.len, hL.slen, hL.sq, h]; omega) | (simp only [h]; simp [hA.not, hA.eq, hA.lt, hA.le, hA.cond, hA.beq, hA.orb, hL.len, hL.slen, hL.sq, h]; omega)) ?_
    cbv
    refine hret _ (RetEv.ret eOk rfl ⟨_, rfl, ?_, rfl⟩)
    show V.p (.bool (bcond true (ile z 255) false)) = _
    rw [hA.cond, hA.le]; simp [h]
  · refine vcIf.no (by first | (simp [hA.not, hA.eq, hA.lt, hA.le, hA.cond, hA.beq, hA.orb, hL.len, hL.slen, hL.sq, h]; done) | (simp only [h]; simp [hA.not, hA.eq, hA.lt, hA.le, hA.cond, hA.beq, hA.orb, hL.len, hL.slen, hL.sq, h]; done) | (simp [hA.not, hA.eq, hA.lt, hA.le, hA.cond, hA.beq, hA.orb, hL.len, hL.slen, hL.sq, h]; omega) | (simp only [h]; simp [hA.not, hA.eq, hA.lt, hA.le, hA.cond, hA.beq, hA.orb, hL.len, hL.slen, hL.sq, h]; omega)) ?_
    cbv
    exact hret _ (RetEv.ret eOk rfl ⟨false, by simp [h], rfl, rfl⟩)

structure Msg where
  kind : Int
  from_ : Int
  to_ : Int
  epoch : Int
  a : Int
  b : Int
  c : Int
  body : List UInt8
def Msg.v (m : Msg) : PV := .agg [.int .i64 m.kind, .int .i64 m.from_, .int .i64 m.to_, .int .i64 m.epoch, .int .i64 m.a, .int .i64 m.b, .int .i64 m.c, .sl (bP m.body)]
def Msg.nums (m : Msg) : List Int := [m.kind, m.from_, m.to_, m.epoch, m.a, m.b, m.c]
def Msg.okB (m : Msg) : Bool := decide (1 ≤ m.kind ∧ m.kind ≤ 20 ∧ 0 ≤ m.from_ ∧ m.from_ ≤ 255 ∧ 0 ≤ m.to_ ∧ m.to_ ≤ 255 ∧ 0 ≤ m.epoch ∧ 0 ≤ m.a ∧ 0 ≤ m.b ∧ 0 ≤ m.c ∧ m.body.length ≤ 65536)
def Msg.fit (m : Msg) : Prop := (∀ z ∈ m.nums, -9223372036854775808 ≤ z ∧ z ≤ 9223372036854775807) ∧ m.body.length < 140737488355328
/-- A message as bytes, and the error. -/
def fEnc (m : Msg) : List UInt8 × Nat := if m.okB = true then (cseal (encs m.nums ++ enct m.body), 0) else ([], 2)

end Go.Proofs.Ytnigonhkfpnodaa
