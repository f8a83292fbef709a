/- Messages as bytes. Conditions: on sizes. -/
import Derived.Test.YtgblimlnkefllaaLWr
import Derived.Test.YtgblimlnkefllaaLCas1
set_option maxRecDepth 100000
set_option maxHeartbeats 4000000
set_option linter.unusedSimpArgs false
set_option linter.unusedVariables false
namespace Go.Proofs.Ytgblimlnkefllaa
open Go Go.Lx
open Go.Sx (vcIf)

theorem encs_len : ∀ (l : List Int), (∀ z ∈ l, z ≤ 9223372036854775807) → (encs l).length ≤ 9 * l.length
  | [], _ => by simp [encs]
  | z :: r, h => by
    have h1 := encs_len r fun y hy => h y (by simp [hy])
    have h2 := h z (by simp)
    have h3 := enc_len9 (x := z.toNat) (by omega)
    unfold encs at h1 ⊢
    rw [List.flatMap_cons, List.length_append, List.length_cons]; omega
structure Msg where
  kind : Int
  from_ : Int
  to_ : Int
  epoch : Int
  a : Int
  b : Int
  c : Int
  body : List UInt8
def Msg.v (m : Msg) : PV := .agg [.int .i64 m.kind, .int .i64 m.from_, .int .i64 m.to_, .int .i64 m.epoch, .int .i64 m.a, .int .i64 m.b, .int .i64 m.c, .sl (bP m.body)]
def Msg.nums (m : Msg) : List Int := [m.kind, m.from_, m.to_, m.epoch, m.a, m.b, m.c]
def Msg.okB (m : Msg) : Bool := decide (1 ≤ m.kind ∧ m.kind ≤ 20 ∧ 0 ≤ m.from_ ∧ m.from_ ≤ 255 ∧ 0 ≤ m.to_ ∧ m.to_ ≤ 255 ∧ 0 ≤ m.epoch ∧ 0 ≤ m.a ∧ 0 ≤ m.b ∧ 0 ≤ m.c ∧ m.body.length ≤ 65536)
def Msg.fit (m : Msg) : Prop := (∀ z ∈ m.nums, -9223372036854775808 ≤ z ∧ z ≤ 9223372036854775807) ∧ m.body.length < 140737488355328
/-- A message as bytes, and the error. -/
def fEnc (m : Msg) : List UInt8 × Nat := if m.okB = true then (cseal (encs m.nums ++ enct m.body), 0) else ([], 2)

end Go.Proofs.Ytgblimlnkefllaa
