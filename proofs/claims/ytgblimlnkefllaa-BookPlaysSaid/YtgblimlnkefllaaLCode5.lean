/- The reader of package code. Conditions: on sizes. -/
import Derived.Test.YtgblimlnkefllaaLCode4
set_option maxRecDepth 100000
set_option maxHeartbeats 4000000
set_option linter.unusedSimpArgs false
set_option linter.unusedVariables false
namespace Go.Proofs.Ytgblimlnkefllaa
open Go Go.Lx
open Go.Sx (vcIf)

/-- The next number. -/
def rdN (l : List UInt8) (e : Nat) : Nat × List UInt8 × Nat :=
  if e ≠ 0 then (0, l, e) else ((dec 0 0 l).1, l.drop (dec 0 0 l).2.1, (dec 0 0 l).2.2)

/-- So many numbers. -/
def rdNs : Nat → List UInt8 → Nat → List Int × List UInt8 × Nat
  | 0, l, e => ([], l, e)
  | k + 1, l, e => if e ≠ 0 then ([], l, e) else
    let r := rdN l e
    let s := rdNs k r.2.1 r.2.2
    ((r.1 : Int) :: s.1, s.2)
theorem rdNs_err (k : Nat) (l : List UInt8) {e : Nat} (h : e ≠ 0) : rdNs k l e = ([], l, e) := by
  cases k with
  | zero => rfl
  | succ k => rw [rdNs, if_pos h]

end Go.Proofs.Ytgblimlnkefllaa
