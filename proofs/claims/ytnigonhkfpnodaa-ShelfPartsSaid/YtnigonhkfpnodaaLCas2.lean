/- Check sums: the document's More, Sum, Seal, Open. Conditions: on sizes. -/
import Derived.Test.YtnigonhkfpnodaaLCas1
set_option maxRecDepth 100000
set_option maxHeartbeats 4000000
set_option linter.unusedSimpArgs false
set_option linter.unusedVariables false
namespace Go.Proofs.Ytnigonhkfpnodaa
open Go Go.Lx
open Go.Sx (vcIf)

theorem tmod_nat (a b : Nat) : (Int.ofNat a).tmod (Int.ofNat b) = Int.ofNat (a % b) := rfl
theorem tdiv_nat (a b : Nat) : (Int.ofNat a).tdiv (Int.ofNat b) = Int.ofNat (a / b) := rfl

end Go.Proofs.Ytnigonhkfpnodaa
