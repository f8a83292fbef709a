/- The document's tape. Conditions: on sizes. -/
import Derived.Test.YtnigonhkfpnodaaLTape3
set_option maxRecDepth 100000
set_option maxHeartbeats 4000000
set_option linter.unusedSimpArgs false
set_option linter.unusedVariables false
namespace Go.Proofs.Ytnigonhkfpnodaa
open Go Go.Lx
open Go.Sx (vcIf)

def IsRt (t : Tp) (sr ls : List UInt8) (ro lf : Int) (d : Bool) : Prop :=
  t.all = sr ++ ls ∧ t.sure = sr.length ∧ ro = (t.room : Int) ∧ t.after = (if lf > -1 then lf else -1) ∧ d = t.down ∧ t.all.length ≤ t.room ∧ t.room ≤ 1048576 ∧ -9223372036854775808 ≤ lf ∧ lf ≤ 9223372036854775807

end Go.Proofs.Ytnigonhkfpnodaa
