/- The document's records: Same, fits, Lay, Read. Conditions: on sizes. -/
import Derived.Test.YtnigonhkfpnodaaLBo4
import Derived.Test.YtnigonhkfpnodaaLCas2
import Derived.Test.YtnigonhkfpnodaaLFr3
set_option maxRecDepth 100000
set_option maxHeartbeats 8000000
set_option linter.unusedSimpArgs false
set_option linter.unusedVariables false
namespace Go.Proofs.Ytnigonhkfpnodaa
open Go Go.Lx
open Go.Sx (vcIf)

theorem take_eq_last {α : Type} {a b : List α} {i : Nat} {x y : α} (h : a.take i = b.take i) (hx : a[i]? = some x) (hy : b[i]? = some y) (e : x = y) : a.take (i + 1) = b.take (i + 1) := by
  rw [List.take_add_one, List.take_add_one, h, hx, hy, e]
end Go.Proofs.Ytnigonhkfpnodaa
