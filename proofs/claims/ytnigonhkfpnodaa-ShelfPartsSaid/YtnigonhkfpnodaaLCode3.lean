/- What the document's Put and Num do; texts; the simplest facts. Conditions: on sizes. -/
import Derived.Test.YtnigonhkfpnodaaLCode2
set_option maxRecDepth 100000
set_option maxHeartbeats 4000000
set_option linter.unusedSimpArgs false
set_option linter.unusedVariables false
namespace Go.Proofs.Ytnigonhkfpnodaa
open Go Go.Lx
open Go.Sx (vcIf)

end Go.Proofs.Ytnigonhkfpnodaa
