/- The iterators slices.Backward go through a settled slice from its end. No conditions. -/
import Derived.Test.YtegkojnngdlfaaaGreatLEnv
set_option maxRecDepth 100000
set_option maxHeartbeats 4000000
set_option linter.unusedSimpArgs false
set_option linter.unusedVariables false
namespace Go.Proofs.YtegkojnngdlfaaaGreat
open Go Go.Lx
open Go.Sx (vcIf Keep0)
end Go.Proofs.YtegkojnngdlfaaaGreat
