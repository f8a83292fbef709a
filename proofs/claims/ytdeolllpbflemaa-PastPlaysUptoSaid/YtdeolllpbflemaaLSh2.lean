/- Whether bounds are sound: the document's answer. Conditions: on sizes. -/
import Derived.Test.YtdeolllpbflemaaLSh1
set_option maxRecDepth 100000
set_option maxHeartbeats 8000000
set_option linter.unusedSimpArgs false
set_option linter.unusedVariables false
namespace Go.Proofs.Ytdeolllpbflemaa
open Go Go.Lx
open Go.Sx (vcIf)

end Go.Proofs.Ytdeolllpbflemaa
