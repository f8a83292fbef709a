/- The document's transactions: sound or not. Conditions: on sizes. -/
import Derived.Test.YtdeolllpbflemaaLFv1
set_option maxRecDepth 100000
set_option maxHeartbeats 4000000
set_option linter.unusedSimpArgs false
set_option linter.unusedVariables false
namespace Go.Proofs.Ytdeolllpbflemaa
open Go Go.Lx
open Go.Sx (vcIf)

end Go.Proofs.Ytdeolllpbflemaa
