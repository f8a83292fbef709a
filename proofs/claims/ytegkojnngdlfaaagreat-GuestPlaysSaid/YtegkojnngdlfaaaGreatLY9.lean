/- A cell of a struct of the call's own told with less. No conditions. -/
import Derived.Test.YtegkojnngdlfaaaGreatLEnv
set_option linter.unusedSimpArgs false
set_option linter.unusedVariables false
namespace Go.Lx
open Go
end Go.Lx
