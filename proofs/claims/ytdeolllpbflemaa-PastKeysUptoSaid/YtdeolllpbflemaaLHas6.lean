/- Inputs read as lists of changes and of pairs. No conditions. -/
import Derived.Test.YtdeolllpbflemaaLHas
import Derived.Test.YtdeolllpbflemaaLHas4
set_option maxRecDepth 100000
set_option maxHeartbeats 4000000
set_option linter.unusedSimpArgs false
set_option linter.unusedVariables false
namespace Go.Proofs.Ytdeolllpbflemaa
open Go Go.Lx

theorem has_Chgs {K : Nat} (hK : K < 140737488355328) {z : PV} (h : Sh.Has K (.sl 40 (.st [.int .i64, .str, .str])) z) : ∃ l : List Chg, z = .sl (cP l) ∧ l.length * 40 ≤ K ∧ ∀ c ∈ l, c.fit := has_sl h fun z hz => has_Chg hK hz
theorem has_Prs {K : Nat} (hK : K < 140737488355328) {z : PV} (h : Sh.Has K (.sl 32 (.st [.str, .str])) z) : ∃ l : List Pr, z = .sl (prP l) ∧ l.length * 32 ≤ K ∧ ∀ c ∈ l, c.fit := has_sl h fun z hz => has_Pr hK hz
end Go.Proofs.Ytdeolllpbflemaa
