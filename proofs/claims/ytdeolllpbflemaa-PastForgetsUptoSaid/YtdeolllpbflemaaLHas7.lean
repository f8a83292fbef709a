/- Inputs read as lists of lists of changes. No conditions. -/
import Derived.Test.YtdeolllpbflemaaLHas6
import Derived.Test.YtdeolllpbflemaaLPas
import Derived.Test.YtdeolllpbflemaaLWb
set_option maxRecDepth 100000
set_option maxHeartbeats 4000000
set_option linter.unusedSimpArgs false
set_option linter.unusedVariables false
namespace Go.Proofs.Ytdeolllpbflemaa
open Go Go.Lx

theorem has_Chgss {K : Nat} (hK : K < 140737488355328) {z : PV} (h : Sh.Has K (.sl 24 (.sl 40 (.st [.int .i64, .str, .str]))) z) : ∃ l : List (List Chg), z = .sl (cLP l) ∧ l.length * 24 ≤ K ∧ ∀ c ∈ l, c.length * 40 ≤ K ∧ ∀ x ∈ c, x.fit :=
  has_sl h fun z hz => by
    obtain ⟨l, rfl, h1, h2⟩ := has_Chgs hK hz
    exact ⟨l, rfl, h1, h2⟩
theorem wb_Chgss : Wb Try.prog 64 22 := wb_slice (by decide) Try.underlying22 (of_decide_eq_true (by kernel_rfl)) wb_Chgs
end Go.Proofs.Ytdeolllpbflemaa
