/- The iterators slices.Backward go through a settled slice from its end. No conditions. -/
import Derived.Test.YtegkojnngdlfaaaGreatLEnv
set_option maxRecDepth 100000
set_option maxHeartbeats 4000000
set_option linter.unusedSimpArgs false
set_option linter.unusedVariables false
namespace Go.Proofs.YtegkojnngdlfaaaGreat
open Go Go.Lx
open Go.Sx (vcIf Keep0)

theorem sl_bound {H : Go.Sx.Hp} {E : Ev} {xs : List PV} {v : Value} (h : V.Den H E (.imm 1 (.sl xs) 0) v) : (xs.length : Int) ≤ 9223372036854775807 := by
  cases h with
  | imm _ _ _ b off val hw hs hd =>
    have := hd 0 (.sl xs) rfl
    generalize val 0 = u at this
    cases this with
    | sle a c h => simp
    | sl _ b off sz c val hw hc hs hd => have := hc.1; have := hc.2; have : maxLen ≤ 9223372036854775807 := by decide
                                         omega
end Go.Proofs.YtegkojnngdlfaaaGreat
