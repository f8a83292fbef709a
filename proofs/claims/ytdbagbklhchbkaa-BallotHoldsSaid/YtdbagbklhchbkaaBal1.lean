/- What package ballot's small functions do. No conditions. -/
import Derived.Test.YtdbagbklhchbkaaEnv
import Derived.Test.YtdbagbklhchbkaaSx14
set_option maxRecDepth 100000
set_option maxHeartbeats 4000000
set_option linter.unusedSimpArgs false
set_option linter.unusedVariables false
namespace Go.Proofs.Ytdbagbklhchbkaa
open Go Go.Sx

abbrev ball (a b : Int) : Value := .agg #[.int .i64 a, .int .i64 b]
def lessB (a b c d : Int) : Bool := decide (a < c) || (a == c && decide (b < d))

theorem less_spec {H : Hp} (hb : H.Bd) (a b c d : Int) :
    FnV Try.prog 14 [ball a b, ball c d] H (fun v _ => v = .bool (lessB a b c d)) := by
  refine fn_of_vc eOk fOk Try.func14 rfl rfl rfl hb ?_
  intro add sub mul quo rem band bor bxor bclr shl shr ieq ilt ile seq slt beq bnot orb bcond iwrap iof ssz hA op hop code hcode ret hret
  cbv
  by_cases h1 : a < c
  · refine vcIf.yes (by simp [hA.lt, h1]) ?_
    cbv
    exact hret _ (RetEv.fn eOk rfl fun H' _ => by
      show Value.bool _ = Value.bool _
      simp [hA.cond, hA.lt, h1, lessB])
  · refine vcIf.no (by simp [hA.lt, h1]) ?_
    cbv
    by_cases h2 : a = c
    · refine vcIf.yes (by simp [hA.eq, h2]) ?_
      cbv
      exact hret _ (RetEv.fn eOk rfl fun H' _ => by
        show Value.bool _ = Value.bool _
        simp [hA.cond, hA.lt, h1, h2, lessB])
    · refine vcIf.no (by simp [hA.eq, h2]) ?_
      cbv
      exact hret _ (RetEv.fn eOk rfl fun H' _ => by
        show Value.bool _ = Value.bool _
        simp [hA.cond, hA.lt, h1, h2, lessB])

theorem rless_spec {H : Hp} (hb : H.Bd) (a b c d : Int) :
    FnV Try.prog 16 [ball a b, ball c d] H (fun v _ => v = .bool (lessB a b c d)) := by
  refine fn_of_vc eOk fOk Try.func16 rfl rfl rfl hb ?_
  intro add sub mul quo rem band bor bxor bclr shl shr ieq ilt ile seq slt beq bnot orb bcond iwrap iof ssz hA op hop code hcode ret hret
  cbv
  by_cases h2 : a = c
  · refine vcIf.no (by simp [hA.eq, hA.not, h2]) ?_
    cbv
    exact hret _ (RetEv.fn eOk rfl fun H' _ => by
      show Value.bool (ilt b d) = _
      simp [hA.lt, h2, lessB])
  · refine vcIf.yes (by simp [hA.eq, hA.not, h2]) ?_
    cbv
    exact hret _ (RetEv.fn eOk rfl fun H' _ => by
      show Value.bool (ilt a c) = _
      simp [hA.lt, h2, lessB])
end Go.Proofs.Ytdbagbklhchbkaa
