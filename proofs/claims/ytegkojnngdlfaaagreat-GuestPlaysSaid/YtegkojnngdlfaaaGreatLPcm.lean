/- LPa6, LPa7, LPa8, LPa9 together. Conditions: on sizes. -/
import Derived.Test.YtegkojnngdlfaaaGreatLPbm
import Derived.Test.YtegkojnngdlfaaaGreatLY10
set_option maxRecDepth 100000
set_option maxHeartbeats 16000000
set_option linter.unusedSimpArgs false
set_option linter.unusedVariables false
section
namespace Go.Proofs.YtegkojnngdlfaaaGreat
open Go Go.Lx
open Go.Sx (vcIf)
end Go.Proofs.YtegkojnngdlfaaaGreat
end
section
namespace Go.Proofs.YtegkojnngdlfaaaGreat
open Go Go.Lx
open Go.Sx (vcIf)
end Go.Proofs.YtegkojnngdlfaaaGreat
end
section
namespace Go.Proofs.YtegkojnngdlfaaaGreat
open Go Go.Lx
open Go.Sx (vcIf)
theorem flat_get (s : List UInt8) (b : Bool) (e : Int) : V.Flat (.p (.tup [.str s, .bool b, .int .i64 e])) := .p _ (.tup _ fun c hc => by
  simp only [List.mem_cons, List.not_mem_nil, or_false] at hc
  rcases hc with rfl | rfl | rfl <;> constructor)
end Go.Proofs.YtegkojnngdlfaaaGreat
end
section
namespace Go.Proofs.YtegkojnngdlfaaaGreat
open Go Go.Lx
open Go.Sx (vcIf)
def lst (ps : List Pr) (s : Spn) (most : Int) : List Pr := (ps.filter fun p => hs s p.key).take most.toNat
def liE (f l v most : Int) : Nat := if knw f l v ≠ 0 then knw f l v else if most < 0 then 1 else 0
end Go.Proofs.YtegkojnngdlfaaaGreat
end
