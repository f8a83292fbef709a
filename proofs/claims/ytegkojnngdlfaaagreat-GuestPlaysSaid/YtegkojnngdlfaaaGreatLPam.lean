/- LPa1, LPi4, LPi3, LPd3, LPa2 together. Conditions: on sizes. -/
import Derived.Test.YtegkojnngdlfaaaGreatLPrm
import Derived.Test.YtegkojnngdlfaaaGreatLBk1
import Derived.Test.YtegkojnngdlfaaaGreatLY9
set_option maxRecDepth 100000
set_option maxHeartbeats 16000000
set_option linter.unusedSimpArgs false
set_option linter.unusedVariables false
section
namespace Go.Proofs.YtegkojnngdlfaaaGreat
open Go Go.Lx
open Go.Sx (vcIf)
structure Lay where
  ver : Int
  ch : List Chg
def Lay.v (l : Lay) : PV := .agg [.int .i64 l.ver, .sl (cP l.ch)]
theorem Lay.wf (l : Lay) : l.v.wf 2 := ⟨rfl, fun u hu => by
  simp only [Lay.v, PV.cells, List.mem_cons, List.not_mem_nil, or_false] at hu
  rcases hu with rfl | rfl <;> rfl⟩
def upto : List Lay → Int → Nat
  | [], _ => 0
  | l :: r, v => if v < l.ver then 0 else upto r v + 1
structure Ps where
  at' : Int
  pairs : List Pr
  ls : List Lay
  first : Int
  last : Int
def knw (f l v : Int) : Nat := if v < f then 7 else if l < v then 8 else 0
def kept (c : Chg) : Nat := if c.kind = 1 then 1 else 0
end Go.Proofs.YtegkojnngdlfaaaGreat
end
section
namespace Go.Proofs.YtegkojnngdlfaaaGreat
open Go Go.Lx
open Go.Sx (vcIf)
end Go.Proofs.YtegkojnngdlfaaaGreat
end
section
namespace Go.Proofs.YtegkojnngdlfaaaGreat
open Go Go.Lx
open Go.Sx (vcIf)
end Go.Proofs.YtegkojnngdlfaaaGreat
end
section
namespace Go.Proofs.YtegkojnngdlfaaaGreat
open Go Go.Lx
open Go.Sx (vcIf)
end Go.Proofs.YtegkojnngdlfaaaGreat
end
section
namespace Go.Proofs.YtegkojnngdlfaaaGreat
open Go Go.Lx
open Go.Sx (vcIf)
def lays (ps : List Pr) (ls : List Lay) : List Pr := ls.foldl (fun ps l => ones ps l.ch) ps
def whole (ps : List Pr) (ls : List Lay) (v : Int) : List Pr := lays ps (ls.take (upto ls v))
end Go.Proofs.YtegkojnngdlfaaaGreat
end
