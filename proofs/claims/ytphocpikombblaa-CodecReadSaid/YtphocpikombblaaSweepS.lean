/- Which prefixes are due, in which order: a stable sort of their places. The places of those that are due, sorted. Whom a tick asks: the places that are due, one behind the other. A tick's plan: a fold over the places that are due. Conditions: none but those that each theorem states. -/
import Derived.Test.YtphocpikombblaaSweepD
import Derived.Test.YtphocpikombblaaRightS
namespace Go.Tr
open Go
set_option linter.unusedVariables false
set_option linter.unusedSimpArgs false
set_option maxRecDepth 100000
set_option maxHeartbeats 4000000
def inD (o : List TSweep) (k : Int) : Prop := 0 ≤ k ∧ k < (o.length : Int)
end Go.Tr
namespace Go.Tr
open Go
set_option linter.unusedVariables false
set_option linter.unusedSimpArgs false
set_option maxRecDepth 100000
set_option maxHeartbeats 4000000
end Go.Tr
namespace Go.Tr
open Go
set_option linter.unusedVariables false
set_option linter.unusedSimpArgs false
set_option maxRecDepth 100000
set_option maxHeartbeats 4000000
def addS (t n : Int) : Int := clampS (clampS t + max (-1099511627776) (min n 1099511627776))
end Go.Tr
namespace Go.Tr
open Go
set_option linter.unusedVariables false
set_option linter.unusedSimpArgs false
set_option maxRecDepth 100000
set_option maxHeartbeats 4000000
end Go.Tr
