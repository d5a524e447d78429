/- Who is seen has no open case. Conditions: none but the rows' bounds. -/
import Derived.Test.YtedeacbkaidknaaGreatOpsLs
namespace Go.Tr
open Go
set_option linter.unusedVariables false
set_option linter.unusedSimpArgs false
set_option maxRecDepth 100000
set_option maxHeartbeats 4000000
end Go.Tr
