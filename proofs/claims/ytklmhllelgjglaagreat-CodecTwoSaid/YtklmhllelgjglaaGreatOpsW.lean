/- States that are the same; ticks where nothing is known. Conditions: none but the rows' bounds. -/
import Derived.Test.YtklmhllelgjglaaGreatOpsKc
namespace Go.Tr
open Go
set_option linter.unusedVariables false
set_option linter.unusedSimpArgs false
set_option maxRecDepth 100000
set_option maxHeartbeats 4000000
end Go.Tr
