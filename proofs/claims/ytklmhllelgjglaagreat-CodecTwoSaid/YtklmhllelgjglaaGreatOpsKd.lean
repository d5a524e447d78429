/- What holds behind each event: how many packets, how long the rows, that states are right. At the last hour nothing moves; a fresh lease is news. Who is seen has no open case. Who is not seen any more is proposed to be given back. Conditions: none but those that each theorem states. -/
import Derived.Test.YtklmhllelgjglaaGreatOpsW
namespace Go.Tr
open Go
set_option linter.unusedVariables false
set_option linter.unusedSimpArgs false
set_option maxRecDepth 100000
set_option maxHeartbeats 4000000
end Go.Tr
namespace Go.Tr
open Go
set_option linter.unusedVariables false
set_option linter.unusedSimpArgs false
set_option maxRecDepth 100000
set_option maxHeartbeats 4000000
end Go.Tr
namespace Go.Tr
open Go
set_option linter.unusedVariables false
set_option linter.unusedSimpArgs false
set_option maxRecDepth 100000
set_option maxHeartbeats 4000000
end Go.Tr
namespace Go.Tr
open Go
set_option linter.unusedVariables false
set_option linter.unusedSimpArgs false
set_option maxRecDepth 100000
set_option maxHeartbeats 4000000
end Go.Tr
