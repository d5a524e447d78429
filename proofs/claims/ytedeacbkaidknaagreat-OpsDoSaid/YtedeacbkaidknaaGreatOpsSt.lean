/- Who is not seen any more is proposed to be given back. Conditions: none but the numbers' bounds. -/
import Derived.Test.YtedeacbkaidknaaGreatOpsFe
namespace Go.Tr
open Go
set_option linter.unusedVariables false
set_option linter.unusedSimpArgs false
set_option maxRecDepth 100000
set_option maxHeartbeats 4000000
end Go.Tr
