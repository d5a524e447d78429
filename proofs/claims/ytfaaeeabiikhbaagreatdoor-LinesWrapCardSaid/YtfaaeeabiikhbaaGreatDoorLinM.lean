/- The statements' own reading of a number. Conditions: the text's length. -/
import Derived.Test.YtfaaeeabiikhbaaGreatDoorLinL
namespace Go.Tr
open Go
set_option linter.unusedVariables false
set_option linter.unusedSimpArgs false
set_option maxRecDepth 100000
set_option maxHeartbeats 4000000
theorem i64_in (n : Int) : i64 (IntKind.i64.wrap n) := by unfold i64; rw [i64_wrap]; omega
end Go.Tr
