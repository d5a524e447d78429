/- The statements' own reading of a command is the same. The statements' own reading of a command is the program's. Conditions: none but those that each theorem states. -/
import Derived.Test.YtfaaeeabiikhbaaGreatDoorCmdKa
namespace Go.Tr
open Go
set_option linter.unusedVariables false
set_option linter.unusedSimpArgs false
set_option maxRecDepth 100000
set_option maxHeartbeats 4000000
def wds : List (List UInt8) := [[], [104, 111, 108, 100], [100, 114, 111, 112], [119, 97, 116, 99, 104], [105, 103, 110, 111, 114, 101], [], [97, 112, 112, 114, 111, 118, 101], [114, 101, 106, 101, 99, 116]]
theorem words_eq : terrierlaw17_words = some (wds, ()) := rfl
end Go.Tr
namespace Go.Tr
open Go
set_option linter.unusedVariables false
set_option linter.unusedSimpArgs false
set_option maxRecDepth 100000
set_option maxHeartbeats 4000000
end Go.Tr
