/- errors.is and errors.Is walked, at a number: printed by a program of ours. Conditions: none but those that each theorem states. -/
import Derived.Test.YtfaaeeabiikhbaaGreatDoorErrWb
namespace Go.Proofs
open Go.RowKit Go.Extern.Stop Go.Stop Go.Extern Go.Tr
set_option maxRecDepth 100000
set_option linter.unusedVariables false
set_option linter.unusedSimpArgs false
end Go.Proofs
