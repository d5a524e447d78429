/- Bounds of a law's arguments, as the laws of lines want them. Conditions: none. -/
import Derived.Test.YtfaaeeabiikhbaaGreatDoorTrW
import Derived.Test.YtfaaeeabiikhbaaGreatDoorAddrW2
import Derived.Test.YtfaaeeabiikhbaaGreatDoorMacW
import Derived.Test.YtfaaeeabiikhbaaGreatDoorCmdW
import Derived.Test.YtfaaeeabiikhbaaGreatDoorLinKb
namespace Go.Tr
open Go
end Go.Tr
