/- Bounds of a law's arguments, as the laws of commands want them. Conditions: none. -/
import Derived.Test.YtfaaeeabiikhbaaGreatDoorTrW
import Derived.Test.YtfaaeeabiikhbaaGreatDoorAddrW2
import Derived.Test.YtfaaeeabiikhbaaGreatDoorCmdKc
namespace Go.Tr
open Go
end Go.Tr
