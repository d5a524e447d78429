/- Bounds of a law's arguments, as the laws of stations want them. Conditions: none. -/
import Derived.Test.YtfaaeeabiikhbaaGreatDoorTrW
import Derived.Test.YtfaaeeabiikhbaaGreatDoorMacS
namespace Go.Tr
open Go
end Go.Tr
