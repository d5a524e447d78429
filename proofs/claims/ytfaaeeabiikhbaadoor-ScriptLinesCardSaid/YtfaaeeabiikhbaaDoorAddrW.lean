/- Bounds of a law's arguments, as the laws of addresses want them. Conditions: none. -/
import Derived.Test.YtfaaeeabiikhbaaDoorTrW
import Derived.Test.YtfaaeeabiikhbaaDoorAddrS
namespace Go.Tr
open Go
end Go.Tr
