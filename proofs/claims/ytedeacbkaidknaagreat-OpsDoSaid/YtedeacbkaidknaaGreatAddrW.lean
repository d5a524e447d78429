/- Bounds of a law's arguments, as the laws of addresses want them. Conditions: none. -/
import Derived.Test.YtedeacbkaidknaaGreatTrW
import Derived.Test.YtedeacbkaidknaaGreatAddrS
namespace Go.Tr
open Go
end Go.Tr
