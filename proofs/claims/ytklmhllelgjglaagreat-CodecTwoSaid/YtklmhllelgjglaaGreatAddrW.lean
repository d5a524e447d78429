/- Bounds of a law's arguments, as the laws of addresses want them. Conditions: none. -/
import Derived.Test.YtklmhllelgjglaaGreatTrW
import Derived.Test.YtklmhllelgjglaaGreatAddrS
namespace Go.Tr
open Go
end Go.Tr
