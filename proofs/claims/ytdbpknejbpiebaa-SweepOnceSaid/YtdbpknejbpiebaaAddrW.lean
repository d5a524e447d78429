/- Bounds of a law's arguments, as the laws of addresses want them. Conditions: none. -/
import Derived.Test.YtdbpknejbpiebaaTrW
import Derived.Test.YtdbpknejbpiebaaAddrS
namespace Go.Tr
open Go
end Go.Tr
