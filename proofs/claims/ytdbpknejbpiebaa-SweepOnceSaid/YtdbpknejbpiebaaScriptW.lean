/- Bounds of a law's arguments, as the laws of acts want them. Conditions: none. -/
import Derived.Test.YtdbpknejbpiebaaTrW
import Derived.Test.YtdbpknejbpiebaaAddrW
import Derived.Test.YtdbpknejbpiebaaScriptS
namespace Go.Tr
open Go
end Go.Tr
