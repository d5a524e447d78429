/- Bounds of a law's arguments, as the laws of acts want them. Conditions: none. -/
import Derived.Test.YtklmhllelgjglaaGreatTrW
import Derived.Test.YtklmhllelgjglaaGreatAddrW
import Derived.Test.YtklmhllelgjglaaGreatScriptS
namespace Go.Tr
open Go
end Go.Tr
