/- Bounds of a law's arguments, as the laws of addresses want them. Conditions: none. -/
import Derived.Test.YtphocpikombblaaTrW
import Derived.Test.YtphocpikombblaaAddrS
namespace Go.Tr
open Go
end Go.Tr
