/- Bounds of a law's arguments, as the law of a prefix that is swept alone wants them. Conditions: none. -/
import Derived.Test.YtklmhllelgjglaaGreatScriptW
import Derived.Test.YtklmhllelgjglaaGreatSweepV
namespace Go.Tr
open Go
end Go.Tr
