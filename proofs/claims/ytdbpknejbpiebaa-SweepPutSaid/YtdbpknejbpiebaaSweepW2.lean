/- Bounds of a law's arguments, as the law of prefixes that are put wants them. Conditions: none. -/
import Derived.Test.YtdbpknejbpiebaaSweepW
import Derived.Test.YtdbpknejbpiebaaSweepM
namespace Go.Tr
open Go
theorem base_wf {M : Nat} {b : Int × Int} (h : wfS M (.pair (.int .u32) (.int .i64)) b) : in32 b.1 := u32_wf h.1
end Go.Tr
