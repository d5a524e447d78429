/- Bounds of a law's arguments, as the law of events wants them. Conditions: none. -/
import Derived.Test.YtdbpknejbpiebaaAddrW
import Derived.Test.YtdbpknejbpiebaaMacW
import Derived.Test.YtdbpknejbpiebaaCodecS
namespace Go.Tr
open Go
theorem i64_wf {M : Nat} {a : Int} (h : wfS M (.int .i64) a) : -9223372036854775808 ≤ a ∧ a ≤ 9223372036854775807 := ⟨h.1, h.2⟩
end Go.Tr
