/- Bounds of a law's arguments, as the law of a tick's plan wants them. Conditions: none. -/
import Derived.Test.YtdbpknejbpiebaaScriptW
import Derived.Test.YtdbpknejbpiebaaSweepY
namespace Go.Tr
open Go
theorem i8b_wf {M : Nat} {a : Int} (h : wfS M (.int .i8) a) : -128 ≤ a ∧ a ≤ 127 := ⟨h.1, h.2⟩
end Go.Tr
