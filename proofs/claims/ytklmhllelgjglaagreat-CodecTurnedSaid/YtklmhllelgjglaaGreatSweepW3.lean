/- Bounds of a law's arguments, as the law of a prefix that is swept alone wants them. Conditions: none. -/
import Derived.Test.YtklmhllelgjglaaGreatScriptW
import Derived.Test.YtklmhllelgjglaaGreatSweepV
namespace Go.Tr
open Go
theorem u16b_wf {M : Nat} {a : Int} (h : wfS M (.int .u16) a) : 0 ≤ a ∧ a < 65536 := by
  have h1 : (0 : Int) ≤ a := h.1
  have h2 : a ≤ 65535 := h.2
  exact ⟨h1, by omega⟩
end Go.Tr
