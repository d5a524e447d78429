/- Bounds of a law's arguments, as the law of a tick that asks nobody twice wants them. Conditions: none. -/
import Derived.Test.YtdbpknejbpiebaaScriptW
import Derived.Test.YtdbpknejbpiebaaSwoL
namespace Go.Tr
open Go
theorem b8_wf {M : Nat} {a : Int} (h : wfS M (.int .u8) a) : 0 ≤ a ∧ a < 256 := by
  have h1 : (0 : Int) ≤ a := h.1
  have h2 : a ≤ 255 := h.2
  exact ⟨h1, by omega⟩
end Go.Tr
