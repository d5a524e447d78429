/- Bounds of a law's arguments, as the laws of acts want them. Conditions: none. -/
import Derived.Test.YtfaaeeabiikhbaaDoorTrW
import Derived.Test.YtfaaeeabiikhbaaDoorAddrW
import Derived.Test.YtfaaeeabiikhbaaDoorScriptS
namespace Go.Tr
open Go
theorem by_wf {M : Nat} {a : Int} (h : wfS M (.int .u8) a) : by8 a := by
  have h1 : (0 : Int) ≤ a := h.1
  have h2 : a ≤ 255 := h.2
  exact ⟨h1, by omega⟩
end Go.Tr
