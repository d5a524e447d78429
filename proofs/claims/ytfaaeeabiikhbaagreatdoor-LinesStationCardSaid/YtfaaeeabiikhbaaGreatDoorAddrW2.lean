/- Bounds of a law's arguments, as the laws of addresses want them. Conditions: none. -/
import Derived.Test.YtfaaeeabiikhbaaGreatDoorTrW
import Derived.Test.YtfaaeeabiikhbaaGreatDoorAddrT
namespace Go.Tr
open Go
theorem u32_wf' {M : Nat} {a : Int} (h : wfS M (.int .u32) a) : in32 a := by
  have h1 : (0 : Int) ≤ a := h.1
  have h2 : a ≤ 4294967295 := h.2
  exact ⟨h1, by omega⟩
end Go.Tr
