/- Bounds of a law's arguments, as the laws of addresses want them. Conditions: none. -/
import Derived.Test.YtfaaeeabiikhbaaGreatDoorTrW
import Derived.Test.YtfaaeeabiikhbaaGreatDoorAddrT
namespace Go.Tr
open Go
theorem i8_wf' {M : Nat} {a : Int} (h : wfS M (.int .i8) a) : -128 ≤ a ∧ a ≤ 127 := by
  have h1 : (-128 : Int) ≤ a := h.1
  have h2 : a ≤ 127 := h.2
  exact ⟨h1, h2⟩
end Go.Tr
