/- Bounds of a law's arguments, as the laws of stations want them. Conditions: none. -/
import Derived.Test.YtfaaeeabiikhbaaGreatDoorTrW
import Derived.Test.YtfaaeeabiikhbaaGreatDoorMacS
namespace Go.Tr
open Go
theorem u8_wf {M : Nat} {a : Int} (h : wfS M (.int .u8) a) : by8 a := by
  have h1 : (0 : Int) ≤ a := h.1
  have h2 : a ≤ 255 := h.2
  exact ⟨h1, by omega⟩
theorem m6_wf {M : Nat} {m : M6} (h : wfS M (.pair (.int .u8) (.pair (.int .u8) (.pair (.int .u8) (.pair (.int .u8) (.pair (.int .u8) (.int .u8)))))) m) : M6ok m :=
  ⟨u8_wf h.1, u8_wf h.2.1, u8_wf h.2.2.1, u8_wf h.2.2.2.1, u8_wf h.2.2.2.2.1, u8_wf h.2.2.2.2.2⟩
end Go.Tr
