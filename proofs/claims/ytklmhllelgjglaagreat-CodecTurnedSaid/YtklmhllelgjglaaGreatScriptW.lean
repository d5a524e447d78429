/- Bounds of a law's arguments, as the laws of acts want them. Conditions: none. -/
import Derived.Test.YtklmhllelgjglaaGreatTrW
import Derived.Test.YtklmhllelgjglaaGreatAddrW
import Derived.Test.YtklmhllelgjglaaGreatScriptS
namespace Go.Tr
open Go
theorem by_wf {M : Nat} {a : Int} (h : wfS M (.int .u8) a) : by8 a := by
  have h1 : (0 : Int) ≤ a := h.1
  have h2 : a ≤ 255 := h.2
  exact ⟨h1, by omega⟩
theorem bys_wf {M : Nat} {b : List Int} (h : wfS M (.sl (.int .u8)) b) : by8s b := by
  intro c hc
  obtain ⟨i, hi, rfl⟩ := List.mem_iff_getElem.1 hc
  exact by_wf (h.2 i hi)
end Go.Tr
