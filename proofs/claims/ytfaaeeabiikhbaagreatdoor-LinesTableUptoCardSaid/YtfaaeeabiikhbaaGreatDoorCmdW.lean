/- Bounds of a law's arguments, as the laws of commands want them. Conditions: none. -/
import Derived.Test.YtfaaeeabiikhbaaGreatDoorTrW
import Derived.Test.YtfaaeeabiikhbaaGreatDoorAddrW2
import Derived.Test.YtfaaeeabiikhbaaGreatDoorCmdKc
namespace Go.Tr
open Go
theorem i64_wf' {M : Nat} {a : Int} (h : wfS M (.int .i64) a) : i64 a := ⟨h.1, h.2⟩
theorem u8_wf2 {M : Nat} {a : Int} (h : wfS M (.int .u8) a) : 0 ≤ a ∧ a ≤ 255 := ⟨h.1, h.2⟩
end Go.Tr
