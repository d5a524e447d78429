/- Bounds of a law's arguments, as the laws of commands want them. Conditions: none. -/
import Derived.Test.YtfaaeeabiikhbaaGreatDoorTrW
import Derived.Test.YtfaaeeabiikhbaaGreatDoorAddrW2
import Derived.Test.YtfaaeeabiikhbaaGreatDoorCmdKc
namespace Go.Tr
open Go
theorem u8_wf2 {M : Nat} {a : Int} (h : wfS M (.int .u8) a) : 0 ≤ a ∧ a ≤ 255 := ⟨h.1, h.2⟩
abbrev sSay : Sh := .pair (.int .u8) (.pair (.int .u32) (.pair (.int .u8) (.pair (.int .u8) (.pair (.int .u8) (.pair (.int .u8) .str)))))
theorem say_wf {M : Nat} (hM : M ≤ 281474976710656) {s : TSay} (h : wfS M sSay s) : SayOk 281474976710656 s :=
  ⟨u8_wf2 h.1, u32_wf' h.2.1, u8_wf2 h.2.2.1, u8_wf2 h.2.2.2.1, u8_wf2 h.2.2.2.2.1, u8_wf2 h.2.2.2.2.2.1, Nat.le_trans (str_wf' h.2.2.2.2.2.2) hM⟩
end Go.Tr
