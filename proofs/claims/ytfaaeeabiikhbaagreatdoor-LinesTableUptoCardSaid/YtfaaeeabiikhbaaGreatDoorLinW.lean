/- Bounds of a law's arguments, as the laws of lines want them. Conditions: none. -/
import Derived.Test.YtfaaeeabiikhbaaGreatDoorTrW
import Derived.Test.YtfaaeeabiikhbaaGreatDoorAddrW2
import Derived.Test.YtfaaeeabiikhbaaGreatDoorMacW
import Derived.Test.YtfaaeeabiikhbaaGreatDoorCmdW
import Derived.Test.YtfaaeeabiikhbaaGreatDoorLinKb
namespace Go.Tr
open Go
abbrev sWords : Sh := .pair (.int .u32) (.pair (.pair (.int .u8) (.pair (.int .u8) (.pair (.int .u8) (.pair (.int .u8) (.pair (.int .u8) (.int .u8)))))) (.pair (.int .u8) (.pair (.int .i64) (.pair (.int .u8) .str))))
theorem words_wf {M : Nat} {s : TWords} (h : wfS M sWords s) : WordsOk M s :=
  ⟨u32_wf' h.1, m6_wf h.2.1, u8_wf2 h.2.2.1, i64_wf' h.2.2.2.1, u8_wf2 h.2.2.2.2.1, str_wf' h.2.2.2.2.2⟩
end Go.Tr
