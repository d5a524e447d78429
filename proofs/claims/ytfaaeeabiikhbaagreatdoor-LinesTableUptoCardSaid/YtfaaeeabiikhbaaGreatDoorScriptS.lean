/- Acts of bytes: what the printed functions of layer 22 come to. Acts of bytes: one act, all of them. The laws of acts of bytes. Conditions: none but those that each theorem states. -/
import Derived.Test.YtfaaeeabiikhbaaGreatDoorMacS
import Derived.Test.YtfaaeeabiikhbaaGreatDoorAddrS
import Derived.Test.YtfaaeeabiikhbaaGreatDoorScriptD
namespace Go.Tr
open Go
set_option linter.unusedVariables false
set_option linter.unusedSimpArgs false
set_option maxRecDepth 100000
set_option maxHeartbeats 4000000
structure EvOk (e : TEv) : Prop where
  a : in32 e.2.1.1
  m : M6ok e.2.1.2.2
  o : e.2.1.2.1.length ≤ 140737488355328
  b : in32 e.2.2.1.1
  bb : e.1 = 3 ∨ e.1 = 4 → bo e.2.2.1.2
theorem lowT_len (m : M6) : (lowT m).length = 17 := rfl
end Go.Tr
namespace Go.Tr
open Go
set_option linter.unusedVariables false
set_option linter.unusedSimpArgs false
set_option maxRecDepth 100000
set_option maxHeartbeats 4000000
end Go.Tr
namespace Go.Tr
open Go
set_option linter.unusedVariables false
set_option linter.unusedSimpArgs false
set_option maxRecDepth 100000
set_option maxHeartbeats 4000000
end Go.Tr
