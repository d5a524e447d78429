/- The laws of addresses: four numbers. The laws of addresses: prefixes made, written and read. The laws of addresses: prefixes that are none. The laws of addresses: which prefixes lie in which. The laws of addresses: halves. Conditions: none but those that each theorem states. -/
import Derived.Test.YtfaaeeabiikhbaaGreatDoorAddrS
namespace Go.Tr
open Go
set_option linter.unusedVariables false
set_option linter.unusedSimpArgs false
set_option maxRecDepth 100000
set_option maxHeartbeats 1000000
end Go.Tr
namespace Go.Tr
open Go
set_option linter.unusedVariables false
set_option linter.unusedSimpArgs false
set_option maxRecDepth 100000
set_option maxHeartbeats 1000000
end Go.Tr
namespace Go.Tr
open Go
set_option linter.unusedVariables false
set_option linter.unusedSimpArgs false
set_option maxRecDepth 100000
set_option maxHeartbeats 1000000
end Go.Tr
namespace Go.Tr
open Go
set_option linter.unusedVariables false
set_option linter.unusedSimpArgs false
set_option maxRecDepth 100000
set_option maxHeartbeats 1000000
structure BlkOK (b : Int × Int) : Prop where
  r : rB b = true
  i : in32 b.1
  n : 20 ≤ b.2 ∧ b.2 ≤ 32
  w : 1 ≤ Wd b.2 ∧ Wd b.2 ≤ 4096
  d : b.1 % Wd b.2 = 0
  t : b.1 + Wd b.2 ≤ 4294967296
end Go.Tr
namespace Go.Tr
open Go
set_option linter.unusedVariables false
set_option linter.unusedSimpArgs false
set_option maxRecDepth 100000
set_option maxHeartbeats 1000000
end Go.Tr
