/- Acts of bytes: what the printed functions of layer 22 come to. Acts of bytes: one act, all of them. The laws of acts of bytes. Conditions: none but those that each theorem states. -/
import Derived.Test.YtdbpknejbpiebaaMacS
import Derived.Test.YtdbpknejbpiebaaAddrS
import Derived.Test.YtdbpknejbpiebaaScriptD
namespace Go.Tr
open Go
set_option linter.unusedVariables false
set_option linter.unusedSimpArgs false
set_option maxRecDepth 100000
set_option maxHeartbeats 4000000
end Go.Tr
namespace Go.Tr
open Go
set_option linter.unusedVariables false
set_option linter.unusedSimpArgs false
set_option maxRecDepth 100000
set_option maxHeartbeats 4000000
end Go.Tr
namespace Go.Tr
open Go
set_option linter.unusedVariables false
set_option linter.unusedSimpArgs false
set_option maxRecDepth 100000
set_option maxHeartbeats 4000000
end Go.Tr
