/- The functions that these laws reach, as Lean functions: printed by a program of this session's. Conditions: none. -/
import Derived.Test.YtphocpikombblaaBD
import Derived.Test.YtphocpikombblaaBE
import Derived.Test.YtphocpikombblaaAddrD
import Derived.Test.YtphocpikombblaaCodec1D
namespace Go.Tr
open Go
set_option linter.unusedVariables false
set_option maxRecDepth 100000
end Go.Tr
