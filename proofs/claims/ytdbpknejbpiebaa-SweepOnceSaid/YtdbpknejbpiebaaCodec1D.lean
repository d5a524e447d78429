/- The functions that these laws reach, as Lean functions: printed by a program of this session's. Conditions: none. -/
import Derived.Test.YtdbpknejbpiebaaBD
import Derived.Test.YtdbpknejbpiebaaBE
import Derived.Test.YtdbpknejbpiebaaAddrD
import Derived.Test.YtdbpknejbpiebaaMacD
namespace Go.Tr
open Go
set_option linter.unusedVariables false
set_option maxRecDepth 100000
noncomputable def clock_Clamp (n : Int) : Option (Int × Unit) :=
  some (if (if (1099511627776 : Int) < n then (1099511627776 : Int) else n) > (0 : Int) then if (1099511627776 : Int) < n then (1099511627776 : Int) else n else (0 : Int), ())
end Go.Tr
