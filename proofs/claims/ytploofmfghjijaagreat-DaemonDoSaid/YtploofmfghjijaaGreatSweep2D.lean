/- The functions that these laws reach, as Lean functions: printed by a program of this session's. Conditions: none. -/
import Derived.Test.YtploofmfghjijaaGreatBD
import Derived.Test.YtploofmfghjijaaGreatBE
import Derived.Test.YtploofmfghjijaaGreatMacD
import Derived.Test.YtploofmfghjijaaGreatCodec1D
import Derived.Test.YtploofmfghjijaaGreatSweepD
namespace Go.Tr
open Go
noncomputable section
set_option linter.unusedVariables false
set_option maxRecDepth 100000
def Od(i j:Int)(xs:List aH):Option (List aH×Unit):=
 EG xs i j
def yY(ss:List aH)(b:Int×Int):Option (Int×(List aH)×Unit):=
 ao (JI ss b) fun y0=>
 ay (decide (y0.1<(0:Int))) (
 some ((7:Int),[],())) (
 ao (yV ss) fun y1=>
 ab (IntKind.i64.wrap (y0.1+(1:Int))) fun v2=>
 ao (Od y0.1 v2 y1.1) fun y3=>
 some ((0:Int),y3.1,()))
end
end Go.Tr
