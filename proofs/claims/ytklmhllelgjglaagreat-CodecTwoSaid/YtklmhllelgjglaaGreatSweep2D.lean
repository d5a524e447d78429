/- The functions that these laws reach, as Lean functions: printed by a program of this session's. Conditions: none. -/
import Derived.Test.YtklmhllelgjglaaGreatBD
import Derived.Test.YtklmhllelgjglaaGreatBE
import Derived.Test.YtklmhllelgjglaaGreatAddrD
import Derived.Test.YtklmhllelgjglaaGreatCodec1D
import Derived.Test.YtklmhllelgjglaaGreatSweepD
namespace Go.Tr
open Go
set_option linter.unusedVariables false
set_option maxRecDepth 100000
noncomputable def slices_Delete_Sweep (i j : Int) (xs : List TSweep) : Option (List TSweep × Unit) :=
  deleteF xs i j
noncomputable def sweep_Take (ss : List TSweep) (b : Int × Int) : Option (Int × (List TSweep) × Unit) :=
  bnd (slices_IndexFunc_v1_w1 (ss) (b)) fun y0 =>
  cnd (decide (y0.fst < (0 : Int))) (
   some ((7 : Int), [], ())) (
   bnd (slices_Clone_Sweep (ss)) fun y1 =>
   ltO (IntKind.i64.wrap (y0.fst + (1 : Int))) fun (v2 : Int) =>
   bnd (slices_Delete_Sweep (y0.fst) (v2) (y1.fst)) fun y3 =>
   some ((0 : Int), y3.fst, ()))
end Go.Tr
