/- The functions that these laws reach, as Lean functions: printed by a program of this session's. Conditions: none. -/
import Derived.Test.YtklmhllelgjglaaGreatBD
import Derived.Test.YtklmhllelgjglaaGreatBE
import Derived.Test.YtklmhllelgjglaaGreatAddrD
import Derived.Test.YtklmhllelgjglaaGreatCodec1D
import Derived.Test.YtklmhllelgjglaaGreatCodec2D
import Derived.Test.YtklmhllelgjglaaGreatMacD
import Derived.Test.YtklmhllelgjglaaGreatOpsD
import Derived.Test.YtklmhllelgjglaaGreatSweepD
import Derived.Test.YtklmhllelgjglaaGreatSweep2D
namespace Go.Tr
open Go
set_option linter.unusedVariables false
set_option maxRecDepth 100000
noncomputable def terrierlaw19_CodecTwo (x : Int × Int × Int × Int × Int × Int × Int × Int × Int) (a' : List TMac) (b : List TMac) : Option (Bool × Unit) :=
  bnd (terrierlaw19_awake) fun y0 =>
  cnd (!y0.fst) (
   some (false, ())) (
   bnd (terrierlaw10_Choice_Config (x)) fun y1 =>
   bnd (terrierlaw18_Some (y1.fst) (a')) fun y2 =>
   bnd (terrierlaw10_Choice_Config (x)) fun y3 =>
   bnd (terrierlaw18_Some (y3.fst) (b)) fun y4 =>
   bnd (codec_State (y2.fst)) fun y5 =>
   ltO (toBytes y5.fst) fun (v6 : List UInt8) =>
   bnd (codec_State (y4.fst)) fun y7 =>
   ltO (toBytes y7.fst) fun (v8 : List UInt8) =>
   ltO (v6 == v8) fun (v9 : Bool) =>
   bnd (terrierlaw18_Same (y2.fst) (y4.fst)) fun y10 =>
   ltO (v9 == y10.fst) fun (v11 : Bool) =>
   some (v11, ()))
end Go.Tr
