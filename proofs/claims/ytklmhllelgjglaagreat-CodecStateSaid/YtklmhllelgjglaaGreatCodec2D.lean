/- The functions that these laws reach, as Lean functions: printed by a program of this session's. Conditions: none. -/
import Derived.Test.YtklmhllelgjglaaGreatBD
import Derived.Test.YtklmhllelgjglaaGreatBE
import Derived.Test.YtklmhllelgjglaaGreatAddrD
import Derived.Test.YtklmhllelgjglaaGreatCodec1D
import Derived.Test.YtklmhllelgjglaaGreatMacD
namespace Go.Tr
open Go
set_option linter.unusedVariables false
set_option maxRecDepth 100000
noncomputable def terrierlaw19_sight (x : Int × TMac × Int) : Option ((List UInt8) × Unit) :=
  bnd (terrierlaw19_put (x.fst) ((1 : Int))) fun y0 =>
  chk ((0 : Int) ≤ (0 : Int) ∧ (0 : Int) ≤ (6 : Int) ∧ (6 : Int) ≤ (6 : Int)) <|
  ltO (toBytes [x.snd.fst.fst, x.snd.fst.snd.fst, x.snd.fst.snd.snd.fst, x.snd.fst.snd.snd.snd.fst, x.snd.fst.snd.snd.snd.snd.fst, x.snd.fst.snd.snd.snd.snd.snd]) fun (v1 : List UInt8) =>
  chk ((↑(y0.fst.length + v1.length) : Int) ≤ (9223372036854775807 : Int)) <|
  ltO (y0.fst ++ v1) fun (v2 : List UInt8) =>
  bnd (terrierlaw19_put (x.snd.snd) ((8 : Int))) fun y3 =>
  chk ((↑(v2.length + y3.fst.length) : Int) ≤ (9223372036854775807 : Int)) <|
  ltO (v2 ++ y3.fst) fun (v4 : List UInt8) =>
  some (v4, ())
end Go.Tr
