/- The functions that these laws reach, as Lean functions: printed by a program of this session's. Conditions: none. -/
import Derived.Test.YtklmhllelgjglaaGreatBD
import Derived.Test.YtklmhllelgjglaaGreatBE
import Derived.Test.YtklmhllelgjglaaGreatAddrD
import Derived.Test.YtklmhllelgjglaaGreatCodec1D
import Derived.Test.YtklmhllelgjglaaGreatMacD
namespace Go.Tr
open Go
set_option linter.unusedVariables false
set_option maxRecDepth 100000
noncomputable def terrierlaw18_Right (s' : Int × Int × (List THold) × (List TSweep) × (List (Int × List TSight)) × (List TProbe) × List (Int × Int × Int × Int)) : Option (Bool × Unit) :=
  chk (decide (s'.fst ≥ (0 : Int)) = true → decide (s'.fst ≥ (0 : Int)) = true) <|
  chk (decide (s'.fst ≥ (0 : Int)) = true → decide (s'.fst ≥ (0 : Int)) = true) <|
  chk (decide (s'.fst ≥ (0 : Int)) = true → decide (s'.fst ≥ (0 : Int)) = true) <|
  ltO (decide (s'.fst ≥ (0 : Int)) && decide (s'.fst ≤ (1099511627776 : Int))) fun (v0 : Bool) =>
  chk (v0 = true → v0 = true) <|
  chk (v0 = true → v0 = true) <|
  chk (v0 = true → v0 = true) <|
  ltO (v0 && decide (s'.snd.fst ≥ (0 : Int))) fun (v1 : Bool) =>
  chk (v1 = true → v1 = true) <|
  chk (v1 = true → v1 = true) <|
  chk (v1 = true → v1 = true) <|
  ltO (v1 && decide (s'.snd.fst < (65536 : Int))) fun (v2 : Bool) =>
  chk (v2 = true → v2 = true) <|
  chk (v2 = true → v2 = true) <|
  bndG (v2) (held_Right (s'.snd.snd.fst)) (false, ()) fun y3 =>
  chk (v2 = true → v2 = true) <|
  ltO (v2 && y3.fst) fun (v4 : Bool) =>
  chk (v4 = true → v4 = true) <|
  chk (v4 = true → v4 = true) <|
  bndG (v4) (seen_Right (s'.snd.snd.snd.snd.fst)) (false, ()) fun y5 =>
  chk (v4 = true → v4 = true) <|
  ltO (v4 && y5.fst) fun (v6 : Bool) =>
  chk (v6 = true → v6 = true) <|
  chk (v6 = true → v6 = true) <|
  bndG (v6) (sweep_Right (s'.snd.snd.snd.fst)) (false, ()) fun y7 =>
  chk (v6 = true → v6 = true) <|
  ltO (v6 && y7.fst) fun (v8 : Bool) =>
  chk (v8 = true → v8 = true) <|
  chk (v8 = true → v8 = true) <|
  bndG (v8) (probe_Right (s'.snd.snd.snd.snd.snd.fst)) (false, ()) fun y9 =>
  chk (v8 = true → v8 = true) <|
  ltO (v8 && y9.fst) fun (v10 : Bool) =>
  chk (v10 = true → v10 = true) <|
  chk (v10 = true → v10 = true) <|
  bndG (v10) (cases_Right (s'.snd.snd.snd.snd.snd.snd)) (false, ()) fun y11 =>
  chk (v10 = true → v10 = true) <|
  ltO (v10 && y11.fst) fun (v12 : Bool) =>
  some (v12, ())
noncomputable def terrierlaw19_sight (x : Int × TMac × Int) : Option ((List UInt8) × Unit) :=
  bnd (terrierlaw19_put (x.fst) ((1 : Int))) fun y0 =>
  chk ((0 : Int) ≤ (0 : Int) ∧ (0 : Int) ≤ (6 : Int) ∧ (6 : Int) ≤ (6 : Int)) <|
  ltO (toBytes [x.snd.fst.fst, x.snd.fst.snd.fst, x.snd.fst.snd.snd.fst, x.snd.fst.snd.snd.snd.fst, x.snd.fst.snd.snd.snd.snd.fst, x.snd.fst.snd.snd.snd.snd.snd]) fun (v1 : List UInt8) =>
  chk ((↑(y0.fst.length + v1.length) : Int) ≤ (9223372036854775807 : Int)) <|
  ltO (y0.fst ++ v1) fun (v2 : List UInt8) =>
  bnd (terrierlaw19_put (x.snd.snd) ((8 : Int))) fun y3 =>
  chk ((↑(v2.length + y3.fst.length) : Int) ≤ (9223372036854775807 : Int)) <|
  ltO (v2 ++ y3.fst) fun (v4 : List UInt8) =>
  some (v4, ())
end Go.Tr
