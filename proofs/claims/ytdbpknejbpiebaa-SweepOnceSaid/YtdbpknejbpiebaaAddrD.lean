/- The functions that these laws reach, as Lean functions: printed by a program of this session's. Conditions: none. -/
import Derived.Test.YtdbpknejbpiebaaBD
import Derived.Test.YtdbpknejbpiebaaBE
namespace Go.Tr
open Go
set_option linter.unusedVariables false
set_option maxRecDepth 100000
noncomputable def addr_mask (bits : Int) : Option (Int × Unit) :=
  ltO (IntKind.i64.wrap ((32 : Int) - bits)) fun (v0 : Int) =>
  chk ((0 : Int) ≤ v0) <|
  ltO (shlI IntKind.u32 (4294967295 : Int) v0) fun (v1 : Int) =>
  some (v1, ())
noncomputable def addr_Right (b : Int × Int) : Option (Bool × Unit) :=
  chk (decide (b.snd ≥ (0 : Int)) = true → decide (b.snd ≥ (0 : Int)) = true) <|
  chk (decide (b.snd ≥ (0 : Int)) = true → decide (b.snd ≥ (0 : Int)) = true) <|
  chk (decide (b.snd ≥ (0 : Int)) = true → decide (b.snd ≥ (0 : Int)) = true) <|
  ltO (decide (b.snd ≥ (0 : Int)) && decide (b.snd ≤ (32 : Int))) fun (v0 : Bool) =>
  chk (v0 = true → v0 = true) <|
  chk (v0 = true → v0 = true) <|
  chk (v0 = true → v0 = true) <|
  bndG (v0) (addr_mask (b.snd)) ((0 : Int), ()) fun y1 =>
  chk (v0 = true → v0 = true) <|
  chk (v0 = true → v0 = true) <|
  ltO (IntKind.u32.wrap (bandnI IntKind.u32 b.fst y1.fst)) fun (v2 : Int) =>
  chk (v0 = true → v0 = true) <|
  ltO (v2 == (0 : Int)) fun (v3 : Bool) =>
  chk (v0 = true → v0 = true) <|
  ltO (v0 && v3) fun (v4 : Bool) =>
  some (v4, ())
noncomputable def addr_Size (b : Int × Int) : Option (Int × Unit) :=
  bnd (addr_Right (b)) fun y0 =>
  cnd (!y0.fst) (
   some ((0 : Int), ())) (
   ltO (IntKind.i64.wrap ((32 : Int) - b.snd)) fun (v1 : Int) =>
   chk ((0 : Int) ≤ v1) <|
   ltO (shlI IntKind.i64 (1 : Int) v1) fun (v2 : Int) =>
   some (v2, ()))
noncomputable def terrierlaw01_Block (a' : Int) (bits : Int) : Option ((Int × Int) × Unit) :=
  chk (¬(13 : Int) = (0 : Int)) <|
  ltO (bits.tmod (13 : Int)) fun (v0 : Int) =>
  ltO (IntKind.i64.wrap v0) fun (v1 : Int) =>
  ltO (IntKind.i64.wrap ((20 : Int) + v1)) fun (v2 : Int) =>
  ltO (IntKind.i64.wrap ((32 : Int) - v2)) fun (v3 : Int) =>
  chk ((0 : Int) ≤ v3) <|
  ltO (shrI IntKind.u32 a' v3) fun (v4 : Int) =>
  ltO (IntKind.i64.wrap ((32 : Int) - v2)) fun (v5 : Int) =>
  chk ((0 : Int) ≤ v5) <|
  ltO (shlI IntKind.u32 v4 v5) fun (v6 : Int) =>
  some ((v6, v2), ())
noncomputable def addr_Has (b : Int × Int) (a' : Int) : Option (Bool × Unit) :=
  bnd (addr_Right (b)) fun y0 =>
  chk (y0.fst = true → y0.fst = true) <|
  chk (y0.fst = true → y0.fst = true) <|
  bndG (y0.fst) (addr_mask (b.snd)) ((0 : Int), ()) fun y1 =>
  chk (y0.fst = true → y0.fst = true) <|
  chk (y0.fst = true → y0.fst = true) <|
  ltO (IntKind.u32.wrap (bandI IntKind.u32 a' y1.fst)) fun (v2 : Int) =>
  chk (y0.fst = true → y0.fst = true) <|
  chk (y0.fst = true → y0.fst = true) <|
  chk (y0.fst = true → y0.fst = true) <|
  ltO (v2 == b.fst) fun (v3 : Bool) =>
  chk (y0.fst = true → y0.fst = true) <|
  ltO (y0.fst && v3) fun (v4 : Bool) =>
  some (v4, ())
noncomputable def addr_Within (in' : Int × Int) (out : Int × Int) : Option (Bool × Unit) :=
  bnd (addr_Right (in')) fun y0 =>
  chk (y0.fst = true → y0.fst = true) <|
  bndG (y0.fst) (addr_Right (out)) (false, ()) fun y1 =>
  chk (y0.fst = true → y0.fst = true) <|
  ltO (y0.fst && y1.fst) fun (v2 : Bool) =>
  chk (v2 = true → v2 = true) <|
  chk (v2 = true → v2 = true) <|
  chk (v2 = true → v2 = true) <|
  chk (v2 = true → v2 = true) <|
  chk (v2 = true → v2 = true) <|
  ltO (v2 && decide (in'.snd ≥ out.snd)) fun (v3 : Bool) =>
  chk (v3 = true → v3 = true) <|
  chk (v3 = true → v3 = true) <|
  chk (v3 = true → v3 = true) <|
  bndG (v3) (addr_Has (out) (in'.fst)) (false, ()) fun y4 =>
  chk (v3 = true → v3 = true) <|
  ltO (v3 && y4.fst) fun (v5 : Bool) =>
  some (v5, ())
noncomputable def addr_Overlap (x : Int × Int) (y : Int × Int) : Option (Bool × Unit) :=
  bnd (addr_Within (x) (y)) fun y0 =>
  chk ((!y0.fst) = true → (!y0.fst) = true) <|
  chk ((!y0.fst) = true → (!y0.fst) = true) <|
  bndG (!y0.fst) (addr_Within (y) (x)) (false, ()) fun y1 =>
  chk (y0.fst = false → (!y0.fst) = true) <|
  ltO (y0.fst || y1.fst) fun (v2 : Bool) =>
  some (v2, ())
noncomputable def addr_At (b : Int × Int) (k : Int) : Option (Int × Bool × Unit) :=
  chk ((!decide (k < (0 : Int))) = true → (!decide (k < (0 : Int))) = true) <|
  bndG (!decide (k < (0 : Int))) (addr_Size (b)) ((0 : Int), ()) fun y0 =>
  chk ((!decide (k < (0 : Int))) = true → (!decide (k < (0 : Int))) = true) <|
  chk ((!decide (k < (0 : Int))) = true → (!decide (k < (0 : Int))) = true) <|
  chk (decide (k < (0 : Int)) = false → (!decide (k < (0 : Int))) = true) <|
  ltO (decide (k < (0 : Int)) || decide (k ≥ y0.fst)) fun (v1 : Bool) =>
  cnd (v1) (
   some ((0 : Int), false, ())) (
   ltO (IntKind.u32.wrap k) fun (v2 : Int) =>
   ltO (IntKind.u32.wrap (b.fst + v2)) fun (v3 : Int) =>
   some (v3, true, ()))
end Go.Tr
