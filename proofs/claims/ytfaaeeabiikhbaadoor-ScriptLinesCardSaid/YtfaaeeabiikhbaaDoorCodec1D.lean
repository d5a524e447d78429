/- The functions that these laws reach, as Lean functions: printed by a program of this session's. Conditions: none. -/
import Derived.Test.YtfaaeeabiikhbaaDoorBD
import Derived.Test.YtfaaeeabiikhbaaDoorBE
import Derived.Test.YtfaaeeabiikhbaaDoorAddrD
import Derived.Test.YtfaaeeabiikhbaaDoorMacD
namespace Go.Tr
open Go
set_option linter.unusedVariables false
set_option maxRecDepth 100000
noncomputable def held_May_b0 (owner : List UInt8) (t6 : Int) (t7 : Int) : Option (((List UInt8) × Int × Int × Unit) ⊕ (((List UInt8) × Unit) ⊕ (Bool × Unit))) :=
  cnd (decide (t7 < t6)) (
   chk ((0 : Int) ≤ t7 ∧ t7 < (↑owner.length : Int)) <|
   ltO ((↑(owner.getD t7.toNat (0 : UInt8)).toNat : Int)) fun (v0 : Int) =>
   chk ((!decide (v0 < (97 : Int))) = true → (!decide (v0 < (97 : Int))) = true) <|
   chk (decide (v0 < (97 : Int)) = false → (!decide (v0 < (97 : Int))) = true) <|
   ltO (decide (v0 < (97 : Int)) || decide (v0 > (122 : Int))) fun (v1 : Bool) =>
   chk (v1 = true → v1 = true) <|
   chk (v1 = true → v1 = true) <|
   chk ((v1 && !decide (v0 < (48 : Int))) = true → (v1 && !decide (v0 < (48 : Int))) = true) <|
   chk (v1 = true → v1 = true) <|
   chk (v1 = true → decide (v0 < (48 : Int)) = false → (v1 && !decide (v0 < (48 : Int))) = true) <|
   ltO (decide (v0 < (48 : Int)) || decide (v0 > (57 : Int))) fun (v2 : Bool) =>
   chk (v1 = true → v1 = true) <|
   ltO (v1 && v2) fun (v3 : Bool) =>
   cnd (v3) (
    some (.inr (.inr (false, ())))) (
    ltO (IntKind.i64.wrap (t7 + (1 : Int))) fun (v4 : Int) =>
    some (.inl (owner, t6, v4, ())))) (
   some (.inr (.inl (owner, ()))))
noncomputable def held_May_l0 (s : (List UInt8) × Int × Int × Unit) : Option (((List UInt8) × Unit) ⊕ (Bool × Unit)) := loopM (fun s : (List UInt8) × Int × Int × Unit => held_May_b0 s.1 s.2.1 s.2.2.1) s
noncomputable def held_May (owner : List UInt8) : Option (Bool × Unit) :=
  bnd (held_May_l0 (owner, (↑owner.length : Int), (0 : Int), ())) fun y5 =>
  sumO y5 (fun t6 =>
   ltO (!t6.fst == []) fun (v8 : Bool) =>
   chk (v8 = true → v8 = true) <|
   chk (v8 = true → v8 = true) <|
   chk (v8 = true → v8 = true) <|
   ltO (v8 && decide ((↑t6.fst.length : Int) ≤ (8 : Int))) fun (v9 : Bool) =>
   some (v9, ())) (fun r7 =>
   some (r7))
end Go.Tr
