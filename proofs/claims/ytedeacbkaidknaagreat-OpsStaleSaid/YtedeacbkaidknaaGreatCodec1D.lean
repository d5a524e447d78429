/- The functions that these laws reach, as Lean functions: printed by a program of this session's. Conditions: none. -/
import Derived.Test.YtedeacbkaidknaaGreatBD
import Derived.Test.YtedeacbkaidknaaGreatBE
import Derived.Test.YtedeacbkaidknaaGreatAddrD
import Derived.Test.YtedeacbkaidknaaGreatMacD
namespace Go.Tr
open Go
set_option linter.unusedVariables false
set_option maxRecDepth 100000
noncomputable def held_May_b0 (owner : List UInt8) (t6 : Int) (t7 : Int) : Option (((List UInt8) × Int × Int × Unit) ⊕ (((List UInt8) × Unit) ⊕ (Bool × Unit))) :=
  cnd (decide (t7 < t6)) (
   chk ((0 : Int) ≤ t7 ∧ t7 < (↑owner.length : Int)) <|
   ltO ((↑(owner.getD t7.toNat (0 : UInt8)).toNat : Int)) fun (v0 : Int) =>
   chk ((!decide (v0 < (97 : Int))) = true → (!decide (v0 < (97 : Int))) = true) <|
   chk (decide (v0 < (97 : Int)) = false → (!decide (v0 < (97 : Int))) = true) <|
   ltO (decide (v0 < (97 : Int)) || decide (v0 > (122 : Int))) fun (v1 : Bool) =>
   chk (v1 = true → v1 = true) <|
   chk (v1 = true → v1 = true) <|
   chk ((v1 && !decide (v0 < (48 : Int))) = true → (v1 && !decide (v0 < (48 : Int))) = true) <|
   chk (v1 = true → v1 = true) <|
   chk (v1 = true → decide (v0 < (48 : Int)) = false → (v1 && !decide (v0 < (48 : Int))) = true) <|
   ltO (decide (v0 < (48 : Int)) || decide (v0 > (57 : Int))) fun (v2 : Bool) =>
   chk (v1 = true → v1 = true) <|
   ltO (v1 && v2) fun (v3 : Bool) =>
   cnd (v3) (
    some (.inr (.inr (false, ())))) (
    ltO (IntKind.i64.wrap (t7 + (1 : Int))) fun (v4 : Int) =>
    some (.inl (owner, t6, v4, ())))) (
   some (.inr (.inl (owner, ()))))
noncomputable def held_May_l0 (s : (List UInt8) × Int × Int × Unit) : Option (((List UInt8) × Unit) ⊕ (Bool × Unit)) := loopM (fun s : (List UInt8) × Int × Int × Unit => held_May_b0 s.1 s.2.1 s.2.2.1) s
noncomputable def held_May (owner : List UInt8) : Option (Bool × Unit) :=
  bnd (held_May_l0 (owner, (↑owner.length : Int), (0 : Int), ())) fun y5 =>
  sumO y5 (fun t6 =>
   ltO (!t6.fst == []) fun (v8 : Bool) =>
   chk (v8 = true → v8 = true) <|
   chk (v8 = true → v8 = true) <|
   chk (v8 = true → v8 = true) <|
   ltO (v8 && decide ((↑t6.fst.length : Int) ≤ (8 : Int))) fun (v9 : Bool) =>
   some (v9, ())) (fun r7 =>
   some (r7))
noncomputable def clock_Clamp (n : Int) : Option (Int × Unit) :=
  some (if (if (1099511627776 : Int) < n then (1099511627776 : Int) else n) > (0 : Int) then if (1099511627776 : Int) < n then (1099511627776 : Int) else n else (0 : Int), ())
noncomputable def cases_Open (c : Int × Int × Int × Int) : Option (Bool × Unit) :=
  ltO (c.snd.snd.snd == (0 : Int)) fun (v0 : Bool) =>
  chk ((!v0) = true → (!v0) = true) <|
  chk ((!v0) = true → (!v0) = true) <|
  ltO (c.snd.snd.snd == (1 : Int)) fun (v1 : Bool) =>
  chk (v0 = false → (!v0) = true) <|
  ltO (v0 || v1) fun (v2 : Bool) =>
  some (v2, ())
noncomputable def cases_Find_1 (c : Int × Int × Int × Int) (t1 : Int) : Option (Bool × Unit) :=
  ltO (c.fst == t1) fun (v0 : Bool) =>
  chk (v0 = true → v0 = true) <|
  bndG (v0) (cases_Open (c)) (false, ()) fun y1 =>
  chk (v0 = true → v0 = true) <|
  ltO (v0 && y1.fst) fun (v2 : Bool) =>
  some (v2, ())
noncomputable def slices_IndexFunc_v1_b0 (s' : List (Int × Int × Int × Int)) (fc_0 : Int) (t7 : Int) (t8 : Int) : Option (((List (Int × Int × Int × Int)) × Int × Int × Int × Unit) ⊕ (Unit ⊕ (Int × Unit))) :=
  cnd (decide (t8 < t7)) (
   chk ((0 : Int) ≤ t8 ∧ t8 < (↑s'.length : Int)) <|
   ltO ((Option.rec ((0 : Int), (0 : Int), (0 : Int), (0 : Int)) (fun val => val) s'[t8.toNat]?)) fun (v0 : Int × Int × Int × Int) =>
   bnd (cases_Find_1 (v0) (fc_0)) fun y1 =>
   cnd (y1.fst) (
    some (.inr (.inr (t8, ())))) (
    ltO (IntKind.i64.wrap (t8 + (1 : Int))) fun (v2 : Int) =>
    some (.inl (s', fc_0, t7, v2, ())))) (
   some (.inr (.inl ())))
noncomputable def slices_IndexFunc_v1_l0 (s : (List (Int × Int × Int × Int)) × Int × Int × Int × Unit) : Option (Unit ⊕ (Int × Unit)) := loopM (fun s : (List (Int × Int × Int × Int)) × Int × Int × Int × Unit => slices_IndexFunc_v1_b0 s.1 s.2.1 s.2.2.1 s.2.2.2.1) s
noncomputable def slices_IndexFunc_v1 (s' : List (Int × Int × Int × Int)) (fc_0 : Int) : Option (Int × Unit) :=
  bnd (slices_IndexFunc_v1_l0 (s', fc_0, (↑s'.length : Int), (0 : Int), ())) fun y3 =>
  sumO y3 (fun t4 =>
   some ((-1 : Int), ())) (fun r5 =>
   some (r5))
noncomputable def cases_Find (cs : List (Int × Int × Int × Int)) (a' : Int) : Option (Int × Unit) :=
  bnd (slices_IndexFunc_v1 (cs) (a')) fun y0 =>
  some (y0.fst, ())
end Go.Tr
