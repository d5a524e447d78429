/- The functions that these laws reach, as Lean functions: printed by a program of this session's. Conditions: none. -/
import Derived.Test.YtfaaeeabiikhbaaGreatDoorBD
import Derived.Test.YtfaaeeabiikhbaaGreatDoorBE
namespace Go.Tr
open Go
set_option linter.unusedVariables false
set_option maxRecDepth 100000
noncomputable def addr_number_b0 (s' : List UInt8) (most : Int) (n : Int) (t26 : Int) (t27 : Int) : Option (((List UInt8) × Int × Int × Int × Int × Unit) ⊕ ((Int × Int × Unit) ⊕ (Int × Bool × Unit))) :=
  cnd (decide (t27 < t26)) (
   chk ((0 : Int) ≤ t27 ∧ t27 < (↑s'.length : Int)) <|
   ltO ((↑(s'.getD t27.toNat (0 : UInt8)).toNat : Int)) fun (v6 : Int) =>
   chk ((!decide (v6 < (48 : Int))) = true → (!decide (v6 < (48 : Int))) = true) <|
   chk ((!decide (v6 < (48 : Int))) = true → (!decide (v6 < (48 : Int))) = true) <|
   chk ((!decide (v6 < (48 : Int))) = true → (0 : Int) ≤ t27 ∧ t27 < (↑s'.length : Int)) <|
   ltO ((↑(s'.getD t27.toNat (0 : UInt8)).toNat : Int)) fun (v7 : Int) =>
   chk ((!decide (v6 < (48 : Int))) = true → (!decide (v6 < (48 : Int))) = true) <|
   chk (decide (v6 < (48 : Int)) = false → (!decide (v6 < (48 : Int))) = true) <|
   ltO (decide (v6 < (48 : Int)) || decide (v7 > (57 : Int))) fun (v8 : Bool) =>
   cnd (v8) (
    some (.inr (.inr ((0 : Int), false, ())))) (
    ltO (IntKind.i64.wrap ((10 : Int) * n)) fun (v9 : Int) =>
    chk ((0 : Int) ≤ t27 ∧ t27 < (↑s'.length : Int)) <|
    ltO ((↑(s'.getD t27.toNat (0 : UInt8)).toNat : Int)) fun (v10 : Int) =>
    ltO (IntKind.u8.wrap (v10 - (48 : Int))) fun (v11 : Int) =>
    ltO (IntKind.i64.wrap v11) fun (v12 : Int) =>
    ltO (IntKind.i64.wrap (v9 + v12)) fun (v13 : Int) =>
    ltO (IntKind.i64.wrap (t27 + (1 : Int))) fun (v14 : Int) =>
    some (.inl (s', most, v13, t26, v14, ())))) (
   some (.inr (.inl (most, n, ()))))
noncomputable def addr_number_l0 (s : (List UInt8) × Int × Int × Int × Int × Unit) : Option ((Int × Int × Unit) ⊕ (Int × Bool × Unit)) := loopM (fun s : (List UInt8) × Int × Int × Int × Int × Unit => addr_number_b0 s.1 s.2.1 s.2.2.1 s.2.2.2.1 s.2.2.2.2.1) s
noncomputable def addr_number (s' : List UInt8) (most : Int) : Option (Int × Bool × Unit) :=
  ltO (s' == []) fun (v0 : Bool) =>
  chk ((!v0) = true → (!v0) = true) <|
  chk ((!v0) = true → (!v0) = true) <|
  chk (v0 = false → (!v0) = true) <|
  ltO (v0 || decide ((↑s'.length : Int) > (3 : Int))) fun (v1 : Bool) =>
  chk ((!v1) = true → (!v1) = true) <|
  chk ((!v1) = true → (!v1) = true) <|
  chk ((!v1) = true → (!v1) = true) <|
  chk ((!v1 && decide ((↑s'.length : Int) > (1 : Int))) = true → (!v1 && decide ((↑s'.length : Int) > (1 : Int))) = true) <|
  chk ((!v1 && decide ((↑s'.length : Int) > (1 : Int))) = true → (0 : Int) ≤ (0 : Int) ∧ (0 : Int) < (↑s'.length : Int)) <|
  ltO ((↑(s'.getD (0 : Nat) (0 : UInt8)).toNat : Int)) fun (v2 : Int) =>
  chk ((!v1 && decide ((↑s'.length : Int) > (1 : Int))) = true → (!v1 && decide ((↑s'.length : Int) > (1 : Int))) = true) <|
  ltO (v2 == (48 : Int)) fun (v3 : Bool) =>
  chk ((!v1) = true → (!v1) = true) <|
  chk ((!v1) = true → decide ((↑s'.length : Int) > (1 : Int)) = true → (!v1 && decide ((↑s'.length : Int) > (1 : Int))) = true) <|
  ltO (decide ((↑s'.length : Int) > (1 : Int)) && v3) fun (v4 : Bool) =>
  chk (v1 = false → (!v1) = true) <|
  ltO (v1 || v4) fun (v5 : Bool) =>
  cnd (v5) (
   some ((0 : Int), false, ())) (
   bnd (addr_number_l0 (s', most, (0 : Int), (↑s'.length : Int), (0 : Int), ())) fun y15 =>
   sumO y15 (fun t16 =>
    some (t16.snd.fst, decide (t16.snd.fst ≤ t16.fst), ())) (fun r17 =>
    some (r17)))
noncomputable def addr_Parse_b0 (a' : Int) (t15 : List (List UInt8)) (t16 : Int) (t17 : Int) : Option ((Int × (List (List UInt8)) × Int × Int × Unit) ⊕ ((Int × Unit) ⊕ (Int × Bool × Unit))) :=
  cnd (decide (t17 < t16)) (
   chk ((0 : Int) ≤ t17 ∧ t17 < (↑t15.length : Int)) <|
   ltO (t15.getD t17.toNat []) fun (v2 : List UInt8) =>
   bnd (addr_number (v2) ((255 : Int))) fun y3 =>
   cnd (!y3.snd.fst) (
    some (.inr (.inr ((0 : Int), false, ())))) (
    chk ((0 : Int) ≤ (8 : Int)) <|
    ltO (shlI IntKind.u32 a' (8 : Int)) fun (v4 : Int) =>
    ltO (IntKind.u32.wrap y3.fst) fun (v5 : Int) =>
    ltO (IntKind.u32.wrap (borI IntKind.u32 v4 v5)) fun (v6 : Int) =>
    ltO (IntKind.i64.wrap (t17 + (1 : Int))) fun (v7 : Int) =>
    some (.inl (v6, t15, t16, v7, ())))) (
   some (.inr (.inl (a', ()))))
noncomputable def addr_Parse_l0 (s : Int × (List (List UInt8)) × Int × Int × Unit) : Option ((Int × Unit) ⊕ (Int × Bool × Unit)) := loopM (fun s : Int × (List (List UInt8)) × Int × Int × Unit => addr_Parse_b0 s.1 s.2.1 s.2.2.1 s.2.2.2.1) s
noncomputable def addr_Parse (s' : List UInt8) : Option (Int × Bool × Unit) :=
  bnd (strings_Split (s') ([(46 : UInt8)])) fun y0 =>
  ltO ((↑y0.fst.length : Int) != (4 : Int)) fun (v1 : Bool) =>
  cnd (v1) (
   some ((0 : Int), false, ())) (
   bnd (addr_Parse_l0 ((0 : Int), y0.fst, (↑y0.fst.length : Int), (0 : Int), ())) fun y8 =>
   sumO y8 (fun t9 =>
    some (t9.fst, true, ())) (fun r10 =>
    some (r10)))
noncomputable def addr_Text_b0 (a' : Int) (k : Int) (parts : List (List UInt8)) : Option ((Int × Int × (List (List UInt8)) × Unit) ⊕ (((List (List UInt8)) × Unit) ⊕ ((List UInt8) × Unit))) :=
  cnd (decide (k ≥ (0 : Int))) (
   ltO (IntKind.i64.wrap ((8 : Int) * k)) fun (v0 : Int) =>
   chk ((0 : Int) ≤ v0) <|
   ltO (shrI IntKind.u32 a' v0) fun (v1 : Int) =>
   ltO (IntKind.u32.wrap (bandI IntKind.u32 v1 (255 : Int))) fun (v2 : Int) =>
   ltO (IntKind.i64.wrap v2) fun (v3 : Int) =>
   bnd (strconv_Itoa (v3)) fun y4 =>
   chk (room (16 : Nat) (parts.length + [y4.fst].length)) <|
   ltO (IntKind.i64.wrap (k - (1 : Int))) fun (v5 : Int) =>
   some (.inl (a', v5, parts ++ [y4.fst], ()))) (
   some (.inr (.inl (parts, ()))))
noncomputable def addr_Text_l0 (s : Int × Int × (List (List UInt8)) × Unit) : Option (((List (List UInt8)) × Unit) ⊕ ((List UInt8) × Unit)) := loopM (fun s : Int × Int × (List (List UInt8)) × Unit => addr_Text_b0 s.1 s.2.1 s.2.2.1) s
noncomputable def addr_Text (a' : Int) : Option ((List UInt8) × Unit) :=
  bnd (addr_Text_l0 (a', (3 : Int), [], ())) fun y6 =>
  sumO y6 (fun t7 =>
   bnd (strings_Join (t7.fst) ([(46 : UInt8)])) fun y9 =>
   some (y9.fst, ())) (fun r8 =>
   some (r8))
end Go.Tr
