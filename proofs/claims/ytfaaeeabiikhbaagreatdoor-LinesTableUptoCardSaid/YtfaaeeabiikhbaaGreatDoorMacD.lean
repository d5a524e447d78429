/- The functions that these laws reach, as Lean functions: printed by a program of this session's. Conditions: none. -/
import Derived.Test.YtfaaeeabiikhbaaGreatDoorBD
import Derived.Test.YtfaaeeabiikhbaaGreatDoorBE
namespace Go.Tr
open Go
set_option linter.unusedVariables false
set_option maxRecDepth 100000
noncomputable def mac_digit (c : Int) : Option (Int × Bool × Unit) :=
  chk (decide (c ≥ (48 : Int)) = true → decide (c ≥ (48 : Int)) = true) <|
  chk (decide (c ≥ (48 : Int)) = true → decide (c ≥ (48 : Int)) = true) <|
  ltO (decide (c ≥ (48 : Int)) && decide (c ≤ (57 : Int))) fun (v0 : Bool) =>
  cnd (v0) (
   ltO (IntKind.u8.wrap (c - (48 : Int))) fun (v1 : Int) =>
   some (v1, true, ())) (
   chk (decide (c ≥ (65 : Int)) = true → decide (c ≥ (65 : Int)) = true) <|
   chk (decide (c ≥ (65 : Int)) = true → decide (c ≥ (65 : Int)) = true) <|
   ltO (decide (c ≥ (65 : Int)) && decide (c ≤ (70 : Int))) fun (v2 : Bool) =>
   cnd (v2) (
    ltO (IntKind.u8.wrap (c + (32 : Int))) fun (v3 : Int) =>
    ltO (IntKind.u8.wrap (v3 - (97 : Int))) fun (v4 : Int) =>
    ltO (IntKind.u8.wrap (v4 + (10 : Int))) fun (v5 : Int) =>
    some (v5, true, ())) (
    chk (decide (c ≥ (97 : Int)) = true → decide (c ≥ (97 : Int)) = true) <|
    chk (decide (c ≥ (97 : Int)) = true → decide (c ≥ (97 : Int)) = true) <|
    ltO (decide (c ≥ (97 : Int)) && decide (c ≤ (102 : Int))) fun (v6 : Bool) =>
    cnd (v6) (
     ltO (IntKind.u8.wrap (c - (97 : Int))) fun (v7 : Int) =>
     ltO (IntKind.u8.wrap (v7 + (10 : Int))) fun (v8 : Int) =>
     some (v8, true, ())) (
     some ((0 : Int), false, ()))))
noncomputable def mac_Parse_b0 (s' : List UInt8) (t24 : Int) (x_0 : Int) (x_1 : Int) (x_2 : Int) (x_3 : Int) (x_4 : Int) (x_5 : Int) (m_0 : Int) (m_1 : Int) (m_2 : Int) (m_3 : Int) (m_4 : Int) (m_5 : Int) : Option (((List UInt8) × Int × Int × Int × Int × Int × Int × Int × Int × Int × Int × Int × Int × Int × Unit) ⊕ ((Int × Int × Int × Int × Int × Int × Int × Int × Int × Int × Int × Int × Unit) ⊕ (TMac × Bool × Unit))) :=
  cnd (decide (t24 < (6 : Int))) (
   ltO (IntKind.i64.wrap ((3 : Int) * t24)) fun (v7 : Int) =>
   chk ((0 : Int) ≤ v7 ∧ v7 < (↑s'.length : Int)) <|
   ltO ((↑(s'.getD v7.toNat (0 : UInt8)).toNat : Int)) fun (v8 : Int) =>
   bnd (mac_digit (v8)) fun y9 =>
   ltO (IntKind.i64.wrap ((3 : Int) * t24)) fun (v10 : Int) =>
   ltO (IntKind.i64.wrap (v10 + (1 : Int))) fun (v11 : Int) =>
   chk ((0 : Int) ≤ v11 ∧ v11 < (↑s'.length : Int)) <|
   ltO ((↑(s'.getD v11.toNat (0 : UInt8)).toNat : Int)) fun (v12 : Int) =>
   bnd (mac_digit (v12)) fun y13 =>
   chk ((!!y9.snd.fst) = true → (!!y9.snd.fst) = true) <|
   chk ((!y9.snd.fst) = false → (!!y9.snd.fst) = true) <|
   ltO (!y9.snd.fst || !y13.snd.fst) fun (v14 : Bool) =>
   chk ((!v14) = true → (!v14) = true) <|
   chk ((!v14) = true → (!v14) = true) <|
   chk ((!v14 && decide (t24 < (5 : Int))) = true → (!v14 && decide (t24 < (5 : Int))) = true) <|
   ltO (IntKind.i64.wrap ((3 : Int) * t24)) fun (v15 : Int) =>
   chk ((!v14 && decide (t24 < (5 : Int))) = true → (!v14 && decide (t24 < (5 : Int))) = true) <|
   ltO (IntKind.i64.wrap (v15 + (2 : Int))) fun (v16 : Int) =>
   chk ((!v14 && decide (t24 < (5 : Int))) = true → (!v14 && decide (t24 < (5 : Int))) = true) <|
   chk ((!v14 && decide (t24 < (5 : Int))) = true → (!v14 && decide (t24 < (5 : Int))) = true) <|
   chk ((!v14 && decide (t24 < (5 : Int))) = true → (0 : Int) ≤ v16 ∧ v16 < (↑s'.length : Int)) <|
   ltO ((↑(s'.getD v16.toNat (0 : UInt8)).toNat : Int)) fun (v17 : Int) =>
   chk ((!v14 && decide (t24 < (5 : Int))) = true → (!v14 && decide (t24 < (5 : Int))) = true) <|
   chk ((!v14 && decide (t24 < (5 : Int))) = true → (0 : Int) ≤ (2 : Int) ∧ (2 : Int) < (↑s'.length : Int)) <|
   ltO ((↑(s'.getD (2 : Nat) (0 : UInt8)).toNat : Int)) fun (v18 : Int) =>
   chk ((!v14 && decide (t24 < (5 : Int))) = true → (!v14 && decide (t24 < (5 : Int))) = true) <|
   chk ((!v14 && decide (t24 < (5 : Int))) = true → (!v14 && decide (t24 < (5 : Int))) = true) <|
   ltO (v17 != v18) fun (v19 : Bool) =>
   chk ((!v14) = true → (!v14) = true) <|
   chk ((!v14) = true → decide (t24 < (5 : Int)) = true → (!v14 && decide (t24 < (5 : Int))) = true) <|
   ltO (decide (t24 < (5 : Int)) && v19) fun (v20 : Bool) =>
   chk (v14 = false → (!v14) = true) <|
   ltO (v14 || v20) fun (v21 : Bool) =>
   cnd (v21) (
    some (.inr (.inr (zMac, false, ())))) (
    chk ((0 : Int) ≤ (4 : Int)) <|
    ltO (shlI IntKind.u8 y9.fst (4 : Int)) fun (v22 : Int) =>
    ltO (IntKind.u8.wrap (borI IntKind.u8 v22 y13.fst)) fun (v23 : Int) =>
    chk ((0 : Int) ≤ t24 ∧ t24 < (6 : Int)) <|
    ltO (IntKind.i64.wrap (t24 + (1 : Int))) fun (v24 : Int) =>
    some (.inl (s', v24, x_0, x_1, x_2, x_3, x_4, x_5, ([m_0, m_1, m_2, m_3, m_4, m_5].set t24.toNat v23).getD (0 : Nat) (0 : Int), ([m_0, m_1, m_2, m_3, m_4, m_5].set t24.toNat v23).getD (1 : Nat) (0 : Int), ([m_0, m_1, m_2, m_3, m_4, m_5].set t24.toNat v23).getD (2 : Nat) (0 : Int), ([m_0, m_1, m_2, m_3, m_4, m_5].set t24.toNat v23).getD (3 : Nat) (0 : Int), ([m_0, m_1, m_2, m_3, m_4, m_5].set t24.toNat v23).getD (4 : Nat) (0 : Int), ([m_0, m_1, m_2, m_3, m_4, m_5].set t24.toNat v23).getD (5 : Nat) (0 : Int), ())))) (
   some (.inr (.inl (x_0, x_1, x_2, x_3, x_4, x_5, m_0, m_1, m_2, m_3, m_4, m_5, ()))))
noncomputable def mac_Parse_l0 (s : (List UInt8) × Int × Int × Int × Int × Int × Int × Int × Int × Int × Int × Int × Int × Int × Unit) : Option ((Int × Int × Int × Int × Int × Int × Int × Int × Int × Int × Int × Int × Unit) ⊕ (TMac × Bool × Unit)) := loopM (fun s : (List UInt8) × Int × Int × Int × Int × Int × Int × Int × Int × Int × Int × Int × Int × Int × Unit => mac_Parse_b0 s.1 s.2.1 s.2.2.1 s.2.2.2.1 s.2.2.2.2.1 s.2.2.2.2.2.1 s.2.2.2.2.2.2.1 s.2.2.2.2.2.2.2.1 s.2.2.2.2.2.2.2.2.1 s.2.2.2.2.2.2.2.2.2.1 s.2.2.2.2.2.2.2.2.2.2.1 s.2.2.2.2.2.2.2.2.2.2.2.1 s.2.2.2.2.2.2.2.2.2.2.2.2.1 s.2.2.2.2.2.2.2.2.2.2.2.2.2.1) s
noncomputable def mac_Parse (s' : List UInt8) : Option (TMac × Bool × Unit) :=
  ltO ((↑s'.length : Int) != (17 : Int)) fun (v0 : Bool) =>
  chk ((!v0) = true → (!v0) = true) <|
  chk ((!v0) = true → (0 : Int) ≤ (2 : Int) ∧ (2 : Int) < (↑s'.length : Int)) <|
  ltO ((↑(s'.getD (2 : Nat) (0 : UInt8)).toNat : Int)) fun (v1 : Int) =>
  chk ((!v0) = true → (!v0) = true) <|
  ltO (v1 != (58 : Int)) fun (v2 : Bool) =>
  chk ((!v0) = true → (!v0) = true) <|
  chk ((!v0 && v2) = true → (!v0 && v2) = true) <|
  chk ((!v0 && v2) = true → (0 : Int) ≤ (2 : Int) ∧ (2 : Int) < (↑s'.length : Int)) <|
  ltO ((↑(s'.getD (2 : Nat) (0 : UInt8)).toNat : Int)) fun (v3 : Int) =>
  chk ((!v0 && v2) = true → (!v0 && v2) = true) <|
  ltO (v3 != (45 : Int)) fun (v4 : Bool) =>
  chk ((!v0) = true → (!v0) = true) <|
  chk ((!v0) = true → v2 = true → (!v0 && v2) = true) <|
  ltO (v2 && v4) fun (v5 : Bool) =>
  chk (v0 = false → (!v0) = true) <|
  ltO (v0 || v5) fun (v6 : Bool) =>
  cnd (v6) (
   some (zMac, false, ())) (
   bnd (mac_Parse_l0 (s', (0 : Int), (0 : Int), (0 : Int), (0 : Int), (0 : Int), (0 : Int), (0 : Int), (0 : Int), (0 : Int), (0 : Int), (0 : Int), (0 : Int), (0 : Int), ())) fun y25 =>
   sumO y25 (fun t26 =>
    some ((t26.snd.snd.snd.snd.snd.snd.fst, t26.snd.snd.snd.snd.snd.snd.snd.fst, t26.snd.snd.snd.snd.snd.snd.snd.snd.fst, t26.snd.snd.snd.snd.snd.snd.snd.snd.snd.fst, t26.snd.snd.snd.snd.snd.snd.snd.snd.snd.snd.fst, t26.snd.snd.snd.snd.snd.snd.snd.snd.snd.snd.snd.fst), true, ())) (fun r27 =>
    some (r27)))
noncomputable def mac_Text_b0 (t7 : Int × Int × Int × Int × Int × Int) (t8 : Int) (out : List Int) : Option ((TMac × Int × (List Int) × Unit) ⊕ (((List Int) × Unit) ⊕ ((List UInt8) × Unit))) :=
  cnd (decide (t8 < (6 : Int))) (
   chk ((0 : Int) ≤ t8 ∧ t8 < (6 : Int)) <|
   ltO ([t7.fst, t7.snd.fst, t7.snd.snd.fst, t7.snd.snd.snd.fst, t7.snd.snd.snd.snd.fst, t7.snd.snd.snd.snd.snd].getD t8.toNat (0 : Int)) fun (v0 : Int) =>
   cnd (decide (t8 > (0 : Int))) (
    chk (room (1 : Nat) (out.length + (1 : Nat))) <|
    chk ((0 : Int) ≤ (4 : Int)) <|
    ltO (shrI IntKind.u8 v0 (4 : Int)) fun (v1 : Int) =>
    chk ((0 : Int) ≤ v1 ∧ v1 < (16 : Int)) <|
    ltO ((↑([(48 : UInt8), (49 : UInt8), (50 : UInt8), (51 : UInt8), (52 : UInt8), (53 : UInt8), (54 : UInt8), (55 : UInt8), (56 : UInt8), (57 : UInt8), (97 : UInt8), (98 : UInt8), (99 : UInt8), (100 : UInt8), (101 : UInt8), (102 : UInt8)].getD v1.toNat (0 : UInt8)).toNat : Int)) fun (v2 : Int) =>
    ltO (IntKind.u8.wrap (bandI IntKind.u8 v0 (15 : Int))) fun (v3 : Int) =>
    chk ((0 : Int) ≤ v3 ∧ v3 < (16 : Int)) <|
    ltO ((↑([(48 : UInt8), (49 : UInt8), (50 : UInt8), (51 : UInt8), (52 : UInt8), (53 : UInt8), (54 : UInt8), (55 : UInt8), (56 : UInt8), (57 : UInt8), (97 : UInt8), (98 : UInt8), (99 : UInt8), (100 : UInt8), (101 : UInt8), (102 : UInt8)].getD v3.toNat (0 : UInt8)).toNat : Int)) fun (v4 : Int) =>
    chk (room (1 : Nat) ((out ++ [(58 : Int)]).length + [v2, v4].length)) <|
    ltO (IntKind.i64.wrap (t8 + (1 : Int))) fun (v5 : Int) =>
    some (.inl (t7, v5, out ++ [(58 : Int)] ++ [v2, v4], ()))) (
    chk ((0 : Int) ≤ (4 : Int)) <|
    ltO (shrI IntKind.u8 v0 (4 : Int)) fun (v6 : Int) =>
    chk ((0 : Int) ≤ v6 ∧ v6 < (16 : Int)) <|
    ltO ((↑([(48 : UInt8), (49 : UInt8), (50 : UInt8), (51 : UInt8), (52 : UInt8), (53 : UInt8), (54 : UInt8), (55 : UInt8), (56 : UInt8), (57 : UInt8), (97 : UInt8), (98 : UInt8), (99 : UInt8), (100 : UInt8), (101 : UInt8), (102 : UInt8)].getD v6.toNat (0 : UInt8)).toNat : Int)) fun (v7 : Int) =>
    ltO (IntKind.u8.wrap (bandI IntKind.u8 v0 (15 : Int))) fun (v8 : Int) =>
    chk ((0 : Int) ≤ v8 ∧ v8 < (16 : Int)) <|
    ltO ((↑([(48 : UInt8), (49 : UInt8), (50 : UInt8), (51 : UInt8), (52 : UInt8), (53 : UInt8), (54 : UInt8), (55 : UInt8), (56 : UInt8), (57 : UInt8), (97 : UInt8), (98 : UInt8), (99 : UInt8), (100 : UInt8), (101 : UInt8), (102 : UInt8)].getD v8.toNat (0 : UInt8)).toNat : Int)) fun (v9 : Int) =>
    chk (room (1 : Nat) (out.length + [v7, v9].length)) <|
    ltO (IntKind.i64.wrap (t8 + (1 : Int))) fun (v10 : Int) =>
    some (.inl (t7, v10, out ++ [v7, v9], ())))) (
   some (.inr (.inl (out, ()))))
noncomputable def mac_Text_l0 (s : TMac × Int × (List Int) × Unit) : Option (((List Int) × Unit) ⊕ ((List UInt8) × Unit)) := loopM (fun s : TMac × Int × (List Int) × Unit => mac_Text_b0 s.1 s.2.1 s.2.2.1) s
noncomputable def mac_Text (m : Int × Int × Int × Int × Int × Int) : Option ((List UInt8) × Unit) :=
  chk ((0 : Int) ≤ (0 : Int) ∧ (0 : Int) ≤ (17 : Int) ∧ (17 : Int) < (9223372036854775808 : Int) ∧ room (1 : Nat) (17 : Nat)) <|
  bnd (mac_Text_l0 (m, (0 : Int), List.replicate (0 : Nat) (0 : Int), ())) fun y11 =>
  sumO y11 (fun t12 =>
   ltO (toBytes t12.fst) fun (v14 : List UInt8) =>
   some (v14, ())) (fun r13 =>
   some (r13))
noncomputable def mac_Group (m : Int × Int × Int × Int × Int × Int) : Option (Bool × Unit) :=
  chk ((0 : Int) ≤ (0 : Int) ∧ (0 : Int) < (6 : Int)) <|
  ltO (IntKind.u8.wrap (bandI IntKind.u8 m.fst (1 : Int))) fun (v0 : Int) =>
  ltO (v0 == (1 : Int)) fun (v1 : Bool) =>
  some (v1, ())
noncomputable def mac_None (m : Int × Int × Int × Int × Int × Int) : Option (Bool × Unit) :=
  ltO (m.fst == (0 : Int) && (m.snd.fst == (0 : Int) && (m.snd.snd.fst == (0 : Int) && (m.snd.snd.snd.fst == (0 : Int) && (m.snd.snd.snd.snd.fst == (0 : Int) && m.snd.snd.snd.snd.snd == (0 : Int)))))) fun (v0 : Bool) =>
  some (v0, ())
end Go.Tr
