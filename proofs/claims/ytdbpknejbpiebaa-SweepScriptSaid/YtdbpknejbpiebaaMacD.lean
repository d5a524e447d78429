/- The functions that these laws reach, as Lean functions: printed by a program of this session's. Conditions: none. -/
import Derived.Test.YtdbpknejbpiebaaBD
import Derived.Test.YtdbpknejbpiebaaBE

namespace Go.Tr
open Go
set_option linter.unusedVariables false
set_option maxRecDepth 100000

noncomputable def mac_digit (c : Int) : Option (Int × Bool × Unit) :=
  chk (decide (c ≥ (48 : Int)) = true → decide (c ≥ (48 : Int)) = true) <|
  chk (decide (c ≥ (48 : Int)) = true → decide (c ≥ (48 : Int)) = true) <|
  ltO (decide (c ≥ (48 : Int)) && decide (c ≤ (57 : Int))) fun (v0 : Bool) =>
  cnd (v0) (
   ltO (IntKind.u8.wrap (c - (48 : Int))) fun (v1 : Int) =>
   some (v1, true, ())) (
   chk (decide (c ≥ (65 : Int)) = true → decide (c ≥ (65 : Int)) = true) <|
   chk (decide (c ≥ (65 : Int)) = true → decide (c ≥ (65 : Int)) = true) <|
   ltO (decide (c ≥ (65 : Int)) && decide (c ≤ (70 : Int))) fun (v2 : Bool) =>
   cnd (v2) (
    ltO (IntKind.u8.wrap (c + (32 : Int))) fun (v3 : Int) =>
    ltO (IntKind.u8.wrap (v3 - (97 : Int))) fun (v4 : Int) =>
    ltO (IntKind.u8.wrap (v4 + (10 : Int))) fun (v5 : Int) =>
    some (v5, true, ())) (
    chk (decide (c ≥ (97 : Int)) = true → decide (c ≥ (97 : Int)) = true) <|
    chk (decide (c ≥ (97 : Int)) = true → decide (c ≥ (97 : Int)) = true) <|
    ltO (decide (c ≥ (97 : Int)) && decide (c ≤ (102 : Int))) fun (v6 : Bool) =>
    cnd (v6) (
     ltO (IntKind.u8.wrap (c - (97 : Int))) fun (v7 : Int) =>
     ltO (IntKind.u8.wrap (v7 + (10 : Int))) fun (v8 : Int) =>
     some (v8, true, ())) (
     some ((0 : Int), false, ()))))

noncomputable def mac_Parse_b0 (s' : List UInt8) (t24 : Int) (x_0 : Int) (x_1 : Int) (x_2 : Int) (x_3 : Int) (x_4 : Int) (x_5 : Int) (m_0 : Int) (m_1 : Int) (m_2 : Int) (m_3 : Int) (m_4 : Int) (m_5 : Int) : Option (((List UInt8) × Int × Int × Int × Int × Int × Int × Int × Int × Int × Int × Int × Int × Int × Unit) ⊕ ((Int × Int × Int × Int × Int × Int × Int × Int × Int × Int × Int × Int × Unit) ⊕ (TMac × Bool × Unit))) :=
  cnd (decide (t24 < (6 : Int))) (
   ltO (IntKind.i64.wrap ((3 : Int) * t24)) fun (v7 : Int) =>
   chk ((0 : Int) ≤ v7 ∧ v7 < (↑s'.length : Int)) <|
   ltO ((↑(s'.getD v7.toNat (0 : UInt8)).toNat : Int)) fun (v8 : Int) =>
   bnd (mac_digit (v8)) fun y9 =>
   ltO (IntKind.i64.wrap ((3 : Int) * t24)) fun (v10 : Int) =>
   ltO (IntKind.i64.wrap (v10 + (1 : Int))) fun (v11 : Int) =>
   chk ((0 : Int) ≤ v11 ∧ v11 < (↑s'.length : Int)) <|
   ltO ((↑(s'.getD v11.toNat (0 : UInt8)).toNat : Int)) fun (v12 : Int) =>
   bnd (mac_digit (v12)) fun y13 =>
   chk ((!!y9.snd.fst) = true → (!!y9.snd.fst) = true) <|
   chk ((!y9.snd.fst) = false → (!!y9.snd.fst) = true) <|
   ltO (!y9.snd.fst || !y13.snd.fst) fun (v14 : Bool) =>
   chk ((!v14) = true → (!v14) = true) <|
   chk ((!v14) = true → (!v14) = true) <|
   chk ((!v14 && decide (t24 < (5 : Int))) = true → (!v14 && decide (t24 < (5 : Int))) = true) <|
   ltO (IntKind.i64.wrap ((3 : Int) * t24)) fun (v15 : Int) =>
   chk ((!v14 && decide (t24 < (5 : Int))) = true → (!v14 && decide (t24 < (5 : Int))) = true) <|
   ltO (IntKind.i64.wrap (v15 + (2 : Int))) fun (v16 : Int) =>
   chk ((!v14 && decide (t24 < (5 : Int))) = true → (!v14 && decide (t24 < (5 : Int))) = true) <|
   chk ((!v14 && decide (t24 < (5 : Int))) = true → (!v14 && decide (t24 < (5 : Int))) = true) <|
   chk ((!v14 && decide (t24 < (5 : Int))) = true → (0 : Int) ≤ v16 ∧ v16 < (↑s'.length : Int)) <|
   ltO ((↑(s'.getD v16.toNat (0 : UInt8)).toNat : Int)) fun (v17 : Int) =>
   chk ((!v14 && decide (t24 < (5 : Int))) = true → (!v14 && decide (t24 < (5 : Int))) = true) <|
   chk ((!v14 && decide (t24 < (5 : Int))) = true → (0 : Int) ≤ (2 : Int) ∧ (2 : Int) < (↑s'.length : Int)) <|
   ltO ((↑(s'.getD (2 : Nat) (0 : UInt8)).toNat : Int)) fun (v18 : Int) =>
   chk ((!v14 && decide (t24 < (5 : Int))) = true → (!v14 && decide (t24 < (5 : Int))) = true) <|
   chk ((!v14 && decide (t24 < (5 : Int))) = true → (!v14 && decide (t24 < (5 : Int))) = true) <|
   ltO (v17 != v18) fun (v19 : Bool) =>
   chk ((!v14) = true → (!v14) = true) <|
   chk ((!v14) = true → decide (t24 < (5 : Int)) = true → (!v14 && decide (t24 < (5 : Int))) = true) <|
   ltO (decide (t24 < (5 : Int)) && v19) fun (v20 : Bool) =>
   chk (v14 = false → (!v14) = true) <|
   ltO (v14 || v20) fun (v21 : Bool) =>
   cnd (v21) (
    some (.inr (.inr (zMac, false, ())))) (
    chk ((0 : Int) ≤ (4 : Int)) <|
    ltO (shlI IntKind.u8 y9.fst (4 : Int)) fun (v22 : Int) =>
    ltO (IntKind.u8.wrap (borI IntKind.u8 v22 y13.fst)) fun (v23 : Int) =>
    chk ((0 : Int) ≤ t24 ∧ t24 < (6 : Int)) <|
    ltO (IntKind.i64.wrap (t24 + (1 : Int))) fun (v24 : Int) =>
    some (.inl (s', v24, x_0, x_1, x_2, x_3, x_4, x_5, ([m_0, m_1, m_2, m_3, m_4, m_5].set t24.toNat v23).getD (0 : Nat) (0 : Int), ([m_0, m_1, m_2, m_3, m_4, m_5].set t24.toNat v23).getD (1 : Nat) (0 : Int), ([m_0, m_1, m_2, m_3, m_4, m_5].set t24.toNat v23).getD (2 : Nat) (0 : Int), ([m_0, m_1, m_2, m_3, m_4, m_5].set t24.toNat v23).getD (3 : Nat) (0 : Int), ([m_0, m_1, m_2, m_3, m_4, m_5].set t24.toNat v23).getD (4 : Nat) (0 : Int), ([m_0, m_1, m_2, m_3, m_4, m_5].set t24.toNat v23).getD (5 : Nat) (0 : Int), ())))) (
   some (.inr (.inl (x_0, x_1, x_2, x_3, x_4, x_5, m_0, m_1, m_2, m_3, m_4, m_5, ()))))

noncomputable def mac_Parse_l0 (s : (List UInt8) × Int × Int × Int × Int × Int × Int × Int × Int × Int × Int × Int × Int × Int × Unit) : Option ((Int × Int × Int × Int × Int × Int × Int × Int × Int × Int × Int × Int × Unit) ⊕ (TMac × Bool × Unit)) := loopM (fun s : (List UInt8) × Int × Int × Int × Int × Int × Int × Int × Int × Int × Int × Int × Int × Int × Unit => mac_Parse_b0 s.1 s.2.1 s.2.2.1 s.2.2.2.1 s.2.2.2.2.1 s.2.2.2.2.2.1 s.2.2.2.2.2.2.1 s.2.2.2.2.2.2.2.1 s.2.2.2.2.2.2.2.2.1 s.2.2.2.2.2.2.2.2.2.1 s.2.2.2.2.2.2.2.2.2.2.1 s.2.2.2.2.2.2.2.2.2.2.2.1 s.2.2.2.2.2.2.2.2.2.2.2.2.1 s.2.2.2.2.2.2.2.2.2.2.2.2.2.1) s

noncomputable def mac_Parse (s' : List UInt8) : Option (TMac × Bool × Unit) :=
  ltO ((↑s'.length : Int) != (17 : Int)) fun (v0 : Bool) =>
  chk ((!v0) = true → (!v0) = true) <|
  chk ((!v0) = true → (0 : Int) ≤ (2 : Int) ∧ (2 : Int) < (↑s'.length : Int)) <|
  ltO ((↑(s'.getD (2 : Nat) (0 : UInt8)).toNat : Int)) fun (v1 : Int) =>
  chk ((!v0) = true → (!v0) = true) <|
  ltO (v1 != (58 : Int)) fun (v2 : Bool) =>
  chk ((!v0) = true → (!v0) = true) <|
  chk ((!v0 && v2) = true → (!v0 && v2) = true) <|
  chk ((!v0 && v2) = true → (0 : Int) ≤ (2 : Int) ∧ (2 : Int) < (↑s'.length : Int)) <|
  ltO ((↑(s'.getD (2 : Nat) (0 : UInt8)).toNat : Int)) fun (v3 : Int) =>
  chk ((!v0 && v2) = true → (!v0 && v2) = true) <|
  ltO (v3 != (45 : Int)) fun (v4 : Bool) =>
  chk ((!v0) = true → (!v0) = true) <|
  chk ((!v0) = true → v2 = true → (!v0 && v2) = true) <|
  ltO (v2 && v4) fun (v5 : Bool) =>
  chk (v0 = false → (!v0) = true) <|
  ltO (v0 || v5) fun (v6 : Bool) =>
  cnd (v6) (
   some (zMac, false, ())) (
   bnd (mac_Parse_l0 (s', (0 : Int), (0 : Int), (0 : Int), (0 : Int), (0 : Int), (0 : Int), (0 : Int), (0 : Int), (0 : Int), (0 : Int), (0 : Int), (0 : Int), (0 : Int), ())) fun y25 =>
   sumO y25 (fun t26 =>
    some ((t26.snd.snd.snd.snd.snd.snd.fst, t26.snd.snd.snd.snd.snd.snd.snd.fst, t26.snd.snd.snd.snd.snd.snd.snd.snd.fst, t26.snd.snd.snd.snd.snd.snd.snd.snd.snd.fst, t26.snd.snd.snd.snd.snd.snd.snd.snd.snd.snd.fst, t26.snd.snd.snd.snd.snd.snd.snd.snd.snd.snd.snd.fst), true, ())) (fun r27 =>
    some (r27)))

noncomputable def mac_Text_b0 (t7 : Int × Int × Int × Int × Int × Int) (t8 : Int) (out : List Int) : Option ((TMac × Int × (List Int) × Unit) ⊕ (((List Int) × Unit) ⊕ ((List UInt8) × Unit))) :=
  cnd (decide (t8 < (6 : Int))) (
   chk ((0 : Int) ≤ t8 ∧ t8 < (6 : Int)) <|
   ltO ([t7.fst, t7.snd.fst, t7.snd.snd.fst, t7.snd.snd.snd.fst, t7.snd.snd.snd.snd.fst, t7.snd.snd.snd.snd.snd].getD t8.toNat (0 : Int)) fun (v0 : Int) =>
   cnd (decide (t8 > (0 : Int))) (
    chk (room (1 : Nat) (out.length + (1 : Nat))) <|
    chk ((0 : Int) ≤ (4 : Int)) <|
    ltO (shrI IntKind.u8 v0 (4 : Int)) fun (v1 : Int) =>
    chk ((0 : Int) ≤ v1 ∧ v1 < (16 : Int)) <|
    ltO ((↑([(48 : UInt8), (49 : UInt8), (50 : UInt8), (51 : UInt8), (52 : UInt8), (53 : UInt8), (54 : UInt8), (55 : UInt8), (56 : UInt8), (57 : UInt8), (97 : UInt8), (98 : UInt8), (99 : UInt8), (100 : UInt8), (101 : UInt8), (102 : UInt8)].getD v1.toNat (0 : UInt8)).toNat : Int)) fun (v2 : Int) =>
    ltO (IntKind.u8.wrap (bandI IntKind.u8 v0 (15 : Int))) fun (v3 : Int) =>
    chk ((0 : Int) ≤ v3 ∧ v3 < (16 : Int)) <|
    ltO ((↑([(48 : UInt8), (49 : UInt8), (50 : UInt8), (51 : UInt8), (52 : UInt8), (53 : UInt8), (54 : UInt8), (55 : UInt8), (56 : UInt8), (57 : UInt8), (97 : UInt8), (98 : UInt8), (99 : UInt8), (100 : UInt8), (101 : UInt8), (102 : UInt8)].getD v3.toNat (0 : UInt8)).toNat : Int)) fun (v4 : Int) =>
    chk (room (1 : Nat) ((out ++ [(58 : Int)]).length + [v2, v4].length)) <|
    ltO (IntKind.i64.wrap (t8 + (1 : Int))) fun (v5 : Int) =>
    some (.inl (t7, v5, out ++ [(58 : Int)] ++ [v2, v4], ()))) (
    chk ((0 : Int) ≤ (4 : Int)) <|
    ltO (shrI IntKind.u8 v0 (4 : Int)) fun (v6 : Int) =>
    chk ((0 : Int) ≤ v6 ∧ v6 < (16 : Int)) <|
    ltO ((↑([(48 : UInt8), (49 : UInt8), (50 : UInt8), (51 : UInt8), (52 : UInt8), (53 : UInt8), (54 : UInt8), (55 : UInt8), (56 : UInt8), (57 : UInt8), (97 : UInt8), (98 : UInt8), (99 : UInt8), (100 : UInt8), (101 : UInt8), (102 : UInt8)].getD v6.toNat (0 : UInt8)).toNat : Int)) fun (v7 : Int) =>
    ltO (IntKind.u8.wrap (bandI IntKind.u8 v0 (15 : Int))) fun (v8 : Int) =>
    chk ((0 : Int) ≤ v8 ∧ v8 < (16 : Int)) <|
    ltO ((↑([(48 : UInt8), (49 : UInt8), (50 : UInt8), (51 : UInt8), (52 : UInt8), (53 : UInt8), (54 : UInt8), (55 : UInt8), (56 : UInt8), (57 : UInt8), (97 : UInt8), (98 : UInt8), (99 : UInt8), (100 : UInt8), (101 : UInt8), (102 : UInt8)].getD v8.toNat (0 : UInt8)).toNat : Int)) fun (v9 : Int) =>
    chk (room (1 : Nat) (out.length + [v7, v9].length)) <|
    ltO (IntKind.i64.wrap (t8 + (1 : Int))) fun (v10 : Int) =>
    some (.inl (t7, v10, out ++ [v7, v9], ())))) (
   some (.inr (.inl (out, ()))))

noncomputable def mac_Text_l0 (s : TMac × Int × (List Int) × Unit) : Option (((List Int) × Unit) ⊕ ((List UInt8) × Unit)) := loopM (fun s : TMac × Int × (List Int) × Unit => mac_Text_b0 s.1 s.2.1 s.2.2.1) s

noncomputable def mac_Text (m : Int × Int × Int × Int × Int × Int) : Option ((List UInt8) × Unit) :=
  chk ((0 : Int) ≤ (0 : Int) ∧ (0 : Int) ≤ (17 : Int) ∧ (17 : Int) < (9223372036854775808 : Int) ∧ room (1 : Nat) (17 : Nat)) <|
  bnd (mac_Text_l0 (m, (0 : Int), List.replicate (0 : Nat) (0 : Int), ())) fun y11 =>
  sumO y11 (fun t12 =>
   ltO (toBytes t12.fst) fun (v14 : List UInt8) =>
   some (v14, ())) (fun r13 =>
   some (r13))

noncomputable def mac_Group (m : Int × Int × Int × Int × Int × Int) : Option (Bool × Unit) :=
  chk ((0 : Int) ≤ (0 : Int) ∧ (0 : Int) < (6 : Int)) <|
  ltO (IntKind.u8.wrap (bandI IntKind.u8 m.fst (1 : Int))) fun (v0 : Int) =>
  ltO (v0 == (1 : Int)) fun (v1 : Bool) =>
  some (v1, ())

noncomputable def mac_None (m : Int × Int × Int × Int × Int × Int) : Option (Bool × Unit) :=
  ltO (m.fst == (0 : Int) && (m.snd.fst == (0 : Int) && (m.snd.snd.fst == (0 : Int) && (m.snd.snd.snd.fst == (0 : Int) && (m.snd.snd.snd.snd.fst == (0 : Int) && m.snd.snd.snd.snd.snd == (0 : Int)))))) fun (v0 : Bool) =>
  some (v0, ())

noncomputable def terrierlaw02_awake : Option (Bool × Unit) :=
  bnd (mac_Parse ([(48 : UInt8), (50 : UInt8), (45 : UInt8), (48 : UInt8), (48 : UInt8), (45 : UInt8), (48 : UInt8), (48 : UInt8), (45 : UInt8), (48 : UInt8), (48 : UInt8), (45 : UInt8), (48 : UInt8), (48 : UInt8), (45 : UInt8), (48 : UInt8), (65 : UInt8)])) fun y0 =>
  chk (y0.snd.fst = true → y0.snd.fst = true) <|
  bndG (y0.snd.fst) (mac_Text (y0.fst)) ([], ()) fun y1 =>
  chk (y0.snd.fst = true → y0.snd.fst = true) <|
  ltO (y1.fst == [(48 : UInt8), (50 : UInt8), (58 : UInt8), (48 : UInt8), (48 : UInt8), (58 : UInt8), (48 : UInt8), (48 : UInt8), (58 : UInt8), (48 : UInt8), (48 : UInt8), (58 : UInt8), (48 : UInt8), (48 : UInt8), (58 : UInt8), (48 : UInt8), (97 : UInt8)]) fun (v2 : Bool) =>
  chk (y0.snd.fst = true → y0.snd.fst = true) <|
  ltO (y0.snd.fst && v2) fun (v3 : Bool) =>
  chk (v3 = true → v3 = true) <|
  bndG (v3) (mac_Group (y0.fst)) (false, ()) fun y4 =>
  chk (v3 = true → v3 = true) <|
  chk (v3 = true → v3 = true) <|
  ltO (v3 && !y4.fst) fun (v5 : Bool) =>
  chk (v5 = true → v5 = true) <|
  bndG (v5) (mac_None (y0.fst)) (false, ()) fun y6 =>
  chk (v5 = true → v5 = true) <|
  chk (v5 = true → v5 = true) <|
  ltO (v5 && !y6.fst) fun (v7 : Bool) =>
  some (v7, ())

noncomputable def terrierlaw02_MacKinds_b0 (zero : Bool) (t8 : Int × Int × Int × Int × Int × Int) (t9 : Int) (m_0 : Int) (m_1 : Int) (m_2 : Int) (m_3 : Int) (m_4 : Int) (m_5 : Int) : Option ((Bool × TMac × Int × Int × Int × Int × Int × Int × Int × Unit) ⊕ ((Bool × Int × Int × Int × Int × Int × Int × Unit) ⊕ (Bool × Unit))) :=
  cnd (decide (t9 < (6 : Int))) (
   chk ((0 : Int) ≤ t9 ∧ t9 < (6 : Int)) <|
   ltO ([t8.fst, t8.snd.fst, t8.snd.snd.fst, t8.snd.snd.snd.fst, t8.snd.snd.snd.snd.fst, t8.snd.snd.snd.snd.snd].getD t9.toNat (0 : Int)) fun (v1 : Int) =>
   chk (zero = true → zero = true) <|
   ltO (v1 == (0 : Int)) fun (v2 : Bool) =>
   chk (zero = true → zero = true) <|
   ltO (zero && v2) fun (v3 : Bool) =>
   ltO (IntKind.i64.wrap (t9 + (1 : Int))) fun (v4 : Int) =>
   some (.inl (v3, t8, v4, m_0, m_1, m_2, m_3, m_4, m_5, ()))) (
   some (.inr (.inl (zero, m_0, m_1, m_2, m_3, m_4, m_5, ()))))

noncomputable def terrierlaw02_MacKinds_l0 (s : Bool × TMac × Int × Int × Int × Int × Int × Int × Int × Unit) : Option ((Bool × Int × Int × Int × Int × Int × Int × Unit) ⊕ (Bool × Unit)) := loopM (fun s : Bool × TMac × Int × Int × Int × Int × Int × Int × Int × Unit => terrierlaw02_MacKinds_b0 s.1 s.2.1 s.2.2.1 s.2.2.2.1 s.2.2.2.2.1 s.2.2.2.2.2.1 s.2.2.2.2.2.2.1 s.2.2.2.2.2.2.2.1 s.2.2.2.2.2.2.2.2.1) s

noncomputable def terrierlaw02_MacKinds (m : Int × Int × Int × Int × Int × Int) : Option (Bool × Unit) :=
  bnd (terrierlaw02_awake) fun y0 =>
  cnd (!y0.fst) (
   some (false, ())) (
   bnd (terrierlaw02_MacKinds_l0 (true, m, (0 : Int), m.fst, m.snd.fst, m.snd.snd.fst, m.snd.snd.snd.fst, m.snd.snd.snd.snd.fst, m.snd.snd.snd.snd.snd, ())) fun y5 =>
   sumO y5 (fun t6 =>
    bnd (mac_None ((t6.snd.fst, t6.snd.snd.fst, t6.snd.snd.snd.fst, t6.snd.snd.snd.snd.fst, t6.snd.snd.snd.snd.snd.fst, t6.snd.snd.snd.snd.snd.snd.fst))) fun y8 =>
    ltO (y8.fst == t6.fst) fun (v9 : Bool) =>
    chk (v9 = true → v9 = true) <|
    bndG (v9) (mac_Group ((t6.snd.fst, t6.snd.snd.fst, t6.snd.snd.snd.fst, t6.snd.snd.snd.snd.fst, t6.snd.snd.snd.snd.snd.fst, t6.snd.snd.snd.snd.snd.snd.fst))) (false, ()) fun y10 =>
    chk (v9 = true → (0 : Int) ≤ (0 : Int) ∧ (0 : Int) < (6 : Int)) <|
    chk (v9 = true → v9 = true) <|
    chk (v9 = true → v9 = true) <|
    chk (v9 = true → ¬(2 : Int) = (0 : Int)) <|
    ltO (t6.snd.fst.tmod (2 : Int)) fun (v11 : Int) =>
    chk (v9 = true → v9 = true) <|
    ltO (v11 == (1 : Int)) fun (v12 : Bool) =>
    chk (v9 = true → v9 = true) <|
    chk (v9 = true → v9 = true) <|
    ltO (y10.fst == v12) fun (v13 : Bool) =>
    chk (v9 = true → v9 = true) <|
    ltO (v9 && v13) fun (v14 : Bool) =>
    some (v14, ())) (fun r7 =>
    some (r7)))

noncomputable def terrierlaw02_pair (c : Int) (great : Bool) : Option ((List UInt8) × Unit) :=
  cnd (great) (
   chk (¬(16 : Int) = (0 : Int)) <|
   ltO (IntKind.u8.wrap (c.tdiv (16 : Int))) fun (v0 : Int) =>
   chk (¬(16 : Int) = (0 : Int)) <|
   ltO (IntKind.u8.wrap (c.tdiv (16 : Int))) fun (v1 : Int) =>
   ltO (IntKind.u8.wrap (v1 + (1 : Int))) fun (v2 : Int) =>
   chk ((0 : Int) ≤ v0 ∧ v0 ≤ v2 ∧ v2 ≤ (16 : Int)) <|
   chk (¬(16 : Int) = (0 : Int)) <|
   ltO (c.tmod (16 : Int)) fun (v3 : Int) =>
   chk (¬(16 : Int) = (0 : Int)) <|
   ltO (c.tmod (16 : Int)) fun (v4 : Int) =>
   ltO (IntKind.u8.wrap (v4 + (1 : Int))) fun (v5 : Int) =>
   chk ((0 : Int) ≤ v3 ∧ v3 ≤ v5 ∧ v5 ≤ (16 : Int)) <|
   chk ((↑((sliceA v0.toNat v2.toNat [(48 : UInt8), (49 : UInt8), (50 : UInt8), (51 : UInt8), (52 : UInt8), (53 : UInt8), (54 : UInt8), (55 : UInt8), (56 : UInt8), (57 : UInt8), (65 : UInt8), (66 : UInt8), (67 : UInt8), (68 : UInt8), (69 : UInt8), (70 : UInt8)]).length + (sliceA v3.toNat v5.toNat [(48 : UInt8), (49 : UInt8), (50 : UInt8), (51 : UInt8), (52 : UInt8), (53 : UInt8), (54 : UInt8), (55 : UInt8), (56 : UInt8), (57 : UInt8), (65 : UInt8), (66 : UInt8), (67 : UInt8), (68 : UInt8), (69 : UInt8), (70 : UInt8)]).length) : Int) ≤ (9223372036854775807 : Int)) <|
   ltO (sliceA v0.toNat v2.toNat [(48 : UInt8), (49 : UInt8), (50 : UInt8), (51 : UInt8), (52 : UInt8), (53 : UInt8), (54 : UInt8), (55 : UInt8), (56 : UInt8), (57 : UInt8), (65 : UInt8), (66 : UInt8), (67 : UInt8), (68 : UInt8), (69 : UInt8), (70 : UInt8)] ++ sliceA v3.toNat v5.toNat [(48 : UInt8), (49 : UInt8), (50 : UInt8), (51 : UInt8), (52 : UInt8), (53 : UInt8), (54 : UInt8), (55 : UInt8), (56 : UInt8), (57 : UInt8), (65 : UInt8), (66 : UInt8), (67 : UInt8), (68 : UInt8), (69 : UInt8), (70 : UInt8)]) fun (v6 : List UInt8) =>
   some (v6, ())) (
   chk (¬(16 : Int) = (0 : Int)) <|
   ltO (IntKind.u8.wrap (c.tdiv (16 : Int))) fun (v7 : Int) =>
   chk (¬(16 : Int) = (0 : Int)) <|
   ltO (IntKind.u8.wrap (c.tdiv (16 : Int))) fun (v8 : Int) =>
   ltO (IntKind.u8.wrap (v8 + (1 : Int))) fun (v9 : Int) =>
   chk ((0 : Int) ≤ v7 ∧ v7 ≤ v9 ∧ v9 ≤ (16 : Int)) <|
   chk (¬(16 : Int) = (0 : Int)) <|
   ltO (c.tmod (16 : Int)) fun (v10 : Int) =>
   chk (¬(16 : Int) = (0 : Int)) <|
   ltO (c.tmod (16 : Int)) fun (v11 : Int) =>
   ltO (IntKind.u8.wrap (v11 + (1 : Int))) fun (v12 : Int) =>
   chk ((0 : Int) ≤ v10 ∧ v10 ≤ v12 ∧ v12 ≤ (16 : Int)) <|
   chk ((↑((sliceA v7.toNat v9.toNat [(48 : UInt8), (49 : UInt8), (50 : UInt8), (51 : UInt8), (52 : UInt8), (53 : UInt8), (54 : UInt8), (55 : UInt8), (56 : UInt8), (57 : UInt8), (97 : UInt8), (98 : UInt8), (99 : UInt8), (100 : UInt8), (101 : UInt8), (102 : UInt8)]).length + (sliceA v10.toNat v12.toNat [(48 : UInt8), (49 : UInt8), (50 : UInt8), (51 : UInt8), (52 : UInt8), (53 : UInt8), (54 : UInt8), (55 : UInt8), (56 : UInt8), (57 : UInt8), (97 : UInt8), (98 : UInt8), (99 : UInt8), (100 : UInt8), (101 : UInt8), (102 : UInt8)]).length) : Int) ≤ (9223372036854775807 : Int)) <|
   ltO (sliceA v7.toNat v9.toNat [(48 : UInt8), (49 : UInt8), (50 : UInt8), (51 : UInt8), (52 : UInt8), (53 : UInt8), (54 : UInt8), (55 : UInt8), (56 : UInt8), (57 : UInt8), (97 : UInt8), (98 : UInt8), (99 : UInt8), (100 : UInt8), (101 : UInt8), (102 : UInt8)] ++ sliceA v10.toNat v12.toNat [(48 : UInt8), (49 : UInt8), (50 : UInt8), (51 : UInt8), (52 : UInt8), (53 : UInt8), (54 : UInt8), (55 : UInt8), (56 : UInt8), (57 : UInt8), (97 : UInt8), (98 : UInt8), (99 : UInt8), (100 : UInt8), (101 : UInt8), (102 : UInt8)]) fun (v13 : List UInt8) =>
   some (v13, ()))

noncomputable def terrierlaw02_MacText_b0 (great : Int) (s' : List UInt8) (t : List UInt8) (sep : List UInt8) (t19 : Int × Int × Int × Int × Int × Int) (t20 : Int) (m_0 : Int) (m_1 : Int) (m_2 : Int) (m_3 : Int) (m_4 : Int) (m_5 : Int) : Option ((Int × (List UInt8) × (List UInt8) × (List UInt8) × TMac × Int × Int × Int × Int × Int × Int × Int × Unit) ⊕ (((List UInt8) × (List UInt8) × Int × Int × Int × Int × Int × Int × Unit) ⊕ (Bool × Unit))) :=
  cnd (decide (t20 < (6 : Int))) (
   chk ((0 : Int) ≤ t20 ∧ t20 < (6 : Int)) <|
   ltO ([t19.fst, t19.snd.fst, t19.snd.snd.fst, t19.snd.snd.snd.fst, t19.snd.snd.snd.snd.fst, t19.snd.snd.snd.snd.snd].getD t20.toNat (0 : Int)) fun (v1 : Int) =>
   cnd (decide (t20 > (0 : Int))) (
    chk ((↑(s'.length + (1 : Nat)) : Int) ≤ (9223372036854775807 : Int)) <|
    ltO (s' ++ [(58 : UInt8)]) fun (v2 : List UInt8) =>
    chk ((↑(t.length + sep.length) : Int) ≤ (9223372036854775807 : Int)) <|
    ltO (t ++ sep) fun (v3 : List UInt8) =>
    bnd (terrierlaw02_pair (v1) (false)) fun y4 =>
    chk ((↑(v2.length + y4.fst.length) : Int) ≤ (9223372036854775807 : Int)) <|
    ltO (v2 ++ y4.fst) fun (v5 : List UInt8) =>
    chk ((0 : Int) ≤ t20) <|
    ltO (shrI IntKind.u8 great t20) fun (v6 : Int) =>
    ltO (IntKind.u8.wrap (bandI IntKind.u8 v6 (1 : Int))) fun (v7 : Int) =>
    ltO (v7 == (1 : Int)) fun (v8 : Bool) =>
    bnd (terrierlaw02_pair (v1) (v8)) fun y9 =>
    chk ((↑(v3.length + y9.fst.length) : Int) ≤ (9223372036854775807 : Int)) <|
    ltO (v3 ++ y9.fst) fun (v10 : List UInt8) =>
    ltO (IntKind.i64.wrap (t20 + (1 : Int))) fun (v11 : Int) =>
    some (.inl (great, v5, v10, sep, t19, v11, m_0, m_1, m_2, m_3, m_4, m_5, ()))) (
    bnd (terrierlaw02_pair (v1) (false)) fun y12 =>
    chk ((↑(s'.length + y12.fst.length) : Int) ≤ (9223372036854775807 : Int)) <|
    ltO (s' ++ y12.fst) fun (v13 : List UInt8) =>
    chk ((0 : Int) ≤ t20) <|
    ltO (shrI IntKind.u8 great t20) fun (v14 : Int) =>
    ltO (IntKind.u8.wrap (bandI IntKind.u8 v14 (1 : Int))) fun (v15 : Int) =>
    ltO (v15 == (1 : Int)) fun (v16 : Bool) =>
    bnd (terrierlaw02_pair (v1) (v16)) fun y17 =>
    chk ((↑(t.length + y17.fst.length) : Int) ≤ (9223372036854775807 : Int)) <|
    ltO (t ++ y17.fst) fun (v18 : List UInt8) =>
    ltO (IntKind.i64.wrap (t20 + (1 : Int))) fun (v19 : Int) =>
    some (.inl (great, v13, v18, sep, t19, v19, m_0, m_1, m_2, m_3, m_4, m_5, ())))) (
   some (.inr (.inl (s', t, m_0, m_1, m_2, m_3, m_4, m_5, ()))))

noncomputable def terrierlaw02_MacText_l0 (s : Int × (List UInt8) × (List UInt8) × (List UInt8) × TMac × Int × Int × Int × Int × Int × Int × Int × Unit) : Option (((List UInt8) × (List UInt8) × Int × Int × Int × Int × Int × Int × Unit) ⊕ (Bool × Unit)) := loopM (fun s : Int × (List UInt8) × (List UInt8) × (List UInt8) × TMac × Int × Int × Int × Int × Int × Int × Int × Unit => terrierlaw02_MacText_b0 s.1 s.2.1 s.2.2.1 s.2.2.2.1 s.2.2.2.2.1 s.2.2.2.2.2.1 s.2.2.2.2.2.2.1 s.2.2.2.2.2.2.2.1 s.2.2.2.2.2.2.2.2.1 s.2.2.2.2.2.2.2.2.2.1 s.2.2.2.2.2.2.2.2.2.2.1 s.2.2.2.2.2.2.2.2.2.2.2.1) s

noncomputable def terrierlaw02_MacText (m : Int × Int × Int × Int × Int × Int) (great : Int) (stroke : Bool) : Option (Bool × Unit) :=
  bnd (terrierlaw02_awake) fun y0 =>
  cnd (!y0.fst) (
   some (false, ())) (
   cnd (stroke) (
    bnd (terrierlaw02_MacText_l0 (great, [], [], [(45 : UInt8)], m, (0 : Int), m.fst, m.snd.fst, m.snd.snd.fst, m.snd.snd.snd.fst, m.snd.snd.snd.snd.fst, m.snd.snd.snd.snd.snd, ())) fun y20 =>
    sumO y20 (fun t21 =>
     bnd (mac_Parse (t21.fst)) fun y23 =>
     bnd (mac_Parse (t21.snd.fst)) fun y24 =>
     bnd (mac_Text ((t21.snd.snd.fst, t21.snd.snd.snd.fst, t21.snd.snd.snd.snd.fst, t21.snd.snd.snd.snd.snd.fst, t21.snd.snd.snd.snd.snd.snd.fst, t21.snd.snd.snd.snd.snd.snd.snd.fst))) fun y25 =>
     ltO (y25.fst == t21.fst) fun (v26 : Bool) =>
     chk (v26 = true → v26 = true) <|
     ltO (v26 && y23.snd.fst) fun (v27 : Bool) =>
     chk (v27 = true → v27 = true) <|
     ltO (v27 && y24.snd.fst) fun (v28 : Bool) =>
     chk (v28 = true → v28 = true) <|
     chk (v28 = true → v28 = true) <|
     ltO (y23.fst.fst == t21.snd.snd.fst && (y23.fst.snd.fst == t21.snd.snd.snd.fst && (y23.fst.snd.snd.fst == t21.snd.snd.snd.snd.fst && (y23.fst.snd.snd.snd.fst == t21.snd.snd.snd.snd.snd.fst && (y23.fst.snd.snd.snd.snd.fst == t21.snd.snd.snd.snd.snd.snd.fst && y23.fst.snd.snd.snd.snd.snd == t21.snd.snd.snd.snd.snd.snd.snd.fst))))) fun (v29 : Bool) =>
     chk (v28 = true → v28 = true) <|
     ltO (v28 && v29) fun (v30 : Bool) =>
     chk (v30 = true → v30 = true) <|
     chk (v30 = true → v30 = true) <|
     ltO (y24.fst.fst == t21.snd.snd.fst && (y24.fst.snd.fst == t21.snd.snd.snd.fst && (y24.fst.snd.snd.fst == t21.snd.snd.snd.snd.fst && (y24.fst.snd.snd.snd.fst == t21.snd.snd.snd.snd.snd.fst && (y24.fst.snd.snd.snd.snd.fst == t21.snd.snd.snd.snd.snd.snd.fst && y24.fst.snd.snd.snd.snd.snd == t21.snd.snd.snd.snd.snd.snd.snd.fst))))) fun (v31 : Bool) =>
     chk (v30 = true → v30 = true) <|
     ltO (v30 && v31) fun (v32 : Bool) =>
     some (v32, ())) (fun r22 =>
     some (r22))) (
    bnd (terrierlaw02_MacText_l0 (great, [], [], [(58 : UInt8)], m, (0 : Int), m.fst, m.snd.fst, m.snd.snd.fst, m.snd.snd.snd.fst, m.snd.snd.snd.snd.fst, m.snd.snd.snd.snd.snd, ())) fun y33 =>
    sumO y33 (fun t34 =>
     bnd (mac_Parse (t34.fst)) fun y36 =>
     bnd (mac_Parse (t34.snd.fst)) fun y37 =>
     bnd (mac_Text ((t34.snd.snd.fst, t34.snd.snd.snd.fst, t34.snd.snd.snd.snd.fst, t34.snd.snd.snd.snd.snd.fst, t34.snd.snd.snd.snd.snd.snd.fst, t34.snd.snd.snd.snd.snd.snd.snd.fst))) fun y38 =>
     ltO (y38.fst == t34.fst) fun (v39 : Bool) =>
     chk (v39 = true → v39 = true) <|
     ltO (v39 && y36.snd.fst) fun (v40 : Bool) =>
     chk (v40 = true → v40 = true) <|
     ltO (v40 && y37.snd.fst) fun (v41 : Bool) =>
     chk (v41 = true → v41 = true) <|
     chk (v41 = true → v41 = true) <|
     ltO (y36.fst.fst == t34.snd.snd.fst && (y36.fst.snd.fst == t34.snd.snd.snd.fst && (y36.fst.snd.snd.fst == t34.snd.snd.snd.snd.fst && (y36.fst.snd.snd.snd.fst == t34.snd.snd.snd.snd.snd.fst && (y36.fst.snd.snd.snd.snd.fst == t34.snd.snd.snd.snd.snd.snd.fst && y36.fst.snd.snd.snd.snd.snd == t34.snd.snd.snd.snd.snd.snd.snd.fst))))) fun (v42 : Bool) =>
     chk (v41 = true → v41 = true) <|
     ltO (v41 && v42) fun (v43 : Bool) =>
     chk (v43 = true → v43 = true) <|
     chk (v43 = true → v43 = true) <|
     ltO (y37.fst.fst == t34.snd.snd.fst && (y37.fst.snd.fst == t34.snd.snd.snd.fst && (y37.fst.snd.snd.fst == t34.snd.snd.snd.snd.fst && (y37.fst.snd.snd.snd.fst == t34.snd.snd.snd.snd.snd.fst && (y37.fst.snd.snd.snd.snd.fst == t34.snd.snd.snd.snd.snd.snd.fst && y37.fst.snd.snd.snd.snd.snd == t34.snd.snd.snd.snd.snd.snd.snd.fst))))) fun (v44 : Bool) =>
     chk (v43 = true → v43 = true) <|
     ltO (v43 && v44) fun (v45 : Bool) =>
     some (v45, ())) (fun r35 =>
     some (r35))))

noncomputable def terrierlaw02_MacAny_b1 (x : List UInt8) (ok : Bool) (want : Bool) (k : Int) (t37 : Int) (t38 : Int) (n_0 : Int) (n_1 : Int) (n_2 : Int) (n_3 : Int) (n_4 : Int) (n_5 : Int) (x' : List (List UInt8)) : Option (((List UInt8) × Bool × Bool × Int × Int × Int × Int × Int × Int × Int × Int × Int × (List (List UInt8)) × Unit) ⊕ ((Bool × Bool × Int × Int × Int × Int × Int × Int × Int × Int × (List (List UInt8)) × Unit) ⊕ (Bool × Unit))) :=
  chk (decide (k < (17 : Int)) = true → decide (k < (17 : Int)) = true) <|
  ltO (decide (k < (17 : Int)) && want) fun (v14 : Bool) =>
  cnd (v14) (
   chk ((0 : Int) ≤ k ∧ k < (↑x.length : Int)) <|
   ltO ((↑(x.getD k.toNat (0 : UInt8)).toNat : Int)) fun (v15 : Int) =>
   chk (decide (v15 ≥ (48 : Int)) = true → decide (v15 ≥ (48 : Int)) = true) <|
   chk (decide (v15 ≥ (48 : Int)) = true → decide (v15 ≥ (48 : Int)) = true) <|
   chk (decide (v15 ≥ (48 : Int)) = true → (0 : Int) ≤ k ∧ k < (↑x.length : Int)) <|
   ltO ((↑(x.getD k.toNat (0 : UInt8)).toNat : Int)) fun (v16 : Int) =>
   chk (decide (v15 ≥ (48 : Int)) = true → decide (v15 ≥ (48 : Int)) = true) <|
   chk (decide (v15 ≥ (48 : Int)) = true → decide (v15 ≥ (48 : Int)) = true) <|
   ltO (decide (v15 ≥ (48 : Int)) && decide (v16 ≤ (57 : Int))) fun (v17 : Bool) =>
   chk ((!v17) = true → (!v17) = true) <|
   chk ((!v17) = true → (!v17) = true) <|
   chk ((!v17) = true → (0 : Int) ≤ k ∧ k < (↑x.length : Int)) <|
   ltO ((↑(x.getD k.toNat (0 : UInt8)).toNat : Int)) fun (v18 : Int) =>
   chk ((!v17) = true → (!v17) = true) <|
   chk ((!v17) = true → (!v17) = true) <|
   chk ((!v17 && decide (v18 ≥ (97 : Int))) = true → (!v17 && decide (v18 ≥ (97 : Int))) = true) <|
   chk ((!v17 && decide (v18 ≥ (97 : Int))) = true → (!v17 && decide (v18 ≥ (97 : Int))) = true) <|
   chk ((!v17 && decide (v18 ≥ (97 : Int))) = true → (0 : Int) ≤ k ∧ k < (↑x.length : Int)) <|
   ltO ((↑(x.getD k.toNat (0 : UInt8)).toNat : Int)) fun (v19 : Int) =>
   chk ((!v17 && decide (v18 ≥ (97 : Int))) = true → (!v17 && decide (v18 ≥ (97 : Int))) = true) <|
   chk ((!v17) = true → (!v17) = true) <|
   chk ((!v17) = true → decide (v18 ≥ (97 : Int)) = true → (!v17 && decide (v18 ≥ (97 : Int))) = true) <|
   ltO (decide (v18 ≥ (97 : Int)) && decide (v19 ≤ (102 : Int))) fun (v20 : Bool) =>
   chk (v17 = false → (!v17) = true) <|
   ltO (v17 || v20) fun (v21 : Bool) =>
   chk ((!v21) = true → (!v21) = true) <|
   chk ((!v21) = true → (!v21) = true) <|
   chk ((!v21) = true → (0 : Int) ≤ k ∧ k < (↑x.length : Int)) <|
   ltO ((↑(x.getD k.toNat (0 : UInt8)).toNat : Int)) fun (v22 : Int) =>
   chk ((!v21) = true → (!v21) = true) <|
   chk ((!v21) = true → (!v21) = true) <|
   chk ((!v21 && decide (v22 ≥ (65 : Int))) = true → (!v21 && decide (v22 ≥ (65 : Int))) = true) <|
   chk ((!v21 && decide (v22 ≥ (65 : Int))) = true → (!v21 && decide (v22 ≥ (65 : Int))) = true) <|
   chk ((!v21 && decide (v22 ≥ (65 : Int))) = true → (0 : Int) ≤ k ∧ k < (↑x.length : Int)) <|
   ltO ((↑(x.getD k.toNat (0 : UInt8)).toNat : Int)) fun (v23 : Int) =>
   chk ((!v21 && decide (v22 ≥ (65 : Int))) = true → (!v21 && decide (v22 ≥ (65 : Int))) = true) <|
   chk ((!v21) = true → (!v21) = true) <|
   chk ((!v21) = true → decide (v22 ≥ (65 : Int)) = true → (!v21 && decide (v22 ≥ (65 : Int))) = true) <|
   ltO (decide (v22 ≥ (65 : Int)) && decide (v23 ≤ (70 : Int))) fun (v24 : Bool) =>
   chk (v21 = false → (!v21) = true) <|
   ltO (v21 || v24) fun (v25 : Bool) =>
   chk (¬(3 : Int) = (0 : Int)) <|
   ltO (k.tmod (3 : Int)) fun (v26 : Int) =>
   ltO (v26 == (2 : Int)) fun (v27 : Bool) =>
   chk (v27 = true → v27 = true) <|
   chk (v27 = true → v27 = true) <|
   chk (v27 = true → (0 : Int) ≤ k ∧ k < (↑x.length : Int)) <|
   ltO ((↑(x.getD k.toNat (0 : UInt8)).toNat : Int)) fun (v28 : Int) =>
   chk (v27 = true → v27 = true) <|
   chk (v27 = true → (0 : Int) ≤ (2 : Int) ∧ (2 : Int) < (↑x.length : Int)) <|
   ltO ((↑(x.getD (2 : Nat) (0 : UInt8)).toNat : Int)) fun (v29 : Int) =>
   chk (v27 = true → v27 = true) <|
   chk (v27 = true → v27 = true) <|
   ltO (v28 == v29) fun (v30 : Bool) =>
   chk (v27 = true → v27 = true) <|
   ltO (v27 && v30) fun (v31 : Bool) =>
   chk ((!v31) = true → (!v31) = true) <|
   chk ((!v31) = true → ¬(3 : Int) = (0 : Int)) <|
   ltO (k.tmod (3 : Int)) fun (v32 : Int) =>
   chk ((!v31) = true → (!v31) = true) <|
   chk ((!v31) = true → (!v31) = true) <|
   chk ((!v31) = true → (!v31) = true) <|
   chk ((!v31) = true → decide (v32 < (2 : Int)) = true → (!v31 && decide (v32 < (2 : Int))) = true) <|
   ltO (decide (v32 < (2 : Int)) && v25) fun (v33 : Bool) =>
   chk (v31 = false → (!v31) = true) <|
   ltO (v31 || v33) fun (v34 : Bool) =>
   ltO (IntKind.i64.wrap (k + (1 : Int))) fun (v35 : Int) =>
   some (.inl (x, ok, v34, v35, t37, t38, n_0, n_1, n_2, n_3, n_4, n_5, x', ()))) (
   some (.inr (.inl (ok, want, t37, t38, n_0, n_1, n_2, n_3, n_4, n_5, x', ()))))

noncomputable def terrierlaw02_MacAny_l1 (s : (List UInt8) × Bool × Bool × Int × Int × Int × Int × Int × Int × Int × Int × Int × (List (List UInt8)) × Unit) : Option ((Bool × Bool × Int × Int × Int × Int × Int × Int × Int × Int × (List (List UInt8)) × Unit) ⊕ (Bool × Unit)) := loopM (fun s : (List UInt8) × Bool × Bool × Int × Int × Int × Int × Int × Int × Int × Int × Int × (List (List UInt8)) × Unit => terrierlaw02_MacAny_b1 s.1 s.2.1 s.2.2.1 s.2.2.2.1 s.2.2.2.2.1 s.2.2.2.2.2.1 s.2.2.2.2.2.2.1 s.2.2.2.2.2.2.2.1 s.2.2.2.2.2.2.2.2.1 s.2.2.2.2.2.2.2.2.2.1 s.2.2.2.2.2.2.2.2.2.2.1 s.2.2.2.2.2.2.2.2.2.2.2.1 s.2.2.2.2.2.2.2.2.2.2.2.2.1) s

noncomputable def terrierlaw02_MacAny_b0 (t37 : Int) (t38 : Int) (x : List (List UInt8)) : Option ((Int × Int × (List (List UInt8)) × Unit) ⊕ (Unit ⊕ (Bool × Unit))) :=
  cnd (decide (t38 < t37)) (
   chk ((0 : Int) ≤ t38 ∧ t38 < (↑x.length : Int)) <|
   chk (t38.toNat < x.length) <|
   bnd (mac_Parse (x.getD t38.toNat [])) fun y6 =>
   ltO ((↑(x.getD t38.toNat []).length : Int) == (17 : Int)) fun (v7 : Bool) =>
   chk (v7 = true → v7 = true) <|
   chk (v7 = true → (0 : Int) ≤ (2 : Int) ∧ (2 : Int) < (↑(x.getD t38.toNat []).length : Int)) <|
   ltO ((↑((x.getD t38.toNat []).getD (2 : Nat) (0 : UInt8)).toNat : Int)) fun (v8 : Int) =>
   chk (v7 = true → v7 = true) <|
   ltO (v8 == (58 : Int)) fun (v9 : Bool) =>
   chk (v7 = true → v7 = true) <|
   chk ((v7 && !v9) = true → (v7 && !v9) = true) <|
   chk ((v7 && !v9) = true → (0 : Int) ≤ (2 : Int) ∧ (2 : Int) < (↑(x.getD t38.toNat []).length : Int)) <|
   ltO ((↑((x.getD t38.toNat []).getD (2 : Nat) (0 : UInt8)).toNat : Int)) fun (v10 : Int) =>
   chk ((v7 && !v9) = true → (v7 && !v9) = true) <|
   ltO (v10 == (45 : Int)) fun (v11 : Bool) =>
   chk (v7 = true → v7 = true) <|
   chk (v7 = true → v9 = false → (v7 && !v9) = true) <|
   ltO (v9 || v11) fun (v12 : Bool) =>
   chk (v7 = true → v7 = true) <|
   ltO (v7 && v12) fun (v13 : Bool) =>
   bnd (terrierlaw02_MacAny_l1 (x.getD t38.toNat [], y6.snd.fst, v13, (0 : Int), t37, t38, y6.fst.fst, y6.fst.snd.fst, y6.fst.snd.snd.fst, y6.fst.snd.snd.snd.fst, y6.fst.snd.snd.snd.snd.fst, y6.fst.snd.snd.snd.snd.snd, x, ())) fun y36 =>
   sumO y36 (fun t37 =>
    ltO (!t37.fst == t37.snd.fst) fun (v39 : Bool) =>
    chk ((!v39) = true → (!v39) = true) <|
    chk ((!v39) = true → (!v39) = true) <|
    chk ((!v39 && !t37.fst) = true → (!v39 && !t37.fst) = true) <|
    chk ((!v39 && !t37.fst) = true → (!v39 && !t37.fst) = true) <|
    ltO (!(t37.snd.snd.snd.snd.fst == (0 : Int) && (t37.snd.snd.snd.snd.snd.fst == (0 : Int) && (t37.snd.snd.snd.snd.snd.snd.fst == (0 : Int) && (t37.snd.snd.snd.snd.snd.snd.snd.fst == (0 : Int) && (t37.snd.snd.snd.snd.snd.snd.snd.snd.fst == (0 : Int) && t37.snd.snd.snd.snd.snd.snd.snd.snd.snd.fst == (0 : Int))))))) fun (v40 : Bool) =>
    chk ((!v39) = true → (!v39) = true) <|
    chk ((!v39) = true → (!t37.fst) = true → (!v39 && !t37.fst) = true) <|
    ltO (!t37.fst && v40) fun (v41 : Bool) =>
    chk (v39 = false → (!v39) = true) <|
    ltO (v39 || v41) fun (v42 : Bool) =>
    cnd (v42) (
     some (.inr (.inr (false, ())))) (
     ltO (IntKind.i64.wrap (t37.snd.snd.snd.fst + (1 : Int))) fun (v43 : Int) =>
     some (.inl (t37.snd.snd.fst, v43, t37.snd.snd.snd.snd.snd.snd.snd.snd.snd.snd.fst, ())))) (fun r38 =>
    some (.inr (.inr (r38))))) (
   some (.inr (.inl ())))

noncomputable def terrierlaw02_MacAny_l0 (s : Int × Int × (List (List UInt8)) × Unit) : Option (Unit ⊕ (Bool × Unit)) := loopM (fun s : Int × Int × (List (List UInt8)) × Unit => terrierlaw02_MacAny_b0 s.1 s.2.1 s.2.2.1) s

noncomputable def terrierlaw02_MacAny (s' : List UInt8) (m : Int × Int × Int × Int × Int × Int) (at' : Int) (c : Int) : Option (Bool × Unit) :=
  bnd (terrierlaw02_awake) fun y0 =>
  cnd (!y0.fst) (
   some (false, ())) (
   bnd (mac_Text (m)) fun y1 =>
   ltO ((↑(ofBytes y1.fst).length : Int) != (17 : Int)) fun (v2 : Bool) =>
   cnd (v2) (
    some (false, ())) (
    chk (¬(17 : Int) = (0 : Int)) <|
    ltO (at'.tmod (17 : Int)) fun (v3 : Int) =>
    chk ((0 : Int) ≤ v3 ∧ v3 < (↑(ofBytes y1.fst).length : Int)) <|
    chk (v3.toNat < (ofBytes y1.fst).length) <|
    ltO (toBytes ((ofBytes y1.fst).set v3.toNat c)) fun (v4 : List UInt8) =>
    chk ((0 : Int) ≤ (0 : Int) ∧ (0 : Int) ≤ (16 : Int) ∧ (16 : Int) ≤ (↑((ofBytes y1.fst).set v3.toNat c).length : Int)) <|
    chk ((16 : Nat) ≤ ((ofBytes y1.fst).set v3.toNat c).length) <|
    ltO (toBytes (sliceA (0 : Nat) (16 : Nat) ((ofBytes y1.fst).set v3.toNat c))) fun (v5 : List UInt8) =>
    bnd (terrierlaw02_MacAny_l0 ((↑[s', v4, v5].length : Int), (0 : Int), [s', v4, v5], ())) fun y44 =>
    sumO y44 (fun t45 =>
     some (true, ())) (fun r46 =>
     some (r46))))

noncomputable def terrierlaw02_MacRound (a' : Int × Int × Int × Int × Int × Int) (b : Int × Int × Int × Int × Int × Int) : Option (Bool × Unit) :=
  bnd (terrierlaw02_awake) fun y0 =>
  cnd (!y0.fst) (
   some (false, ())) (
   bnd (mac_Text (a')) fun y1 =>
   bnd (mac_Text (b)) fun y2 =>
   ltO (y1.fst == y2.fst) fun (v3 : Bool) =>
   ltO (a'.fst == b.fst && (a'.snd.fst == b.snd.fst && (a'.snd.snd.fst == b.snd.snd.fst && (a'.snd.snd.snd.fst == b.snd.snd.snd.fst && (a'.snd.snd.snd.snd.fst == b.snd.snd.snd.snd.fst && a'.snd.snd.snd.snd.snd == b.snd.snd.snd.snd.snd))))) fun (v4 : Bool) =>
   ltO (v3 == v4) fun (v5 : Bool) =>
   chk (v5 = true → v5 = true) <|
   bndG (v5) (mac_Text (a')) ([], ()) fun y6 =>
   chk (v5 = true → v5 = true) <|
   chk (v5 = true → v5 = true) <|
   ltO ((↑y6.fst.length : Int) == (17 : Int)) fun (v7 : Bool) =>
   chk (v5 = true → v5 = true) <|
   ltO (v5 && v7) fun (v8 : Bool) =>
   some (v8, ()))

noncomputable def cmp_isNaN_byte_ (x : Int) : Option (Bool × Unit) :=
  ltO (x != x) fun (v0 : Bool) =>
  some (v0, ())

noncomputable def cmp_Compare_byte_ (x : Int) (y : Int) : Option (Int × Unit) :=
  bnd (cmp_isNaN_byte_ (x)) fun y0 =>
  bnd (cmp_isNaN_byte_ (y)) fun y1 =>
  cnd (y0.fst) (
   cnd (y1.fst) (
    some ((0 : Int), ())) (
    some ((-1 : Int), ()))) (
   cnd (y1.fst) (
    some ((1 : Int), ())) (
    cnd (decide (x < y)) (
     some ((-1 : Int), ())) (
     cnd (decide (x > y)) (
      some ((1 : Int), ())) (
      some ((0 : Int), ())))))

noncomputable def mac_Compare_b0 (t7 : Int) (a'_0 : Int) (a'_1 : Int) (a'_2 : Int) (a'_3 : Int) (a'_4 : Int) (a'_5 : Int) (b_0 : Int) (b_1 : Int) (b_2 : Int) (b_3 : Int) (b_4 : Int) (b_5 : Int) : Option ((Int × Int × Int × Int × Int × Int × Int × Int × Int × Int × Int × Int × Int × Unit) ⊕ (Unit ⊕ (Int × Unit))) :=
  cnd (decide (t7 < (6 : Int))) (
   chk ((0 : Int) ≤ t7 ∧ t7 < (6 : Int)) <|
   chk ((0 : Int) ≤ t7 ∧ t7 < (6 : Int)) <|
   bnd (cmp_Compare_byte_ ([a'_0, a'_1, a'_2, a'_3, a'_4, a'_5].getD t7.toNat (0 : Int)) ([b_0, b_1, b_2, b_3, b_4, b_5].getD t7.toNat (0 : Int))) fun y0 =>
   ltO (y0.fst != (0 : Int)) fun (v1 : Bool) =>
   cnd (v1) (
    some (.inr (.inr (y0.fst, ())))) (
    ltO (IntKind.i64.wrap (t7 + (1 : Int))) fun (v2 : Int) =>
    some (.inl (v2, a'_0, a'_1, a'_2, a'_3, a'_4, a'_5, b_0, b_1, b_2, b_3, b_4, b_5, ())))) (
   some (.inr (.inl ())))

noncomputable def mac_Compare_l0 (s : Int × Int × Int × Int × Int × Int × Int × Int × Int × Int × Int × Int × Int × Unit) : Option (Unit ⊕ (Int × Unit)) := loopM (fun s : Int × Int × Int × Int × Int × Int × Int × Int × Int × Int × Int × Int × Int × Unit => mac_Compare_b0 s.1 s.2.1 s.2.2.1 s.2.2.2.1 s.2.2.2.2.1 s.2.2.2.2.2.1 s.2.2.2.2.2.2.1 s.2.2.2.2.2.2.2.1 s.2.2.2.2.2.2.2.2.1 s.2.2.2.2.2.2.2.2.2.1 s.2.2.2.2.2.2.2.2.2.2.1 s.2.2.2.2.2.2.2.2.2.2.2.1 s.2.2.2.2.2.2.2.2.2.2.2.2.1) s

noncomputable def mac_Compare (a' : Int × Int × Int × Int × Int × Int) (b : Int × Int × Int × Int × Int × Int) : Option (Int × Unit) :=
  bnd (mac_Compare_l0 ((0 : Int), a'.fst, a'.snd.fst, a'.snd.snd.fst, a'.snd.snd.snd.fst, a'.snd.snd.snd.snd.fst, a'.snd.snd.snd.snd.snd, b.fst, b.snd.fst, b.snd.snd.fst, b.snd.snd.snd.fst, b.snd.snd.snd.snd.fst, b.snd.snd.snd.snd.snd, ())) fun y3 =>
  sumO y3 (fun t4 =>
   some ((0 : Int), ())) (fun r5 =>
   some (r5))

noncomputable def terrierlaw02_MacCompare_b0 (want : Int) (k : Int) (a'_0 : Int) (a'_1 : Int) (a'_2 : Int) (a'_3 : Int) (a'_4 : Int) (a'_5 : Int) (b_0 : Int) (b_1 : Int) (b_2 : Int) (b_3 : Int) (b_4 : Int) (b_5 : Int) (c_0 : Int) (c_1 : Int) (c_2 : Int) (c_3 : Int) (c_4 : Int) (c_5 : Int) (d_0 : Int) (d_1 : Int) (d_2 : Int) (d_3 : Int) (d_4 : Int) (d_5 : Int) : Option ((Int × Int × Int × Int × Int × Int × Int × Int × Int × Int × Int × Int × Int × Int × Int × Int × Int × Int × Int × Int × Int × Int × Int × Int × Int × Int × Unit) ⊕ ((Int × Int × Int × Int × Int × Int × Int × Int × Int × Int × Int × Int × Int × Int × Int × Int × Int × Int × Int × Int × Int × Int × Int × Int × Int × Unit) ⊕ (Bool × Unit))) :=
  cnd (decide (k ≥ (0 : Int))) (
   chk ((0 : Int) ≤ k ∧ k < (6 : Int)) <|
   chk ((0 : Int) ≤ k ∧ k < (6 : Int)) <|
   cnd (decide ([a'_0, a'_1, a'_2, a'_3, a'_4, a'_5].getD k.toNat (0 : Int) < [b_0, b_1, b_2, b_3, b_4, b_5].getD k.toNat (0 : Int))) (
    chk ((0 : Int) ≤ k ∧ k < (6 : Int)) <|
    chk ((0 : Int) ≤ k ∧ k < (6 : Int)) <|
    cnd (decide ([a'_0, a'_1, a'_2, a'_3, a'_4, a'_5].getD k.toNat (0 : Int) > [b_0, b_1, b_2, b_3, b_4, b_5].getD k.toNat (0 : Int))) (
     ltO (IntKind.i64.wrap (k - (1 : Int))) fun (v3 : Int) =>
     some (.inl ((1 : Int), v3, a'_0, a'_1, a'_2, a'_3, a'_4, a'_5, b_0, b_1, b_2, b_3, b_4, b_5, c_0, c_1, c_2, c_3, c_4, c_5, d_0, d_1, d_2, d_3, d_4, d_5, ()))) (
     ltO (IntKind.i64.wrap (k - (1 : Int))) fun (v4 : Int) =>
     some (.inl ((-1 : Int), v4, a'_0, a'_1, a'_2, a'_3, a'_4, a'_5, b_0, b_1, b_2, b_3, b_4, b_5, c_0, c_1, c_2, c_3, c_4, c_5, d_0, d_1, d_2, d_3, d_4, d_5, ())))) (
    chk ((0 : Int) ≤ k ∧ k < (6 : Int)) <|
    chk ((0 : Int) ≤ k ∧ k < (6 : Int)) <|
    cnd (decide ([a'_0, a'_1, a'_2, a'_3, a'_4, a'_5].getD k.toNat (0 : Int) > [b_0, b_1, b_2, b_3, b_4, b_5].getD k.toNat (0 : Int))) (
     ltO (IntKind.i64.wrap (k - (1 : Int))) fun (v5 : Int) =>
     some (.inl ((1 : Int), v5, a'_0, a'_1, a'_2, a'_3, a'_4, a'_5, b_0, b_1, b_2, b_3, b_4, b_5, c_0, c_1, c_2, c_3, c_4, c_5, d_0, d_1, d_2, d_3, d_4, d_5, ()))) (
     ltO (IntKind.i64.wrap (k - (1 : Int))) fun (v6 : Int) =>
     some (.inl (want, v6, a'_0, a'_1, a'_2, a'_3, a'_4, a'_5, b_0, b_1, b_2, b_3, b_4, b_5, c_0, c_1, c_2, c_3, c_4, c_5, d_0, d_1, d_2, d_3, d_4, d_5, ()))))) (
   some (.inr (.inl (want, a'_0, a'_1, a'_2, a'_3, a'_4, a'_5, b_0, b_1, b_2, b_3, b_4, b_5, c_0, c_1, c_2, c_3, c_4, c_5, d_0, d_1, d_2, d_3, d_4, d_5, ()))))

noncomputable def terrierlaw02_MacCompare_l0 (s : Int × Int × Int × Int × Int × Int × Int × Int × Int × Int × Int × Int × Int × Int × Int × Int × Int × Int × Int × Int × Int × Int × Int × Int × Int × Int × Unit) : Option ((Int × Int × Int × Int × Int × Int × Int × Int × Int × Int × Int × Int × Int × Int × Int × Int × Int × Int × Int × Int × Int × Int × Int × Int × Int × Unit) ⊕ (Bool × Unit)) := loopM (fun s : Int × Int × Int × Int × Int × Int × Int × Int × Int × Int × Int × Int × Int × Int × Int × Int × Int × Int × Int × Int × Int × Int × Int × Int × Int × Int × Unit => terrierlaw02_MacCompare_b0 s.1 s.2.1 s.2.2.1 s.2.2.2.1 s.2.2.2.2.1 s.2.2.2.2.2.1 s.2.2.2.2.2.2.1 s.2.2.2.2.2.2.2.1 s.2.2.2.2.2.2.2.2.1 s.2.2.2.2.2.2.2.2.2.1 s.2.2.2.2.2.2.2.2.2.2.1 s.2.2.2.2.2.2.2.2.2.2.2.1 s.2.2.2.2.2.2.2.2.2.2.2.2.1 s.2.2.2.2.2.2.2.2.2.2.2.2.2.1 s.2.2.2.2.2.2.2.2.2.2.2.2.2.2.1 s.2.2.2.2.2.2.2.2.2.2.2.2.2.2.2.1 s.2.2.2.2.2.2.2.2.2.2.2.2.2.2.2.2.1 s.2.2.2.2.2.2.2.2.2.2.2.2.2.2.2.2.2.1 s.2.2.2.2.2.2.2.2.2.2.2.2.2.2.2.2.2.2.1 s.2.2.2.2.2.2.2.2.2.2.2.2.2.2.2.2.2.2.2.1 s.2.2.2.2.2.2.2.2.2.2.2.2.2.2.2.2.2.2.2.2.1 s.2.2.2.2.2.2.2.2.2.2.2.2.2.2.2.2.2.2.2.2.2.1 s.2.2.2.2.2.2.2.2.2.2.2.2.2.2.2.2.2.2.2.2.2.2.1 s.2.2.2.2.2.2.2.2.2.2.2.2.2.2.2.2.2.2.2.2.2.2.2.1 s.2.2.2.2.2.2.2.2.2.2.2.2.2.2.2.2.2.2.2.2.2.2.2.2.1 s.2.2.2.2.2.2.2.2.2.2.2.2.2.2.2.2.2.2.2.2.2.2.2.2.2.1) s

noncomputable def terrierlaw02_MacCompare (a' : Int × Int × Int × Int × Int × Int) (b : Int × Int × Int × Int × Int × Int) (c : Int × Int × Int × Int × Int × Int) (at' : Int) : Option (Bool × Unit) :=
  bnd (terrierlaw02_awake) fun y0 =>
  cnd (!y0.fst) (
   some (false, ())) (
   chk (¬(6 : Int) = (0 : Int)) <|
   ltO (at'.tmod (6 : Int)) fun (v1 : Int) =>
   chk (¬(6 : Int) = (0 : Int)) <|
   ltO (at'.tmod (6 : Int)) fun (v2 : Int) =>
   chk ((0 : Int) ≤ v2 ∧ v2 < (6 : Int)) <|
   chk ((0 : Int) ≤ v1 ∧ v1 < (6 : Int)) <|
   bnd (terrierlaw02_MacCompare_l0 ((0 : Int), (5 : Int), a'.fst, a'.snd.fst, a'.snd.snd.fst, a'.snd.snd.snd.fst, a'.snd.snd.snd.snd.fst, a'.snd.snd.snd.snd.snd, b.fst, b.snd.fst, b.snd.snd.fst, b.snd.snd.snd.fst, b.snd.snd.snd.snd.fst, b.snd.snd.snd.snd.snd, c.fst, c.snd.fst, c.snd.snd.fst, c.snd.snd.snd.fst, c.snd.snd.snd.snd.fst, c.snd.snd.snd.snd.snd, ([a'.fst, a'.snd.fst, a'.snd.snd.fst, a'.snd.snd.snd.fst, a'.snd.snd.snd.snd.fst, a'.snd.snd.snd.snd.snd].set v1.toNat ([b.fst, b.snd.fst, b.snd.snd.fst, b.snd.snd.snd.fst, b.snd.snd.snd.snd.fst, b.snd.snd.snd.snd.snd].getD v2.toNat (0 : Int))).getD (0 : Nat) (0 : Int), ([a'.fst, a'.snd.fst, a'.snd.snd.fst, a'.snd.snd.snd.fst, a'.snd.snd.snd.snd.fst, a'.snd.snd.snd.snd.snd].set v1.toNat ([b.fst, b.snd.fst, b.snd.snd.fst, b.snd.snd.snd.fst, b.snd.snd.snd.snd.fst, b.snd.snd.snd.snd.snd].getD v2.toNat (0 : Int))).getD (1 : Nat) (0 : Int), ([a'.fst, a'.snd.fst, a'.snd.snd.fst, a'.snd.snd.snd.fst, a'.snd.snd.snd.snd.fst, a'.snd.snd.snd.snd.snd].set v1.toNat ([b.fst, b.snd.fst, b.snd.snd.fst, b.snd.snd.snd.fst, b.snd.snd.snd.snd.fst, b.snd.snd.snd.snd.snd].getD v2.toNat (0 : Int))).getD (2 : Nat) (0 : Int), ([a'.fst, a'.snd.fst, a'.snd.snd.fst, a'.snd.snd.snd.fst, a'.snd.snd.snd.snd.fst, a'.snd.snd.snd.snd.snd].set v1.toNat ([b.fst, b.snd.fst, b.snd.snd.fst, b.snd.snd.snd.fst, b.snd.snd.snd.snd.fst, b.snd.snd.snd.snd.snd].getD v2.toNat (0 : Int))).getD (3 : Nat) (0 : Int), ([a'.fst, a'.snd.fst, a'.snd.snd.fst, a'.snd.snd.snd.fst, a'.snd.snd.snd.snd.fst, a'.snd.snd.snd.snd.snd].set v1.toNat ([b.fst, b.snd.fst, b.snd.snd.fst, b.snd.snd.snd.fst, b.snd.snd.snd.snd.fst, b.snd.snd.snd.snd.snd].getD v2.toNat (0 : Int))).getD (4 : Nat) (0 : Int), ([a'.fst, a'.snd.fst, a'.snd.snd.fst, a'.snd.snd.snd.fst, a'.snd.snd.snd.snd.fst, a'.snd.snd.snd.snd.snd].set v1.toNat ([b.fst, b.snd.fst, b.snd.snd.fst, b.snd.snd.snd.fst, b.snd.snd.snd.snd.fst, b.snd.snd.snd.snd.snd].getD v2.toNat (0 : Int))).getD (5 : Nat) (0 : Int), ())) fun y7 =>
   sumO y7 (fun t8 =>
    bnd (mac_Compare ((t8.snd.fst, t8.snd.snd.fst, t8.snd.snd.snd.fst, t8.snd.snd.snd.snd.fst, t8.snd.snd.snd.snd.snd.fst, t8.snd.snd.snd.snd.snd.snd.fst)) ((t8.snd.snd.snd.snd.snd.snd.snd.fst, t8.snd.snd.snd.snd.snd.snd.snd.snd.fst, t8.snd.snd.snd.snd.snd.snd.snd.snd.snd.fst, t8.snd.snd.snd.snd.snd.snd.snd.snd.snd.snd.fst, t8.snd.snd.snd.snd.snd.snd.snd.snd.snd.snd.snd.fst, t8.snd.snd.snd.snd.snd.snd.snd.snd.snd.snd.snd.snd.fst))) fun y10 =>
    ltO (y10.fst != t8.fst) fun (v11 : Bool) =>
    chk ((!v11) = true → (!v11) = true) <|
    chk ((!v11) = true → (!v11) = true) <|
    bndG (!v11) (mac_Compare ((t8.snd.snd.snd.snd.snd.snd.snd.fst, t8.snd.snd.snd.snd.snd.snd.snd.snd.fst, t8.snd.snd.snd.snd.snd.snd.snd.snd.snd.fst, t8.snd.snd.snd.snd.snd.snd.snd.snd.snd.snd.fst, t8.snd.snd.snd.snd.snd.snd.snd.snd.snd.snd.snd.fst, t8.snd.snd.snd.snd.snd.snd.snd.snd.snd.snd.snd.snd.fst)) ((t8.snd.fst, t8.snd.snd.fst, t8.snd.snd.snd.fst, t8.snd.snd.snd.snd.fst, t8.snd.snd.snd.snd.snd.fst, t8.snd.snd.snd.snd.snd.snd.fst))) ((0 : Int), ()) fun y12 =>
    chk ((!v11) = true → (!v11) = true) <|
    ltO (IntKind.i64.wrap ((0 : Int) - t8.fst)) fun (v13 : Int) =>
    chk ((!v11) = true → (!v11) = true) <|
    chk ((!v11) = true → (!v11) = true) <|
    ltO (y12.fst != v13) fun (v14 : Bool) =>
    chk (v11 = false → (!v11) = true) <|
    ltO (v11 || v14) fun (v15 : Bool) =>
    chk ((!v15) = true → (!v15) = true) <|
    chk ((!v15) = true → (!v15) = true) <|
    bndG (!v15) (mac_Compare ((t8.snd.fst, t8.snd.snd.fst, t8.snd.snd.snd.fst, t8.snd.snd.snd.snd.fst, t8.snd.snd.snd.snd.snd.fst, t8.snd.snd.snd.snd.snd.snd.fst)) ((t8.snd.fst, t8.snd.snd.fst, t8.snd.snd.snd.fst, t8.snd.snd.snd.snd.fst, t8.snd.snd.snd.snd.snd.fst, t8.snd.snd.snd.snd.snd.snd.fst))) ((0 : Int), ()) fun y16 =>
    chk ((!v15) = true → (!v15) = true) <|
    ltO (y16.fst != (0 : Int)) fun (v17 : Bool) =>
    chk (v15 = false → (!v15) = true) <|
    ltO (v15 || v17) fun (v18 : Bool) =>
    chk ((!v18) = true → (!v18) = true) <|
    chk ((!v18) = true → (!v18) = true) <|
    bndG (!v18) (mac_Compare ((t8.snd.fst, t8.snd.snd.fst, t8.snd.snd.snd.fst, t8.snd.snd.snd.snd.fst, t8.snd.snd.snd.snd.snd.fst, t8.snd.snd.snd.snd.snd.snd.fst)) ((t8.snd.snd.snd.snd.snd.snd.snd.snd.snd.snd.snd.snd.snd.snd.snd.snd.snd.snd.snd.fst, t8.snd.snd.snd.snd.snd.snd.snd.snd.snd.snd.snd.snd.snd.snd.snd.snd.snd.snd.snd.snd.fst, t8.snd.snd.snd.snd.snd.snd.snd.snd.snd.snd.snd.snd.snd.snd.snd.snd.snd.snd.snd.snd.snd.fst, t8.snd.snd.snd.snd.snd.snd.snd.snd.snd.snd.snd.snd.snd.snd.snd.snd.snd.snd.snd.snd.snd.snd.fst, t8.snd.snd.snd.snd.snd.snd.snd.snd.snd.snd.snd.snd.snd.snd.snd.snd.snd.snd.snd.snd.snd.snd.snd.fst, t8.snd.snd.snd.snd.snd.snd.snd.snd.snd.snd.snd.snd.snd.snd.snd.snd.snd.snd.snd.snd.snd.snd.snd.snd.fst))) ((0 : Int), ()) fun y19 =>
    chk ((!v18) = true → (!v18) = true) <|
    ltO (y19.fst == (0 : Int)) fun (v20 : Bool) =>
    chk ((!v18) = true → (!v18) = true) <|
    chk ((!v18) = true → (!v18) = true) <|
    ltO (t8.snd.fst == t8.snd.snd.snd.snd.snd.snd.snd.snd.snd.snd.snd.snd.snd.snd.snd.snd.snd.snd.snd.fst && (t8.snd.snd.fst == t8.snd.snd.snd.snd.snd.snd.snd.snd.snd.snd.snd.snd.snd.snd.snd.snd.snd.snd.snd.snd.fst && (t8.snd.snd.snd.fst == t8.snd.snd.snd.snd.snd.snd.snd.snd.snd.snd.snd.snd.snd.snd.snd.snd.snd.snd.snd.snd.snd.fst && (t8.snd.snd.snd.snd.fst == t8.snd.snd.snd.snd.snd.snd.snd.snd.snd.snd.snd.snd.snd.snd.snd.snd.snd.snd.snd.snd.snd.snd.fst && (t8.snd.snd.snd.snd.snd.fst == t8.snd.snd.snd.snd.snd.snd.snd.snd.snd.snd.snd.snd.snd.snd.snd.snd.snd.snd.snd.snd.snd.snd.snd.fst && t8.snd.snd.snd.snd.snd.snd.fst == t8.snd.snd.snd.snd.snd.snd.snd.snd.snd.snd.snd.snd.snd.snd.snd.snd.snd.snd.snd.snd.snd.snd.snd.snd.fst))))) fun (v21 : Bool) =>
    chk ((!v18) = true → (!v18) = true) <|
    chk ((!v18) = true → (!v18) = true) <|
    ltO (!v20 == v21) fun (v22 : Bool) =>
    chk (v18 = false → (!v18) = true) <|
    ltO (v18 || v22) fun (v23 : Bool) =>
    cnd (v23) (
     some (false, ())) (
     bnd (mac_Compare ((t8.snd.fst, t8.snd.snd.fst, t8.snd.snd.snd.fst, t8.snd.snd.snd.snd.fst, t8.snd.snd.snd.snd.snd.fst, t8.snd.snd.snd.snd.snd.snd.fst)) ((t8.snd.snd.snd.snd.snd.snd.snd.fst, t8.snd.snd.snd.snd.snd.snd.snd.snd.fst, t8.snd.snd.snd.snd.snd.snd.snd.snd.snd.fst, t8.snd.snd.snd.snd.snd.snd.snd.snd.snd.snd.fst, t8.snd.snd.snd.snd.snd.snd.snd.snd.snd.snd.snd.fst, t8.snd.snd.snd.snd.snd.snd.snd.snd.snd.snd.snd.snd.fst))) fun y24 =>
     chk ((!decide (y24.fst > (0 : Int))) = true → (!decide (y24.fst > (0 : Int))) = true) <|
     chk ((!decide (y24.fst > (0 : Int))) = true → (!decide (y24.fst > (0 : Int))) = true) <|
     bndG (!decide (y24.fst > (0 : Int))) (mac_Compare ((t8.snd.snd.snd.snd.snd.snd.snd.fst, t8.snd.snd.snd.snd.snd.snd.snd.snd.fst, t8.snd.snd.snd.snd.snd.snd.snd.snd.snd.fst, t8.snd.snd.snd.snd.snd.snd.snd.snd.snd.snd.fst, t8.snd.snd.snd.snd.snd.snd.snd.snd.snd.snd.snd.fst, t8.snd.snd.snd.snd.snd.snd.snd.snd.snd.snd.snd.snd.fst)) ((t8.snd.snd.snd.snd.snd.snd.snd.snd.snd.snd.snd.snd.snd.fst, t8.snd.snd.snd.snd.snd.snd.snd.snd.snd.snd.snd.snd.snd.snd.fst, t8.snd.snd.snd.snd.snd.snd.snd.snd.snd.snd.snd.snd.snd.snd.snd.fst, t8.snd.snd.snd.snd.snd.snd.snd.snd.snd.snd.snd.snd.snd.snd.snd.snd.fst, t8.snd.snd.snd.snd.snd.snd.snd.snd.snd.snd.snd.snd.snd.snd.snd.snd.snd.fst, t8.snd.snd.snd.snd.snd.snd.snd.snd.snd.snd.snd.snd.snd.snd.snd.snd.snd.snd.fst))) ((0 : Int), ()) fun y25 =>
     chk ((!decide (y24.fst > (0 : Int))) = true → (!decide (y24.fst > (0 : Int))) = true) <|
     chk (decide (y24.fst > (0 : Int)) = false → (!decide (y24.fst > (0 : Int))) = true) <|
     ltO (decide (y24.fst > (0 : Int)) || decide (y25.fst > (0 : Int))) fun (v26 : Bool) =>
     chk ((!v26) = true → (!v26) = true) <|
     chk ((!v26) = true → (!v26) = true) <|
     bndG (!v26) (mac_Compare ((t8.snd.fst, t8.snd.snd.fst, t8.snd.snd.snd.fst, t8.snd.snd.snd.snd.fst, t8.snd.snd.snd.snd.snd.fst, t8.snd.snd.snd.snd.snd.snd.fst)) ((t8.snd.snd.snd.snd.snd.snd.snd.snd.snd.snd.snd.snd.snd.fst, t8.snd.snd.snd.snd.snd.snd.snd.snd.snd.snd.snd.snd.snd.snd.fst, t8.snd.snd.snd.snd.snd.snd.snd.snd.snd.snd.snd.snd.snd.snd.snd.fst, t8.snd.snd.snd.snd.snd.snd.snd.snd.snd.snd.snd.snd.snd.snd.snd.snd.fst, t8.snd.snd.snd.snd.snd.snd.snd.snd.snd.snd.snd.snd.snd.snd.snd.snd.snd.fst, t8.snd.snd.snd.snd.snd.snd.snd.snd.snd.snd.snd.snd.snd.snd.snd.snd.snd.snd.fst))) ((0 : Int), ()) fun y27 =>
     chk ((!v26) = true → (!v26) = true) <|
     chk (v26 = false → (!v26) = true) <|
     ltO (v26 || decide (y27.fst ≤ (0 : Int))) fun (v28 : Bool) =>
     some (v28, ()))) (fun r9 =>
    some (r9)))

end Go.Tr
