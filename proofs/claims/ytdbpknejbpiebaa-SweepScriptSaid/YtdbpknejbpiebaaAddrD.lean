/- The functions that these laws reach, as Lean functions: printed by a program of this session's. Conditions: none. -/
import Derived.Test.YtdbpknejbpiebaaBD
import Derived.Test.YtdbpknejbpiebaaBE

namespace Go.Tr
open Go
set_option linter.unusedVariables false
set_option maxRecDepth 100000

noncomputable def addr_number_b0 (s' : List UInt8) (most : Int) (n : Int) (t26 : Int) (t27 : Int) : Option (((List UInt8) × Int × Int × Int × Int × Unit) ⊕ ((Int × Int × Unit) ⊕ (Int × Bool × Unit))) :=
  cnd (decide (t27 < t26)) (
   chk ((0 : Int) ≤ t27 ∧ t27 < (↑s'.length : Int)) <|
   ltO ((↑(s'.getD t27.toNat (0 : UInt8)).toNat : Int)) fun (v6 : Int) =>
   chk ((!decide (v6 < (48 : Int))) = true → (!decide (v6 < (48 : Int))) = true) <|
   chk ((!decide (v6 < (48 : Int))) = true → (!decide (v6 < (48 : Int))) = true) <|
   chk ((!decide (v6 < (48 : Int))) = true → (0 : Int) ≤ t27 ∧ t27 < (↑s'.length : Int)) <|
   ltO ((↑(s'.getD t27.toNat (0 : UInt8)).toNat : Int)) fun (v7 : Int) =>
   chk ((!decide (v6 < (48 : Int))) = true → (!decide (v6 < (48 : Int))) = true) <|
   chk (decide (v6 < (48 : Int)) = false → (!decide (v6 < (48 : Int))) = true) <|
   ltO (decide (v6 < (48 : Int)) || decide (v7 > (57 : Int))) fun (v8 : Bool) =>
   cnd (v8) (
    some (.inr (.inr ((0 : Int), false, ())))) (
    ltO (IntKind.i64.wrap ((10 : Int) * n)) fun (v9 : Int) =>
    chk ((0 : Int) ≤ t27 ∧ t27 < (↑s'.length : Int)) <|
    ltO ((↑(s'.getD t27.toNat (0 : UInt8)).toNat : Int)) fun (v10 : Int) =>
    ltO (IntKind.u8.wrap (v10 - (48 : Int))) fun (v11 : Int) =>
    ltO (IntKind.i64.wrap v11) fun (v12 : Int) =>
    ltO (IntKind.i64.wrap (v9 + v12)) fun (v13 : Int) =>
    ltO (IntKind.i64.wrap (t27 + (1 : Int))) fun (v14 : Int) =>
    some (.inl (s', most, v13, t26, v14, ())))) (
   some (.inr (.inl (most, n, ()))))

noncomputable def addr_number_l0 (s : (List UInt8) × Int × Int × Int × Int × Unit) : Option ((Int × Int × Unit) ⊕ (Int × Bool × Unit)) := loopM (fun s : (List UInt8) × Int × Int × Int × Int × Unit => addr_number_b0 s.1 s.2.1 s.2.2.1 s.2.2.2.1 s.2.2.2.2.1) s

noncomputable def addr_number (s' : List UInt8) (most : Int) : Option (Int × Bool × Unit) :=
  ltO (s' == []) fun (v0 : Bool) =>
  chk ((!v0) = true → (!v0) = true) <|
  chk ((!v0) = true → (!v0) = true) <|
  chk (v0 = false → (!v0) = true) <|
  ltO (v0 || decide ((↑s'.length : Int) > (3 : Int))) fun (v1 : Bool) =>
  chk ((!v1) = true → (!v1) = true) <|
  chk ((!v1) = true → (!v1) = true) <|
  chk ((!v1) = true → (!v1) = true) <|
  chk ((!v1 && decide ((↑s'.length : Int) > (1 : Int))) = true → (!v1 && decide ((↑s'.length : Int) > (1 : Int))) = true) <|
  chk ((!v1 && decide ((↑s'.length : Int) > (1 : Int))) = true → (0 : Int) ≤ (0 : Int) ∧ (0 : Int) < (↑s'.length : Int)) <|
  ltO ((↑(s'.getD (0 : Nat) (0 : UInt8)).toNat : Int)) fun (v2 : Int) =>
  chk ((!v1 && decide ((↑s'.length : Int) > (1 : Int))) = true → (!v1 && decide ((↑s'.length : Int) > (1 : Int))) = true) <|
  ltO (v2 == (48 : Int)) fun (v3 : Bool) =>
  chk ((!v1) = true → (!v1) = true) <|
  chk ((!v1) = true → decide ((↑s'.length : Int) > (1 : Int)) = true → (!v1 && decide ((↑s'.length : Int) > (1 : Int))) = true) <|
  ltO (decide ((↑s'.length : Int) > (1 : Int)) && v3) fun (v4 : Bool) =>
  chk (v1 = false → (!v1) = true) <|
  ltO (v1 || v4) fun (v5 : Bool) =>
  cnd (v5) (
   some ((0 : Int), false, ())) (
   bnd (addr_number_l0 (s', most, (0 : Int), (↑s'.length : Int), (0 : Int), ())) fun y15 =>
   sumO y15 (fun t16 =>
    some (t16.snd.fst, decide (t16.snd.fst ≤ t16.fst), ())) (fun r17 =>
    some (r17)))

noncomputable def addr_Parse_b0 (a' : Int) (t15 : List (List UInt8)) (t16 : Int) (t17 : Int) : Option ((Int × (List (List UInt8)) × Int × Int × Unit) ⊕ ((Int × Unit) ⊕ (Int × Bool × Unit))) :=
  cnd (decide (t17 < t16)) (
   chk ((0 : Int) ≤ t17 ∧ t17 < (↑t15.length : Int)) <|
   ltO (t15.getD t17.toNat []) fun (v2 : List UInt8) =>
   bnd (addr_number (v2) ((255 : Int))) fun y3 =>
   cnd (!y3.snd.fst) (
    some (.inr (.inr ((0 : Int), false, ())))) (
    chk ((0 : Int) ≤ (8 : Int)) <|
    ltO (shlI IntKind.u32 a' (8 : Int)) fun (v4 : Int) =>
    ltO (IntKind.u32.wrap y3.fst) fun (v5 : Int) =>
    ltO (IntKind.u32.wrap (borI IntKind.u32 v4 v5)) fun (v6 : Int) =>
    ltO (IntKind.i64.wrap (t17 + (1 : Int))) fun (v7 : Int) =>
    some (.inl (v6, t15, t16, v7, ())))) (
   some (.inr (.inl (a', ()))))

noncomputable def addr_Parse_l0 (s : Int × (List (List UInt8)) × Int × Int × Unit) : Option ((Int × Unit) ⊕ (Int × Bool × Unit)) := loopM (fun s : Int × (List (List UInt8)) × Int × Int × Unit => addr_Parse_b0 s.1 s.2.1 s.2.2.1 s.2.2.2.1) s

noncomputable def addr_Parse (s' : List UInt8) : Option (Int × Bool × Unit) :=
  bnd (strings_Split (s') ([(46 : UInt8)])) fun y0 =>
  ltO ((↑y0.fst.length : Int) != (4 : Int)) fun (v1 : Bool) =>
  cnd (v1) (
   some ((0 : Int), false, ())) (
   bnd (addr_Parse_l0 ((0 : Int), y0.fst, (↑y0.fst.length : Int), (0 : Int), ())) fun y8 =>
   sumO y8 (fun t9 =>
    some (t9.fst, true, ())) (fun r10 =>
    some (r10)))

noncomputable def addr_mask (bits : Int) : Option (Int × Unit) :=
  ltO (IntKind.i64.wrap ((32 : Int) - bits)) fun (v0 : Int) =>
  chk ((0 : Int) ≤ v0) <|
  ltO (shlI IntKind.u32 (4294967295 : Int) v0) fun (v1 : Int) =>
  some (v1, ())

noncomputable def addr_Right (b : Int × Int) : Option (Bool × Unit) :=
  chk (decide (b.snd ≥ (0 : Int)) = true → decide (b.snd ≥ (0 : Int)) = true) <|
  chk (decide (b.snd ≥ (0 : Int)) = true → decide (b.snd ≥ (0 : Int)) = true) <|
  chk (decide (b.snd ≥ (0 : Int)) = true → decide (b.snd ≥ (0 : Int)) = true) <|
  ltO (decide (b.snd ≥ (0 : Int)) && decide (b.snd ≤ (32 : Int))) fun (v0 : Bool) =>
  chk (v0 = true → v0 = true) <|
  chk (v0 = true → v0 = true) <|
  chk (v0 = true → v0 = true) <|
  bndG (v0) (addr_mask (b.snd)) ((0 : Int), ()) fun y1 =>
  chk (v0 = true → v0 = true) <|
  chk (v0 = true → v0 = true) <|
  ltO (IntKind.u32.wrap (bandnI IntKind.u32 b.fst y1.fst)) fun (v2 : Int) =>
  chk (v0 = true → v0 = true) <|
  ltO (v2 == (0 : Int)) fun (v3 : Bool) =>
  chk (v0 = true → v0 = true) <|
  ltO (v0 && v3) fun (v4 : Bool) =>
  some (v4, ())

noncomputable def addr_ParseBlock (s' : List UInt8) : Option ((Int × Int) × Bool × Unit) :=
  bnd (strings_Cut (s') ([(47 : UInt8)])) fun y0 =>
  bnd (addr_Parse (y0.fst)) fun y1 =>
  bnd (addr_number (y0.snd.fst) ((32 : Int))) fun y2 =>
  chk ((!!y0.snd.snd.fst) = true → (!!y0.snd.snd.fst) = true) <|
  chk ((!y0.snd.snd.fst) = false → (!!y0.snd.snd.fst) = true) <|
  ltO (!y0.snd.snd.fst || !y1.snd.fst) fun (v3 : Bool) =>
  chk ((!v3) = true → (!v3) = true) <|
  chk (v3 = false → (!v3) = true) <|
  ltO (v3 || !y2.snd.fst) fun (v4 : Bool) =>
  chk ((!v4) = true → (!v4) = true) <|
  bndG (!v4) (addr_Right ((y1.fst, y2.fst))) (false, ()) fun y5 =>
  chk ((!v4) = true → (!v4) = true) <|
  chk (v4 = false → (!v4) = true) <|
  ltO (v4 || !y5.fst) fun (v6 : Bool) =>
  cnd (v6) (
   some (((0 : Int), (0 : Int)), false, ())) (
   some ((y1.fst, y2.fst), true, ()))

noncomputable def addr_Halves (b : Int × Int) : Option ((Int × Int) × (Int × Int) × Bool × Unit) :=
  bnd (addr_Right (b)) fun y0 =>
  chk ((!!y0.fst) = true → (!!y0.fst) = true) <|
  chk ((!!y0.fst) = true → (!!y0.fst) = true) <|
  ltO (b.snd == (32 : Int)) fun (v1 : Bool) =>
  chk ((!y0.fst) = false → (!!y0.fst) = true) <|
  ltO (!y0.fst || v1) fun (v2 : Bool) =>
  cnd (v2) (
   some (((0 : Int), (0 : Int)), ((0 : Int), (0 : Int)), false, ())) (
   ltO (IntKind.i64.wrap (b.snd + (1 : Int))) fun (v3 : Int) =>
   ltO (IntKind.i64.wrap ((32 : Int) - v3)) fun (v4 : Int) =>
   chk ((0 : Int) ≤ v4) <|
   ltO (shlI IntKind.u32 (1 : Int) v4) fun (v5 : Int) =>
   ltO (IntKind.u32.wrap (borI IntKind.u32 b.fst v5)) fun (v6 : Int) =>
   some ((b.fst, v3), (v6, v3), true, ()))

noncomputable def addr_Text_b0 (a' : Int) (k : Int) (parts : List (List UInt8)) : Option ((Int × Int × (List (List UInt8)) × Unit) ⊕ (((List (List UInt8)) × Unit) ⊕ ((List UInt8) × Unit))) :=
  cnd (decide (k ≥ (0 : Int))) (
   ltO (IntKind.i64.wrap ((8 : Int) * k)) fun (v0 : Int) =>
   chk ((0 : Int) ≤ v0) <|
   ltO (shrI IntKind.u32 a' v0) fun (v1 : Int) =>
   ltO (IntKind.u32.wrap (bandI IntKind.u32 v1 (255 : Int))) fun (v2 : Int) =>
   ltO (IntKind.i64.wrap v2) fun (v3 : Int) =>
   bnd (strconv_Itoa (v3)) fun y4 =>
   chk (room (16 : Nat) (parts.length + [y4.fst].length)) <|
   ltO (IntKind.i64.wrap (k - (1 : Int))) fun (v5 : Int) =>
   some (.inl (a', v5, parts ++ [y4.fst], ()))) (
   some (.inr (.inl (parts, ()))))

noncomputable def addr_Text_l0 (s : Int × Int × (List (List UInt8)) × Unit) : Option (((List (List UInt8)) × Unit) ⊕ ((List UInt8) × Unit)) := loopM (fun s : Int × Int × (List (List UInt8)) × Unit => addr_Text_b0 s.1 s.2.1 s.2.2.1) s

noncomputable def addr_Text (a' : Int) : Option ((List UInt8) × Unit) :=
  bnd (addr_Text_l0 (a', (3 : Int), [], ())) fun y6 =>
  sumO y6 (fun t7 =>
   bnd (strings_Join (t7.fst) ([(46 : UInt8)])) fun y9 =>
   some (y9.fst, ())) (fun r8 =>
   some (r8))

noncomputable def addr_Size (b : Int × Int) : Option (Int × Unit) :=
  bnd (addr_Right (b)) fun y0 =>
  cnd (!y0.fst) (
   some ((0 : Int), ())) (
   ltO (IntKind.i64.wrap ((32 : Int) - b.snd)) fun (v1 : Int) =>
   chk ((0 : Int) ≤ v1) <|
   ltO (shlI IntKind.i64 (1 : Int) v1) fun (v2 : Int) =>
   some (v2, ()))

noncomputable def terrierlaw01_awake : Option (Bool × Unit) :=
  bnd (addr_Parse ([(49 : UInt8), (48 : UInt8), (46 : UInt8), (48 : UInt8), (46 : UInt8), (48 : UInt8), (46 : UInt8), (49 : UInt8)])) fun y0 =>
  bnd (addr_ParseBlock ([(49 : UInt8), (48 : UInt8), (46 : UInt8), (48 : UInt8), (46 : UInt8), (48 : UInt8), (46 : UInt8), (48 : UInt8), (47 : UInt8), (51 : UInt8), (49 : UInt8)])) fun y1 =>
  bnd (addr_Halves (y1.fst)) fun y2 =>
  chk (y0.snd.fst = true → y0.snd.fst = true) <|
  ltO (y0.snd.fst && y1.snd.fst) fun (v3 : Bool) =>
  chk (v3 = true → v3 = true) <|
  ltO (v3 && y2.snd.snd.fst) fun (v4 : Bool) =>
  chk (v4 = true → v4 = true) <|
  ltO (y0.fst == (167772161 : Int)) fun (v5 : Bool) =>
  chk (v4 = true → v4 = true) <|
  ltO (v4 && v5) fun (v6 : Bool) =>
  chk (v6 = true → v6 = true) <|
  bndG (v6) (addr_Text (y0.fst)) ([], ()) fun y7 =>
  chk (v6 = true → v6 = true) <|
  ltO (y7.fst == [(49 : UInt8), (48 : UInt8), (46 : UInt8), (48 : UInt8), (46 : UInt8), (48 : UInt8), (46 : UInt8), (49 : UInt8)]) fun (v8 : Bool) =>
  chk (v6 = true → v6 = true) <|
  ltO (v6 && v8) fun (v9 : Bool) =>
  chk (v9 = true → v9 = true) <|
  chk (v9 = true → v9 = true) <|
  ltO (y2.fst.snd == (32 : Int)) fun (v10 : Bool) =>
  chk (v9 = true → v9 = true) <|
  ltO (v9 && v10) fun (v11 : Bool) =>
  chk (v11 = true → v11 = true) <|
  chk (v11 = true → v11 = true) <|
  chk (v11 = true → v11 = true) <|
  ltO (y2.snd.fst.fst == y0.fst) fun (v12 : Bool) =>
  chk (v11 = true → v11 = true) <|
  ltO (v11 && v12) fun (v13 : Bool) =>
  chk (v13 = true → v13 = true) <|
  bndG (v13) (addr_Size (y1.fst)) ((0 : Int), ()) fun y14 =>
  chk (v13 = true → v13 = true) <|
  ltO (y14.fst == (2 : Int)) fun (v15 : Bool) =>
  chk (v13 = true → v13 = true) <|
  ltO (v13 && v15) fun (v16 : Bool) =>
  some (v16, ())

noncomputable def terrierlaw01_digits_s (self : Int → Option ((List UInt8) × Unit)) (n : Int) : Option ((List UInt8) × Unit) :=
  cnd (decide (n < (10 : Int))) (
   ltO (IntKind.i64.wrap (n + (1 : Int))) fun (v0 : Int) =>
   chk ((0 : Int) ≤ n ∧ n ≤ v0 ∧ v0 ≤ (10 : Int)) <|
   some (sliceA n.toNat v0.toNat [(48 : UInt8), (49 : UInt8), (50 : UInt8), (51 : UInt8), (52 : UInt8), (53 : UInt8), (54 : UInt8), (55 : UInt8), (56 : UInt8), (57 : UInt8)], ())) (
   chk (¬(10 : Int) = (0 : Int)) <|
   ltO (IntKind.i64.wrap (n.tdiv (10 : Int))) fun (v1 : Int) =>
   bnd (self (v1)) fun y2 =>
   chk (¬(10 : Int) = (0 : Int)) <|
   ltO (n.tmod (10 : Int)) fun (v3 : Int) =>
   bnd (self (v3)) fun y4 =>
   chk ((↑(y2.fst.length + y4.fst.length) : Int) ≤ (9223372036854775807 : Int)) <|
   ltO (y2.fst ++ y4.fst) fun (v5 : List UInt8) =>
   some (v5, ()))

noncomputable def terrierlaw01_digits_k : Nat → Int → Option ((List UInt8) × Unit)
  | 0 => fun _ => none
  | k + 1 => fun x0 => terrierlaw01_digits_s (terrierlaw01_digits_k k) x0

noncomputable def terrierlaw01_digits : Int → Option ((List UInt8) × Unit) := terrierlaw01_digits_k 4

noncomputable def terrierlaw01_AddrNumbers (a' : Int) (b : Int) (c : Int) (zero : Bool) : Option (Bool × Unit) :=
  bnd (terrierlaw01_awake) fun y0 =>
  cnd (!y0.fst) (
   some (false, ())) (
   chk (¬(400 : Int) = (0 : Int)) <|
   ltO (c.tmod (400 : Int)) fun (v1 : Int) =>
   ltO (IntKind.i64.wrap v1) fun (v2 : Int) =>
   bnd (terrierlaw01_digits (v2)) fun y3 =>
   cnd (zero) (
    chk ((↑((1 : Nat) + y3.fst.length) : Int) ≤ (9223372036854775807 : Int)) <|
    ltO ([(48 : UInt8)] ++ y3.fst) fun (v4 : List UInt8) =>
    ltO (IntKind.i64.wrap a') fun (v5 : Int) =>
    bnd (terrierlaw01_digits (v5)) fun y6 =>
    chk ((↑(y6.fst.length + (1 : Nat)) : Int) ≤ (9223372036854775807 : Int)) <|
    ltO (y6.fst ++ [(46 : UInt8)]) fun (v7 : List UInt8) =>
    chk ((↑(v7.length + v4.length) : Int) ≤ (9223372036854775807 : Int)) <|
    ltO (v7 ++ v4) fun (v8 : List UInt8) =>
    chk ((↑(v8.length + (1 : Nat)) : Int) ≤ (9223372036854775807 : Int)) <|
    ltO (v8 ++ [(46 : UInt8)]) fun (v9 : List UInt8) =>
    ltO (IntKind.i64.wrap b) fun (v10 : Int) =>
    bnd (terrierlaw01_digits (v10)) fun y11 =>
    chk ((↑(v9.length + y11.fst.length) : Int) ≤ (9223372036854775807 : Int)) <|
    ltO (v9 ++ y11.fst) fun (v12 : List UInt8) =>
    chk ((↑(v12.length + (2 : Nat)) : Int) ≤ (9223372036854775807 : Int)) <|
    ltO (v12 ++ [(46 : UInt8), (48 : UInt8)]) fun (v13 : List UInt8) =>
    bnd (addr_Parse (v13)) fun y14 =>
    chk (decide (v2 < (256 : Int)) = true → decide (v2 < (256 : Int)) = true) <|
    chk (decide (v2 < (256 : Int)) = true → decide (v2 < (256 : Int)) = true) <|
    ltO (decide (v2 < (256 : Int)) && !zero) fun (v15 : Bool) =>
    ltO (y14.snd.fst == v15) fun (v16 : Bool) =>
    chk (v16 = true → v16 = true) <|
    chk (v16 = true → v16 = true) <|
    chk ((v16 && !v15) = true → (v16 && !v15) = true) <|
    ltO (y14.fst == (0 : Int)) fun (v17 : Bool) =>
    chk (v16 = true → v16 = true) <|
    chk (v16 = true → (!v15) = true → (v16 && !v15) = true) <|
    ltO (!v15 && v17) fun (v18 : Bool) =>
    chk (v16 = true → v16 = true) <|
    chk ((v16 && !v18) = true → (v16 && !v18) = true) <|
    chk ((v16 && !v18 && v15) = true → (v16 && !v18 && v15) = true) <|
    ltO (IntKind.u32.wrap a') fun (v19 : Int) =>
    chk ((v16 && !v18 && v15) = true → (v16 && !v18 && v15) = true) <|
    chk ((v16 && !v18 && v15) = true → (0 : Int) ≤ (24 : Int)) <|
    ltO (shlI IntKind.u32 v19 (24 : Int)) fun (v20 : Int) =>
    chk ((v16 && !v18 && v15) = true → (v16 && !v18 && v15) = true) <|
    ltO (IntKind.u32.wrap v2) fun (v21 : Int) =>
    chk ((v16 && !v18 && v15) = true → (v16 && !v18 && v15) = true) <|
    chk ((v16 && !v18 && v15) = true → (0 : Int) ≤ (16 : Int)) <|
    ltO (shlI IntKind.u32 v21 (16 : Int)) fun (v22 : Int) =>
    chk ((v16 && !v18 && v15) = true → (v16 && !v18 && v15) = true) <|
    chk ((v16 && !v18 && v15) = true → (v16 && !v18 && v15) = true) <|
    ltO (IntKind.u32.wrap (v20 + v22)) fun (v23 : Int) =>
    chk ((v16 && !v18 && v15) = true → (v16 && !v18 && v15) = true) <|
    ltO (IntKind.u32.wrap b) fun (v24 : Int) =>
    chk ((v16 && !v18 && v15) = true → (v16 && !v18 && v15) = true) <|
    chk ((v16 && !v18 && v15) = true → (0 : Int) ≤ (8 : Int)) <|
    ltO (shlI IntKind.u32 v24 (8 : Int)) fun (v25 : Int) =>
    chk ((v16 && !v18 && v15) = true → (v16 && !v18 && v15) = true) <|
    chk ((v16 && !v18 && v15) = true → (v16 && !v18 && v15) = true) <|
    ltO (IntKind.u32.wrap (v23 + v25)) fun (v26 : Int) =>
    chk ((v16 && !v18 && v15) = true → (v16 && !v18 && v15) = true) <|
    chk ((v16 && !v18 && v15) = true → (v16 && !v18 && v15) = true) <|
    ltO (y14.fst == v26) fun (v27 : Bool) =>
    chk ((v16 && !v18) = true → (v16 && !v18) = true) <|
    chk ((v16 && !v18) = true → v15 = true → (v16 && !v18 && v15) = true) <|
    ltO (v15 && v27) fun (v28 : Bool) =>
    chk (v16 = true → v16 = true) <|
    chk (v16 = true → v18 = false → (v16 && !v18) = true) <|
    ltO (v18 || v28) fun (v29 : Bool) =>
    chk (v16 = true → v16 = true) <|
    ltO (v16 && v29) fun (v30 : Bool) =>
    some (v30, ())) (
    ltO (IntKind.i64.wrap a') fun (v31 : Int) =>
    bnd (terrierlaw01_digits (v31)) fun y32 =>
    chk ((↑(y32.fst.length + (1 : Nat)) : Int) ≤ (9223372036854775807 : Int)) <|
    ltO (y32.fst ++ [(46 : UInt8)]) fun (v33 : List UInt8) =>
    chk ((↑(v33.length + y3.fst.length) : Int) ≤ (9223372036854775807 : Int)) <|
    ltO (v33 ++ y3.fst) fun (v34 : List UInt8) =>
    chk ((↑(v34.length + (1 : Nat)) : Int) ≤ (9223372036854775807 : Int)) <|
    ltO (v34 ++ [(46 : UInt8)]) fun (v35 : List UInt8) =>
    ltO (IntKind.i64.wrap b) fun (v36 : Int) =>
    bnd (terrierlaw01_digits (v36)) fun y37 =>
    chk ((↑(v35.length + y37.fst.length) : Int) ≤ (9223372036854775807 : Int)) <|
    ltO (v35 ++ y37.fst) fun (v38 : List UInt8) =>
    chk ((↑(v38.length + (2 : Nat)) : Int) ≤ (9223372036854775807 : Int)) <|
    ltO (v38 ++ [(46 : UInt8), (48 : UInt8)]) fun (v39 : List UInt8) =>
    bnd (addr_Parse (v39)) fun y40 =>
    chk (decide (v2 < (256 : Int)) = true → decide (v2 < (256 : Int)) = true) <|
    chk (decide (v2 < (256 : Int)) = true → decide (v2 < (256 : Int)) = true) <|
    ltO (decide (v2 < (256 : Int)) && !zero) fun (v41 : Bool) =>
    ltO (y40.snd.fst == v41) fun (v42 : Bool) =>
    chk (v42 = true → v42 = true) <|
    chk (v42 = true → v42 = true) <|
    chk ((v42 && !v41) = true → (v42 && !v41) = true) <|
    ltO (y40.fst == (0 : Int)) fun (v43 : Bool) =>
    chk (v42 = true → v42 = true) <|
    chk (v42 = true → (!v41) = true → (v42 && !v41) = true) <|
    ltO (!v41 && v43) fun (v44 : Bool) =>
    chk (v42 = true → v42 = true) <|
    chk ((v42 && !v44) = true → (v42 && !v44) = true) <|
    chk ((v42 && !v44 && v41) = true → (v42 && !v44 && v41) = true) <|
    ltO (IntKind.u32.wrap a') fun (v45 : Int) =>
    chk ((v42 && !v44 && v41) = true → (v42 && !v44 && v41) = true) <|
    chk ((v42 && !v44 && v41) = true → (0 : Int) ≤ (24 : Int)) <|
    ltO (shlI IntKind.u32 v45 (24 : Int)) fun (v46 : Int) =>
    chk ((v42 && !v44 && v41) = true → (v42 && !v44 && v41) = true) <|
    ltO (IntKind.u32.wrap v2) fun (v47 : Int) =>
    chk ((v42 && !v44 && v41) = true → (v42 && !v44 && v41) = true) <|
    chk ((v42 && !v44 && v41) = true → (0 : Int) ≤ (16 : Int)) <|
    ltO (shlI IntKind.u32 v47 (16 : Int)) fun (v48 : Int) =>
    chk ((v42 && !v44 && v41) = true → (v42 && !v44 && v41) = true) <|
    chk ((v42 && !v44 && v41) = true → (v42 && !v44 && v41) = true) <|
    ltO (IntKind.u32.wrap (v46 + v48)) fun (v49 : Int) =>
    chk ((v42 && !v44 && v41) = true → (v42 && !v44 && v41) = true) <|
    ltO (IntKind.u32.wrap b) fun (v50 : Int) =>
    chk ((v42 && !v44 && v41) = true → (v42 && !v44 && v41) = true) <|
    chk ((v42 && !v44 && v41) = true → (0 : Int) ≤ (8 : Int)) <|
    ltO (shlI IntKind.u32 v50 (8 : Int)) fun (v51 : Int) =>
    chk ((v42 && !v44 && v41) = true → (v42 && !v44 && v41) = true) <|
    chk ((v42 && !v44 && v41) = true → (v42 && !v44 && v41) = true) <|
    ltO (IntKind.u32.wrap (v49 + v51)) fun (v52 : Int) =>
    chk ((v42 && !v44 && v41) = true → (v42 && !v44 && v41) = true) <|
    chk ((v42 && !v44 && v41) = true → (v42 && !v44 && v41) = true) <|
    ltO (y40.fst == v52) fun (v53 : Bool) =>
    chk ((v42 && !v44) = true → (v42 && !v44) = true) <|
    chk ((v42 && !v44) = true → v41 = true → (v42 && !v44 && v41) = true) <|
    ltO (v41 && v53) fun (v54 : Bool) =>
    chk (v42 = true → v42 = true) <|
    chk (v42 = true → v44 = false → (v42 && !v44) = true) <|
    ltO (v44 || v54) fun (v55 : Bool) =>
    chk (v42 = true → v42 = true) <|
    ltO (v42 && v55) fun (v56 : Bool) =>
    some (v56, ())))

noncomputable def terrierlaw01_text (a' : Int) : Option ((List UInt8) × Unit) :=
  chk ((0 : Int) ≤ (24 : Int)) <|
  ltO (shrI IntKind.u32 a' (24 : Int)) fun (v0 : Int) =>
  ltO (IntKind.i64.wrap v0) fun (v1 : Int) =>
  bnd (terrierlaw01_digits (v1)) fun y2 =>
  chk ((↑(y2.fst.length + (1 : Nat)) : Int) ≤ (9223372036854775807 : Int)) <|
  ltO (y2.fst ++ [(46 : UInt8)]) fun (v3 : List UInt8) =>
  chk ((0 : Int) ≤ (16 : Int)) <|
  ltO (shrI IntKind.u32 a' (16 : Int)) fun (v4 : Int) =>
  ltO (IntKind.u32.wrap (bandI IntKind.u32 v4 (255 : Int))) fun (v5 : Int) =>
  ltO (IntKind.i64.wrap v5) fun (v6 : Int) =>
  bnd (terrierlaw01_digits (v6)) fun y7 =>
  chk ((↑(v3.length + y7.fst.length) : Int) ≤ (9223372036854775807 : Int)) <|
  ltO (v3 ++ y7.fst) fun (v8 : List UInt8) =>
  chk ((↑(v8.length + (1 : Nat)) : Int) ≤ (9223372036854775807 : Int)) <|
  ltO (v8 ++ [(46 : UInt8)]) fun (v9 : List UInt8) =>
  chk ((0 : Int) ≤ (8 : Int)) <|
  ltO (shrI IntKind.u32 a' (8 : Int)) fun (v10 : Int) =>
  ltO (IntKind.u32.wrap (bandI IntKind.u32 v10 (255 : Int))) fun (v11 : Int) =>
  ltO (IntKind.i64.wrap v11) fun (v12 : Int) =>
  bnd (terrierlaw01_digits (v12)) fun y13 =>
  chk ((↑(v9.length + y13.fst.length) : Int) ≤ (9223372036854775807 : Int)) <|
  ltO (v9 ++ y13.fst) fun (v14 : List UInt8) =>
  chk ((↑(v14.length + (1 : Nat)) : Int) ≤ (9223372036854775807 : Int)) <|
  ltO (v14 ++ [(46 : UInt8)]) fun (v15 : List UInt8) =>
  ltO (IntKind.u32.wrap (bandI IntKind.u32 a' (255 : Int))) fun (v16 : Int) =>
  ltO (IntKind.i64.wrap v16) fun (v17 : Int) =>
  bnd (terrierlaw01_digits (v17)) fun y18 =>
  chk ((↑(v15.length + y18.fst.length) : Int) ≤ (9223372036854775807 : Int)) <|
  ltO (v15 ++ y18.fst) fun (v19 : List UInt8) =>
  some (v19, ())

noncomputable def terrierlaw01_AddrText_b0 (t45 : Int) (t46 : Int) (x : List (List UInt8)) : Option ((Int × Int × (List (List UInt8)) × Unit) ⊕ (Unit ⊕ (Bool × Unit))) :=
  cnd (decide (t46 < t45)) (
   chk ((0 : Int) ≤ t46 ∧ t46 < (↑x.length : Int)) <|
   chk (t46.toNat < x.length) <|
   bnd (addr_Parse (x.getD t46.toNat [])) fun y13 =>
   chk (y13.snd.fst = true → y13.snd.fst = true) <|
   bndG (y13.snd.fst) (terrierlaw01_text (y13.fst)) ([], ()) fun y14 =>
   chk (y13.snd.fst = true → y13.snd.fst = true) <|
   chk (y13.snd.fst = true → y13.snd.fst = true) <|
   ltO (!y14.fst == x.getD t46.toNat []) fun (v15 : Bool) =>
   chk (y13.snd.fst = true → y13.snd.fst = true) <|
   ltO (y13.snd.fst && v15) fun (v16 : Bool) =>
   chk ((!v16) = true → (!v16) = true) <|
   chk ((!v16) = true → (!v16) = true) <|
   chk ((!v16 && !y13.snd.fst) = true → (!v16 && !y13.snd.fst) = true) <|
   ltO (y13.fst != (0 : Int)) fun (v17 : Bool) =>
   chk ((!v16) = true → (!v16) = true) <|
   chk ((!v16) = true → (!y13.snd.fst) = true → (!v16 && !y13.snd.fst) = true) <|
   ltO (!y13.snd.fst && v17) fun (v18 : Bool) =>
   chk (v16 = false → (!v16) = true) <|
   ltO (v16 || v18) fun (v19 : Bool) =>
   cnd (v19) (
    some (.inr (.inr (false, ())))) (
    ltO (IntKind.i64.wrap (t46 + (1 : Int))) fun (v20 : Int) =>
    some (.inl (t45, v20, x, ())))) (
   some (.inr (.inl ())))

noncomputable def terrierlaw01_AddrText_l0 (s : Int × Int × (List (List UInt8)) × Unit) : Option (Unit ⊕ (Bool × Unit)) := loopM (fun s : Int × Int × (List (List UInt8)) × Unit => terrierlaw01_AddrText_b0 s.1 s.2.1 s.2.2.1) s

noncomputable def terrierlaw01_AddrText (a' : Int) (s' : List UInt8) : Option (Bool × Unit) :=
  bnd (terrierlaw01_awake) fun y0 =>
  cnd (!y0.fst) (
   some (false, ())) (
   bnd (addr_Text (a')) fun y1 =>
   bnd (addr_Parse (y1.fst)) fun y2 =>
   bnd (addr_Text (a')) fun y3 =>
   bnd (terrierlaw01_text (a')) fun y4 =>
   ltO (!y3.fst == y4.fst) fun (v5 : Bool) =>
   chk ((!v5) = true → (!v5) = true) <|
   chk ((!v5) = true → (!v5) = true) <|
   ltO (y2.fst != a') fun (v6 : Bool) =>
   chk (v5 = false → (!v5) = true) <|
   ltO (v5 || v6) fun (v7 : Bool) =>
   chk ((!v7) = true → (!v7) = true) <|
   chk (v7 = false → (!v7) = true) <|
   ltO (v7 || !y2.snd.fst) fun (v8 : Bool) =>
   cnd (v8) (
    some (false, ())) (
    bnd (terrierlaw01_text (a')) fun y9 =>
    chk ((↑(y9.fst.length + s'.length) : Int) ≤ (9223372036854775807 : Int)) <|
    ltO (y9.fst ++ s') fun (v10 : List UInt8) =>
    bnd (terrierlaw01_text (a')) fun y11 =>
    chk ((↑(s'.length + y11.fst.length) : Int) ≤ (9223372036854775807 : Int)) <|
    ltO (s' ++ y11.fst) fun (v12 : List UInt8) =>
    bnd (terrierlaw01_AddrText_l0 ((↑[s', v10, v12].length : Int), (0 : Int), [s', v10, v12], ())) fun y21 =>
    sumO y21 (fun t22 =>
     some (true, ())) (fun r23 =>
     some (r23))))

noncomputable def terrierlaw01_Block (a' : Int) (bits : Int) : Option ((Int × Int) × Unit) :=
  chk (¬(13 : Int) = (0 : Int)) <|
  ltO (bits.tmod (13 : Int)) fun (v0 : Int) =>
  ltO (IntKind.i64.wrap v0) fun (v1 : Int) =>
  ltO (IntKind.i64.wrap ((20 : Int) + v1)) fun (v2 : Int) =>
  ltO (IntKind.i64.wrap ((32 : Int) - v2)) fun (v3 : Int) =>
  chk ((0 : Int) ≤ v3) <|
  ltO (shrI IntKind.u32 a' v3) fun (v4 : Int) =>
  ltO (IntKind.i64.wrap ((32 : Int) - v2)) fun (v5 : Int) =>
  chk ((0 : Int) ≤ v5) <|
  ltO (shlI IntKind.u32 v4 v5) fun (v6 : Int) =>
  some ((v6, v2), ())

noncomputable def addr_Has (b : Int × Int) (a' : Int) : Option (Bool × Unit) :=
  bnd (addr_Right (b)) fun y0 =>
  chk (y0.fst = true → y0.fst = true) <|
  chk (y0.fst = true → y0.fst = true) <|
  bndG (y0.fst) (addr_mask (b.snd)) ((0 : Int), ()) fun y1 =>
  chk (y0.fst = true → y0.fst = true) <|
  chk (y0.fst = true → y0.fst = true) <|
  ltO (IntKind.u32.wrap (bandI IntKind.u32 a' y1.fst)) fun (v2 : Int) =>
  chk (y0.fst = true → y0.fst = true) <|
  chk (y0.fst = true → y0.fst = true) <|
  chk (y0.fst = true → y0.fst = true) <|
  ltO (v2 == b.fst) fun (v3 : Bool) =>
  chk (y0.fst = true → y0.fst = true) <|
  ltO (y0.fst && v3) fun (v4 : Bool) =>
  some (v4, ())

noncomputable def addr_Within (in' : Int × Int) (out : Int × Int) : Option (Bool × Unit) :=
  bnd (addr_Right (in')) fun y0 =>
  chk (y0.fst = true → y0.fst = true) <|
  bndG (y0.fst) (addr_Right (out)) (false, ()) fun y1 =>
  chk (y0.fst = true → y0.fst = true) <|
  ltO (y0.fst && y1.fst) fun (v2 : Bool) =>
  chk (v2 = true → v2 = true) <|
  chk (v2 = true → v2 = true) <|
  chk (v2 = true → v2 = true) <|
  chk (v2 = true → v2 = true) <|
  chk (v2 = true → v2 = true) <|
  ltO (v2 && decide (in'.snd ≥ out.snd)) fun (v3 : Bool) =>
  chk (v3 = true → v3 = true) <|
  chk (v3 = true → v3 = true) <|
  chk (v3 = true → v3 = true) <|
  bndG (v3) (addr_Has (out) (in'.fst)) (false, ()) fun y4 =>
  chk (v3 = true → v3 = true) <|
  ltO (v3 && y4.fst) fun (v5 : Bool) =>
  some (v5, ())

noncomputable def addr_Overlap (x : Int × Int) (y : Int × Int) : Option (Bool × Unit) :=
  bnd (addr_Within (x) (y)) fun y0 =>
  chk ((!y0.fst) = true → (!y0.fst) = true) <|
  chk ((!y0.fst) = true → (!y0.fst) = true) <|
  bndG (!y0.fst) (addr_Within (y) (x)) (false, ()) fun y1 =>
  chk (y0.fst = false → (!y0.fst) = true) <|
  ltO (y0.fst || y1.fst) fun (v2 : Bool) =>
  some (v2, ())

noncomputable def terrierlaw01_AddrWithin (a' : Int) (bits : Int) (c : Int) (more : Int) : Option (Bool × Unit) :=
  bnd (terrierlaw01_awake) fun y0 =>
  cnd (!y0.fst) (
   some (false, ())) (
   bnd (terrierlaw01_Block (a') (bits)) fun y1 =>
   bnd (terrierlaw01_Block (c) (more)) fun y2 =>
   cnd (decide (bits > (128 : Int))) (
    chk (¬(64 : Int) = (0 : Int)) <|
    ltO (c.tmod (64 : Int)) fun (v3 : Int) =>
    ltO (IntKind.u32.wrap (bxorI IntKind.u32 a' v3)) fun (v4 : Int) =>
    bnd (terrierlaw01_Block (v4) (more)) fun y5 =>
    ltO (IntKind.u64.wrap y1.fst.fst) fun (v6 : Int) =>
    ltO (IntKind.u64.wrap y1.fst.fst) fun (v7 : Int) =>
    ltO (IntKind.i64.wrap ((32 : Int) - y1.fst.snd)) fun (v8 : Int) =>
    chk ((0 : Int) ≤ v8) <|
    ltO (shlI IntKind.u64 (1 : Int) v8) fun (v9 : Int) =>
    ltO (IntKind.u64.wrap (v7 + v9)) fun (v10 : Int) =>
    ltO (IntKind.u64.wrap y5.fst.fst) fun (v11 : Int) =>
    ltO (IntKind.u64.wrap y5.fst.fst) fun (v12 : Int) =>
    ltO (IntKind.i64.wrap ((32 : Int) - y5.fst.snd)) fun (v13 : Int) =>
    chk ((0 : Int) ≤ v13) <|
    ltO (shlI IntKind.u64 (1 : Int) v13) fun (v14 : Int) =>
    ltO (IntKind.u64.wrap (v12 + v14)) fun (v15 : Int) =>
    chk (decide (v11 ≤ v6) = true → decide (v11 ≤ v6) = true) <|
    chk (decide (v11 ≤ v6) = true → decide (v11 ≤ v6) = true) <|
    chk (decide (v11 ≤ v6) = true → decide (v11 ≤ v6) = true) <|
    ltO (decide (v11 ≤ v6) && decide (v10 ≤ v15)) fun (v16 : Bool) =>
    chk (decide (v6 ≤ v11) = true → decide (v6 ≤ v11) = true) <|
    chk (decide (v6 ≤ v11) = true → decide (v6 ≤ v11) = true) <|
    chk (decide (v6 ≤ v11) = true → decide (v6 ≤ v11) = true) <|
    ltO (decide (v6 ≤ v11) && decide (v15 ≤ v10)) fun (v17 : Bool) =>
    bnd (addr_Within (y1.fst) (y5.fst)) fun y18 =>
    ltO (y18.fst == v16) fun (v19 : Bool) =>
    chk (v19 = true → v19 = true) <|
    chk (v19 = true → v19 = true) <|
    bndG (v19) (addr_Within (y5.fst) (y1.fst)) (false, ()) fun y20 =>
    chk (v19 = true → v19 = true) <|
    chk (v19 = true → v19 = true) <|
    ltO (y20.fst == v17) fun (v21 : Bool) =>
    chk (v19 = true → v19 = true) <|
    ltO (v19 && v21) fun (v22 : Bool) =>
    chk (v22 = true → v22 = true) <|
    chk (v22 = true → v22 = true) <|
    bndG (v22) (addr_Overlap (y1.fst) (y5.fst)) (false, ()) fun y23 =>
    chk (v22 = true → v22 = true) <|
    chk (v22 = true → v22 = true) <|
    chk (v22 = true → v22 = true) <|
    chk ((v22 && decide (v6 < v15)) = true → (v22 && decide (v6 < v15)) = true) <|
    chk ((v22 && decide (v6 < v15)) = true → (v22 && decide (v6 < v15)) = true) <|
    chk (v22 = true → v22 = true) <|
    chk (v22 = true → decide (v6 < v15) = true → (v22 && decide (v6 < v15)) = true) <|
    ltO (decide (v6 < v15) && decide (v11 < v10)) fun (v24 : Bool) =>
    chk (v22 = true → v22 = true) <|
    chk (v22 = true → v22 = true) <|
    ltO (y23.fst == v24) fun (v25 : Bool) =>
    chk (v22 = true → v22 = true) <|
    ltO (v22 && v25) fun (v26 : Bool) =>
    chk (v26 = true → v26 = true) <|
    chk (v26 = true → v26 = true) <|
    bndG (v26) (addr_Overlap (y1.fst) (y5.fst)) (false, ()) fun y27 =>
    chk (v26 = true → v26 = true) <|
    chk (v26 = true → v26 = true) <|
    chk (v26 = true → v16 = false → (v26 && !v16) = true) <|
    ltO (v16 || v17) fun (v28 : Bool) =>
    chk (v26 = true → v26 = true) <|
    chk (v26 = true → v26 = true) <|
    ltO (y27.fst == v28) fun (v29 : Bool) =>
    chk (v26 = true → v26 = true) <|
    ltO (v26 && v29) fun (v30 : Bool) =>
    some (v30, ())) (
    ltO (IntKind.u64.wrap y1.fst.fst) fun (v31 : Int) =>
    ltO (IntKind.u64.wrap y1.fst.fst) fun (v32 : Int) =>
    ltO (IntKind.i64.wrap ((32 : Int) - y1.fst.snd)) fun (v33 : Int) =>
    chk ((0 : Int) ≤ v33) <|
    ltO (shlI IntKind.u64 (1 : Int) v33) fun (v34 : Int) =>
    ltO (IntKind.u64.wrap (v32 + v34)) fun (v35 : Int) =>
    ltO (IntKind.u64.wrap y2.fst.fst) fun (v36 : Int) =>
    ltO (IntKind.u64.wrap y2.fst.fst) fun (v37 : Int) =>
    ltO (IntKind.i64.wrap ((32 : Int) - y2.fst.snd)) fun (v38 : Int) =>
    chk ((0 : Int) ≤ v38) <|
    ltO (shlI IntKind.u64 (1 : Int) v38) fun (v39 : Int) =>
    ltO (IntKind.u64.wrap (v37 + v39)) fun (v40 : Int) =>
    chk (decide (v36 ≤ v31) = true → decide (v36 ≤ v31) = true) <|
    chk (decide (v36 ≤ v31) = true → decide (v36 ≤ v31) = true) <|
    chk (decide (v36 ≤ v31) = true → decide (v36 ≤ v31) = true) <|
    ltO (decide (v36 ≤ v31) && decide (v35 ≤ v40)) fun (v41 : Bool) =>
    chk (decide (v31 ≤ v36) = true → decide (v31 ≤ v36) = true) <|
    chk (decide (v31 ≤ v36) = true → decide (v31 ≤ v36) = true) <|
    chk (decide (v31 ≤ v36) = true → decide (v31 ≤ v36) = true) <|
    ltO (decide (v31 ≤ v36) && decide (v40 ≤ v35)) fun (v42 : Bool) =>
    bnd (addr_Within (y1.fst) (y2.fst)) fun y43 =>
    ltO (y43.fst == v41) fun (v44 : Bool) =>
    chk (v44 = true → v44 = true) <|
    chk (v44 = true → v44 = true) <|
    bndG (v44) (addr_Within (y2.fst) (y1.fst)) (false, ()) fun y45 =>
    chk (v44 = true → v44 = true) <|
    chk (v44 = true → v44 = true) <|
    ltO (y45.fst == v42) fun (v46 : Bool) =>
    chk (v44 = true → v44 = true) <|
    ltO (v44 && v46) fun (v47 : Bool) =>
    chk (v47 = true → v47 = true) <|
    chk (v47 = true → v47 = true) <|
    bndG (v47) (addr_Overlap (y1.fst) (y2.fst)) (false, ()) fun y48 =>
    chk (v47 = true → v47 = true) <|
    chk (v47 = true → v47 = true) <|
    chk (v47 = true → v47 = true) <|
    chk ((v47 && decide (v31 < v40)) = true → (v47 && decide (v31 < v40)) = true) <|
    chk ((v47 && decide (v31 < v40)) = true → (v47 && decide (v31 < v40)) = true) <|
    chk (v47 = true → v47 = true) <|
    chk (v47 = true → decide (v31 < v40) = true → (v47 && decide (v31 < v40)) = true) <|
    ltO (decide (v31 < v40) && decide (v36 < v35)) fun (v49 : Bool) =>
    chk (v47 = true → v47 = true) <|
    chk (v47 = true → v47 = true) <|
    ltO (y48.fst == v49) fun (v50 : Bool) =>
    chk (v47 = true → v47 = true) <|
    ltO (v47 && v50) fun (v51 : Bool) =>
    chk (v51 = true → v51 = true) <|
    chk (v51 = true → v51 = true) <|
    bndG (v51) (addr_Overlap (y1.fst) (y2.fst)) (false, ()) fun y52 =>
    chk (v51 = true → v51 = true) <|
    chk (v51 = true → v51 = true) <|
    chk (v51 = true → v41 = false → (v51 && !v41) = true) <|
    ltO (v41 || v42) fun (v53 : Bool) =>
    chk (v51 = true → v51 = true) <|
    chk (v51 = true → v51 = true) <|
    ltO (y52.fst == v53) fun (v54 : Bool) =>
    chk (v51 = true → v51 = true) <|
    ltO (v51 && v54) fun (v55 : Bool) =>
    some (v55, ())))

noncomputable def addr_At (b : Int × Int) (k : Int) : Option (Int × Bool × Unit) :=
  chk ((!decide (k < (0 : Int))) = true → (!decide (k < (0 : Int))) = true) <|
  bndG (!decide (k < (0 : Int))) (addr_Size (b)) ((0 : Int), ()) fun y0 =>
  chk ((!decide (k < (0 : Int))) = true → (!decide (k < (0 : Int))) = true) <|
  chk ((!decide (k < (0 : Int))) = true → (!decide (k < (0 : Int))) = true) <|
  chk (decide (k < (0 : Int)) = false → (!decide (k < (0 : Int))) = true) <|
  ltO (decide (k < (0 : Int)) || decide (k ≥ y0.fst)) fun (v1 : Bool) =>
  cnd (v1) (
   some ((0 : Int), false, ())) (
   ltO (IntKind.u32.wrap k) fun (v2 : Int) =>
   ltO (IntKind.u32.wrap (b.fst + v2)) fun (v3 : Int) =>
   some (v3, true, ()))

noncomputable def terrierlaw01_AddrHas (a' : Int) (bits : Int) (c : Int) (near : Bool) : Option (Bool × Unit) :=
  bnd (terrierlaw01_awake) fun y0 =>
  cnd (!y0.fst) (
   some (false, ())) (
   bnd (terrierlaw01_Block (a') (bits)) fun y1 =>
   cnd (near) (
    chk (¬(8192 : Int) = (0 : Int)) <|
    ltO (c.tmod (8192 : Int)) fun (v2 : Int) =>
    ltO (IntKind.u32.wrap (y1.fst.fst + v2)) fun (v3 : Int) =>
    ltO (IntKind.i64.wrap ((32 : Int) - y1.fst.snd)) fun (v4 : Int) =>
    chk ((0 : Int) ≤ v4) <|
    ltO (shlI IntKind.i64 (1 : Int) v4) fun (v5 : Int) =>
    ltO (IntKind.u64.wrap v3) fun (v6 : Int) =>
    ltO (IntKind.u64.wrap y1.fst.fst) fun (v7 : Int) =>
    chk (decide (v6 ≥ v7) = true → decide (v6 ≥ v7) = true) <|
    ltO (IntKind.u64.wrap v3) fun (v8 : Int) =>
    chk (decide (v6 ≥ v7) = true → decide (v6 ≥ v7) = true) <|
    chk (decide (v6 ≥ v7) = true → decide (v6 ≥ v7) = true) <|
    ltO (IntKind.u64.wrap y1.fst.fst) fun (v9 : Int) =>
    chk (decide (v6 ≥ v7) = true → decide (v6 ≥ v7) = true) <|
    ltO (IntKind.u64.wrap v5) fun (v10 : Int) =>
    chk (decide (v6 ≥ v7) = true → decide (v6 ≥ v7) = true) <|
    chk (decide (v6 ≥ v7) = true → decide (v6 ≥ v7) = true) <|
    ltO (IntKind.u64.wrap (v9 + v10)) fun (v11 : Int) =>
    chk (decide (v6 ≥ v7) = true → decide (v6 ≥ v7) = true) <|
    chk (decide (v6 ≥ v7) = true → decide (v6 ≥ v7) = true) <|
    chk (decide (v6 ≥ v7) = true → decide (v6 ≥ v7) = true) <|
    ltO (decide (v6 ≥ v7) && decide (v8 < v11)) fun (v12 : Bool) =>
    ltO (IntKind.i64.wrap v3) fun (v13 : Int) =>
    ltO (IntKind.i64.wrap y1.fst.fst) fun (v14 : Int) =>
    ltO (IntKind.i64.wrap (v13 - v14)) fun (v15 : Int) =>
    bnd (addr_At (y1.fst) (v15)) fun y16 =>
    bnd (addr_Has (y1.fst) (v3)) fun y17 =>
    ltO (y17.fst == v12) fun (v18 : Bool) =>
    chk (v18 = true → v18 = true) <|
    bndG (v18) (addr_Size (y1.fst)) ((0 : Int), ()) fun y19 =>
    chk (v18 = true → v18 = true) <|
    chk (v18 = true → v18 = true) <|
    ltO (y19.fst == v5) fun (v20 : Bool) =>
    chk (v18 = true → v18 = true) <|
    ltO (v18 && v20) fun (v21 : Bool) =>
    chk (v21 = true → v21 = true) <|
    chk (v21 = true → v21 = true) <|
    ltO (y16.snd.fst == v12) fun (v22 : Bool) =>
    chk (v21 = true → v21 = true) <|
    ltO (v21 && v22) fun (v23 : Bool) =>
    chk (v23 = true → v23 = true) <|
    chk (v23 = true → v23 = true) <|
    chk ((v23 && !v12) = true → (v23 && !v12) = true) <|
    ltO (y16.fst == (0 : Int)) fun (v24 : Bool) =>
    chk (v23 = true → v23 = true) <|
    chk (v23 = true → (!v12) = true → (v23 && !v12) = true) <|
    ltO (!v12 && v24) fun (v25 : Bool) =>
    chk (v23 = true → v23 = true) <|
    chk ((v23 && !v25) = true → (v23 && !v25) = true) <|
    chk ((v23 && !v25 && v12) = true → (v23 && !v25 && v12) = true) <|
    chk ((v23 && !v25 && v12) = true → (v23 && !v25 && v12) = true) <|
    ltO (y16.fst == v3) fun (v26 : Bool) =>
    chk ((v23 && !v25) = true → (v23 && !v25) = true) <|
    chk ((v23 && !v25) = true → v12 = true → (v23 && !v25 && v12) = true) <|
    ltO (v12 && v26) fun (v27 : Bool) =>
    chk (v23 = true → v23 = true) <|
    chk (v23 = true → v25 = false → (v23 && !v25) = true) <|
    ltO (v25 || v27) fun (v28 : Bool) =>
    chk (v23 = true → v23 = true) <|
    ltO (v23 && v28) fun (v29 : Bool) =>
    some (v29, ())) (
    ltO (IntKind.i64.wrap ((32 : Int) - y1.fst.snd)) fun (v30 : Int) =>
    chk ((0 : Int) ≤ v30) <|
    ltO (shlI IntKind.i64 (1 : Int) v30) fun (v31 : Int) =>
    ltO (IntKind.u64.wrap c) fun (v32 : Int) =>
    ltO (IntKind.u64.wrap y1.fst.fst) fun (v33 : Int) =>
    chk (decide (v32 ≥ v33) = true → decide (v32 ≥ v33) = true) <|
    ltO (IntKind.u64.wrap c) fun (v34 : Int) =>
    chk (decide (v32 ≥ v33) = true → decide (v32 ≥ v33) = true) <|
    chk (decide (v32 ≥ v33) = true → decide (v32 ≥ v33) = true) <|
    ltO (IntKind.u64.wrap y1.fst.fst) fun (v35 : Int) =>
    chk (decide (v32 ≥ v33) = true → decide (v32 ≥ v33) = true) <|
    ltO (IntKind.u64.wrap v31) fun (v36 : Int) =>
    chk (decide (v32 ≥ v33) = true → decide (v32 ≥ v33) = true) <|
    chk (decide (v32 ≥ v33) = true → decide (v32 ≥ v33) = true) <|
    ltO (IntKind.u64.wrap (v35 + v36)) fun (v37 : Int) =>
    chk (decide (v32 ≥ v33) = true → decide (v32 ≥ v33) = true) <|
    chk (decide (v32 ≥ v33) = true → decide (v32 ≥ v33) = true) <|
    chk (decide (v32 ≥ v33) = true → decide (v32 ≥ v33) = true) <|
    ltO (decide (v32 ≥ v33) && decide (v34 < v37)) fun (v38 : Bool) =>
    ltO (IntKind.i64.wrap c) fun (v39 : Int) =>
    ltO (IntKind.i64.wrap y1.fst.fst) fun (v40 : Int) =>
    ltO (IntKind.i64.wrap (v39 - v40)) fun (v41 : Int) =>
    bnd (addr_At (y1.fst) (v41)) fun y42 =>
    bnd (addr_Has (y1.fst) (c)) fun y43 =>
    ltO (y43.fst == v38) fun (v44 : Bool) =>
    chk (v44 = true → v44 = true) <|
    bndG (v44) (addr_Size (y1.fst)) ((0 : Int), ()) fun y45 =>
    chk (v44 = true → v44 = true) <|
    chk (v44 = true → v44 = true) <|
    ltO (y45.fst == v31) fun (v46 : Bool) =>
    chk (v44 = true → v44 = true) <|
    ltO (v44 && v46) fun (v47 : Bool) =>
    chk (v47 = true → v47 = true) <|
    chk (v47 = true → v47 = true) <|
    ltO (y42.snd.fst == v38) fun (v48 : Bool) =>
    chk (v47 = true → v47 = true) <|
    ltO (v47 && v48) fun (v49 : Bool) =>
    chk (v49 = true → v49 = true) <|
    chk (v49 = true → v49 = true) <|
    chk ((v49 && !v38) = true → (v49 && !v38) = true) <|
    ltO (y42.fst == (0 : Int)) fun (v50 : Bool) =>
    chk (v49 = true → v49 = true) <|
    chk (v49 = true → (!v38) = true → (v49 && !v38) = true) <|
    ltO (!v38 && v50) fun (v51 : Bool) =>
    chk (v49 = true → v49 = true) <|
    chk ((v49 && !v51) = true → (v49 && !v51) = true) <|
    chk ((v49 && !v51 && v38) = true → (v49 && !v51 && v38) = true) <|
    chk ((v49 && !v51 && v38) = true → (v49 && !v51 && v38) = true) <|
    ltO (y42.fst == c) fun (v52 : Bool) =>
    chk ((v49 && !v51) = true → (v49 && !v51) = true) <|
    chk ((v49 && !v51) = true → v38 = true → (v49 && !v51 && v38) = true) <|
    ltO (v38 && v52) fun (v53 : Bool) =>
    chk (v49 = true → v49 = true) <|
    chk (v49 = true → v51 = false → (v49 && !v51) = true) <|
    ltO (v51 || v53) fun (v54 : Bool) =>
    chk (v49 = true → v49 = true) <|
    ltO (v49 && v54) fun (v55 : Bool) =>
    some (v55, ())))

noncomputable def addr_Make (a' : Int) (bits : Int) : Option ((Int × Int) × Bool × Unit) :=
  chk ((!decide (bits < (0 : Int))) = true → (!decide (bits < (0 : Int))) = true) <|
  chk (decide (bits < (0 : Int)) = false → (!decide (bits < (0 : Int))) = true) <|
  ltO (decide (bits < (0 : Int)) || decide (bits > (32 : Int))) fun (v0 : Bool) =>
  cnd (v0) (
   some (((0 : Int), (0 : Int)), false, ())) (
   bnd (addr_mask (bits)) fun y1 =>
   ltO (IntKind.u32.wrap (bandI IntKind.u32 a' y1.fst)) fun (v2 : Int) =>
   some ((v2, bits), true, ()))

noncomputable def terrierlaw01_right (b : Int × Int) : Option (Bool × Unit) :=
  chk ((!decide (b.snd < (0 : Int))) = true → (!decide (b.snd < (0 : Int))) = true) <|
  chk ((!decide (b.snd < (0 : Int))) = true → (!decide (b.snd < (0 : Int))) = true) <|
  chk (decide (b.snd < (0 : Int)) = false → (!decide (b.snd < (0 : Int))) = true) <|
  ltO (decide (b.snd < (0 : Int)) || decide (b.snd > (32 : Int))) fun (v0 : Bool) =>
  cnd (v0) (
   some (false, ())) (
   ltO (IntKind.u64.wrap b.fst) fun (v1 : Int) =>
   ltO (IntKind.i64.wrap ((32 : Int) - b.snd)) fun (v2 : Int) =>
   chk ((0 : Int) ≤ v2) <|
   ltO (shlI IntKind.u64 (1 : Int) v2) fun (v3 : Int) =>
   chk (¬v3 = (0 : Int)) <|
   ltO (v1.tmod v3) fun (v4 : Int) =>
   ltO (v4 == (0 : Int)) fun (v5 : Bool) =>
   some (v5, ()))

noncomputable def addr_BlockText (b : Int × Int) : Option ((List UInt8) × Unit) :=
  bnd (addr_Text (b.fst)) fun y0 =>
  chk ((↑(y0.fst.length + (1 : Nat)) : Int) ≤ (9223372036854775807 : Int)) <|
  ltO (y0.fst ++ [(47 : UInt8)]) fun (v1 : List UInt8) =>
  bnd (strconv_Itoa (b.snd)) fun y2 =>
  chk ((↑(v1.length + y2.fst.length) : Int) ≤ (9223372036854775807 : Int)) <|
  ltO (v1 ++ y2.fst) fun (v3 : List UInt8) =>
  some (v3, ())

noncomputable def terrierlaw01_AddrBlock (a' : Int) (bits : Int) (raw : Int × Int) (s' : List UInt8) : Option (Bool × Unit) :=
  bnd (terrierlaw01_awake) fun y0 =>
  cnd (!y0.fst) (
   some (false, ())) (
   ltO (IntKind.i64.wrap bits) fun (v1 : Int) =>
   bnd (addr_Make (a') (v1)) fun y2 =>
   chk (decide (bits ≥ (0 : Int)) = true → decide (bits ≥ (0 : Int)) = true) <|
   chk (decide (bits ≥ (0 : Int)) = true → decide (bits ≥ (0 : Int)) = true) <|
   ltO (decide (bits ≥ (0 : Int)) && decide (bits ≤ (32 : Int))) fun (v3 : Bool) =>
   ltO (!y2.snd.fst == v3) fun (v4 : Bool) =>
   chk ((!v4) = true → (!v4) = true) <|
   chk ((!v4) = true → (!v4) = true) <|
   chk ((!v4 && !y2.snd.fst) = true → (!v4 && !y2.snd.fst) = true) <|
   chk ((!v4 && !y2.snd.fst) = true → (!v4 && !y2.snd.fst) = true) <|
   ltO (!(y2.fst.fst == (0 : Int) && y2.fst.snd == (0 : Int))) fun (v5 : Bool) =>
   chk ((!v4) = true → (!v4) = true) <|
   chk ((!v4) = true → (!y2.snd.fst) = true → (!v4 && !y2.snd.fst) = true) <|
   ltO (!y2.snd.fst && v5) fun (v6 : Bool) =>
   chk (v4 = false → (!v4) = true) <|
   ltO (v4 || v6) fun (v7 : Bool) =>
   chk ((!v7) = true → (!v7) = true) <|
   bndG (!v7) (addr_Right (raw)) (false, ()) fun y8 =>
   chk ((!v7) = true → (!v7) = true) <|
   bndG (!v7) (terrierlaw01_right (raw)) (false, ()) fun y9 =>
   chk ((!v7) = true → (!v7) = true) <|
   chk ((!v7) = true → (!v7) = true) <|
   ltO (!y8.fst == y9.fst) fun (v10 : Bool) =>
   chk (v7 = false → (!v7) = true) <|
   ltO (v7 || v10) fun (v11 : Bool) =>
   cnd (v11) (
    some (false, ())) (
    chk (y2.snd.fst = true → y2.snd.fst = true) <|
    bndG (y2.snd.fst) (terrierlaw01_right (y2.fst)) (false, ()) fun y12 =>
    chk (y2.snd.fst = true → y2.snd.fst = true) <|
    chk (y2.snd.fst = true → y2.snd.fst = true) <|
    chk ((y2.snd.fst && !!y12.fst) = true → (y2.snd.fst && !!y12.fst) = true) <|
    chk ((y2.snd.fst && !!y12.fst) = true → (y2.snd.fst && !!y12.fst) = true) <|
    ltO (IntKind.i64.wrap bits) fun (v13 : Int) =>
    chk ((y2.snd.fst && !!y12.fst) = true → (y2.snd.fst && !!y12.fst) = true) <|
    chk ((y2.snd.fst && !!y12.fst) = true → (y2.snd.fst && !!y12.fst) = true) <|
    ltO (y2.fst.snd != v13) fun (v14 : Bool) =>
    chk (y2.snd.fst = true → y2.snd.fst = true) <|
    chk (y2.snd.fst = true → (!y12.fst) = false → (y2.snd.fst && !!y12.fst) = true) <|
    ltO (!y12.fst || v14) fun (v15 : Bool) =>
    chk (y2.snd.fst = true → y2.snd.fst = true) <|
    chk ((y2.snd.fst && !v15) = true → (y2.snd.fst && !v15) = true) <|
    chk ((y2.snd.fst && !v15) = true → (y2.snd.fst && !v15) = true) <|
    chk ((y2.snd.fst && !v15) = true → (y2.snd.fst && !v15) = true) <|
    chk (y2.snd.fst = true → y2.snd.fst = true) <|
    chk (y2.snd.fst = true → v15 = false → (y2.snd.fst && !v15) = true) <|
    ltO (v15 || decide (y2.fst.fst > a')) fun (v16 : Bool) =>
    chk (y2.snd.fst = true → y2.snd.fst = true) <|
    chk ((y2.snd.fst && !v16) = true → (y2.snd.fst && !v16) = true) <|
    chk ((y2.snd.fst && !v16) = true → (y2.snd.fst && !v16) = true) <|
    bndG (y2.snd.fst && !v16) (addr_Has (y2.fst) (a')) (false, ()) fun y17 =>
    chk ((y2.snd.fst && !v16) = true → (y2.snd.fst && !v16) = true) <|
    chk (y2.snd.fst = true → y2.snd.fst = true) <|
    chk (y2.snd.fst = true → v16 = false → (y2.snd.fst && !v16) = true) <|
    ltO (v16 || !y17.fst) fun (v18 : Bool) =>
    chk (y2.snd.fst = true → y2.snd.fst = true) <|
    ltO (y2.snd.fst && v18) fun (v19 : Bool) =>
    cnd (v19) (
     some (false, ())) (
     bnd (terrierlaw01_text (raw.fst)) fun y20 =>
     chk ((↑(y20.fst.length + (3 : Nat)) : Int) ≤ (9223372036854775807 : Int)) <|
     ltO (y20.fst ++ [(47 : UInt8), (50 : UInt8), (52 : UInt8)]) fun (v21 : List UInt8) =>
     bnd (addr_ParseBlock (v21)) fun y22 =>
     bnd (terrierlaw01_right ((raw.fst, (24 : Int)))) fun y23 =>
     ltO (!y22.snd.fst == y23.fst) fun (v24 : Bool) =>
     chk ((!v24) = true → (!v24) = true) <|
     chk ((!v24 && y22.snd.fst) = true → (!v24 && y22.snd.fst) = true) <|
     chk ((!v24 && y22.snd.fst) = true → (!v24 && y22.snd.fst) = true) <|
     ltO (!(y22.fst.fst == raw.fst && y22.fst.snd == (24 : Int))) fun (v25 : Bool) =>
     chk ((!v24) = true → (!v24) = true) <|
     chk ((!v24) = true → y22.snd.fst = true → (!v24 && y22.snd.fst) = true) <|
     ltO (y22.snd.fst && v25) fun (v26 : Bool) =>
     chk (v24 = false → (!v24) = true) <|
     ltO (v24 || v26) fun (v27 : Bool) =>
     chk ((!v27) = true → (!v27) = true) <|
     bndG (!v27) (addr_BlockText ((raw.fst, (24 : Int)))) ([], ()) fun y28 =>
     chk ((!v27) = true → (!v27) = true) <|
     chk ((!v27) = true → (!v27) = true) <|
     ltO (!y28.fst == v21) fun (v29 : Bool) =>
     chk (v27 = false → (!v27) = true) <|
     ltO (v27 || v29) fun (v30 : Bool) =>
     cnd (v30) (
      some (false, ())) (
      bnd (addr_ParseBlock (s')) fun y31 =>
      chk ((!y31.snd.fst) = true → (!y31.snd.fst) = true) <|
      chk ((!y31.snd.fst) = true → (!y31.snd.fst) = true) <|
      ltO (y31.fst.fst == (0 : Int) && y31.fst.snd == (0 : Int)) fun (v32 : Bool) =>
      chk ((!y31.snd.fst) = true → (!y31.snd.fst) = true) <|
      ltO (!y31.snd.fst && v32) fun (v33 : Bool) =>
      chk ((!v33) = true → (!v33) = true) <|
      chk ((!v33 && y31.snd.fst) = true → (!v33 && y31.snd.fst) = true) <|
      bndG (!v33 && y31.snd.fst) (terrierlaw01_right (y31.fst)) (false, ()) fun y34 =>
      chk ((!v33) = true → (!v33) = true) <|
      chk ((!v33) = true → y31.snd.fst = true → (!v33 && y31.snd.fst) = true) <|
      ltO (y31.snd.fst && y34.fst) fun (v35 : Bool) =>
      chk ((!v33) = true → (!v33) = true) <|
      chk ((!v33 && v35) = true → (!v33 && v35) = true) <|
      bndG (!v33 && v35) (addr_BlockText (y31.fst)) ([], ()) fun y36 =>
      chk ((!v33 && v35) = true → (!v33 && v35) = true) <|
      chk ((!v33 && v35) = true → (!v33 && v35) = true) <|
      ltO (y36.fst == s') fun (v37 : Bool) =>
      chk ((!v33) = true → (!v33) = true) <|
      chk ((!v33) = true → v35 = true → (!v33 && v35) = true) <|
      ltO (v35 && v37) fun (v38 : Bool) =>
      chk (v33 = false → (!v33) = true) <|
      ltO (v33 || v38) fun (v39 : Bool) =>
      some (v39, ())))))

noncomputable def addr_Whole (x : Int × Int) (y : Int × Int) : Option ((Int × Int) × Bool × Unit) :=
  bnd (addr_Right (x)) fun y0 =>
  chk ((!!y0.fst) = true → (!!y0.fst) = true) <|
  chk ((!!y0.fst) = true → (!!y0.fst) = true) <|
  ltO (x.snd == (0 : Int)) fun (v1 : Bool) =>
  chk ((!y0.fst) = false → (!!y0.fst) = true) <|
  ltO (!y0.fst || v1) fun (v2 : Bool) =>
  cnd (v2) (
   some (((0 : Int), (0 : Int)), false, ())) (
   ltO (IntKind.i64.wrap (x.snd - (1 : Int))) fun (v3 : Int) =>
   bnd (addr_Make (x.fst) (v3)) fun y4 =>
   bnd (addr_Halves (y4.fst)) fun y5 =>
   ltO (!(y5.fst.fst == x.fst && y5.fst.snd == x.snd)) fun (v6 : Bool) =>
   chk ((!v6) = true → (!v6) = true) <|
   chk ((!v6) = true → (!v6) = true) <|
   ltO (!(y5.snd.fst.fst == y.fst && y5.snd.fst.snd == y.snd)) fun (v7 : Bool) =>
   chk (v6 = false → (!v6) = true) <|
   ltO (v6 || v7) fun (v8 : Bool) =>
   cnd (v8) (
    some (((0 : Int), (0 : Int)), false, ())) (
    some (y4.fst, true, ())))

noncomputable def terrierlaw01_AddrHalves (a' : Int) (bits : Int) (c : Int) (more : Int) : Option (Bool × Unit) :=
  bnd (terrierlaw01_awake) fun y0 =>
  cnd (!y0.fst) (
   some (false, ())) (
   bnd (terrierlaw01_Block (a') (bits)) fun y1 =>
   bnd (addr_Halves (y1.fst)) fun y2 =>
   ltO (!y2.snd.snd.fst == decide (y1.fst.snd < (32 : Int))) fun (v3 : Bool) =>
   cnd (v3) (
    some (false, ())) (
    cnd (y2.snd.snd.fst) (
     bnd (addr_Whole (y2.fst) (y2.snd.fst)) fun y4 =>
     bnd (addr_Whole (y2.snd.fst) (y2.fst)) fun y5 =>
     chk ((!y4.snd.fst) = false → (!!y4.snd.fst) = true) <|
     ltO (!y4.snd.fst || y5.snd.fst) fun (v6 : Bool) =>
     chk ((!v6) = true → (!v6) = true) <|
     chk ((!v6) = true → (!v6) = true) <|
     ltO (!(y4.fst.fst == y1.fst.fst && y4.fst.snd == y1.fst.snd)) fun (v7 : Bool) =>
     chk (v6 = false → (!v6) = true) <|
     ltO (v6 || v7) fun (v8 : Bool) =>
     chk ((!v8) = true → (!v8) = true) <|
     chk ((!v8) = true → (!v8) = true) <|
     chk ((!v8) = true → (!v8) = true) <|
     chk ((!v8) = true → (!v8) = true) <|
     ltO (y2.fst.fst != y1.fst.fst) fun (v9 : Bool) =>
     chk (v8 = false → (!v8) = true) <|
     ltO (v8 || v9) fun (v10 : Bool) =>
     chk ((!v10) = true → (!v10) = true) <|
     chk ((!v10) = true → (!v10) = true) <|
     chk ((!v10) = true → (!v10) = true) <|
     ltO (IntKind.i64.wrap (y1.fst.snd + (1 : Int))) fun (v11 : Int) =>
     chk ((!v10) = true → (!v10) = true) <|
     chk ((!v10) = true → (!v10) = true) <|
     ltO (y2.fst.snd != v11) fun (v12 : Bool) =>
     chk (v10 = false → (!v10) = true) <|
     ltO (v10 || v12) fun (v13 : Bool) =>
     chk ((!v13) = true → (!v13) = true) <|
     chk ((!v13) = true → (!v13) = true) <|
     chk ((!v13) = true → (!v13) = true) <|
     chk ((!v13) = true → (!v13) = true) <|
     ltO (y2.snd.fst.snd != y2.fst.snd) fun (v14 : Bool) =>
     chk (v13 = false → (!v13) = true) <|
     ltO (v13 || v14) fun (v15 : Bool) =>
     chk ((!v15) = true → (!v15) = true) <|
     bndG (!v15) (addr_Size (y2.fst)) ((0 : Int), ()) fun y16 =>
     chk ((!v15) = true → (!v15) = true) <|
     bndG (!v15) (addr_Size (y2.snd.fst)) ((0 : Int), ()) fun y17 =>
     chk ((!v15) = true → (!v15) = true) <|
     chk ((!v15) = true → (!v15) = true) <|
     ltO (IntKind.i64.wrap (y16.fst + y17.fst)) fun (v18 : Int) =>
     chk ((!v15) = true → (!v15) = true) <|
     bndG (!v15) (addr_Size (y1.fst)) ((0 : Int), ()) fun y19 =>
     chk ((!v15) = true → (!v15) = true) <|
     chk ((!v15) = true → (!v15) = true) <|
     ltO (v18 != y19.fst) fun (v20 : Bool) =>
     chk (v15 = false → (!v15) = true) <|
     ltO (v15 || v20) fun (v21 : Bool) =>
     chk ((!v21) = true → (!v21) = true) <|
     chk ((!v21) = true → (!v21) = true) <|
     bndG (!v21) (addr_Overlap (y2.fst) (y2.snd.fst)) (false, ()) fun y22 =>
     chk (v21 = false → (!v21) = true) <|
     ltO (v21 || y22.fst) fun (v23 : Bool) =>
     cnd (v23) (
      some (false, ())) (
      bnd (terrierlaw01_Block (a') (bits)) fun y24 =>
      bnd (terrierlaw01_Block (c) (more)) fun y25 =>
      bnd (addr_Whole (y24.fst) (y25.fst)) fun y26 =>
      bnd (addr_Halves (y26.fst)) fun y27 =>
      chk (y26.snd.fst = true → y26.snd.fst = true) <|
      chk (y26.snd.fst = true → y26.snd.fst = true) <|
      ltO (y27.fst.fst == y24.fst.fst && y27.fst.snd == y24.fst.snd) fun (v28 : Bool) =>
      chk (y26.snd.fst = true → y26.snd.fst = true) <|
      ltO (y26.snd.fst && v28) fun (v29 : Bool) =>
      chk (v29 = true → v29 = true) <|
      chk (v29 = true → v29 = true) <|
      ltO (y27.snd.fst.fst == y25.fst.fst && y27.snd.fst.snd == y25.fst.snd) fun (v30 : Bool) =>
      chk (v29 = true → v29 = true) <|
      ltO (v29 && v30) fun (v31 : Bool) =>
      chk ((!v31) = true → (!v31) = true) <|
      chk ((!v31) = true → (!v31) = true) <|
      chk ((!v31 && !y26.snd.fst) = true → (!v31 && !y26.snd.fst) = true) <|
      chk ((!v31 && !y26.snd.fst) = true → (!v31 && !y26.snd.fst) = true) <|
      ltO (y26.fst.fst == (0 : Int) && y26.fst.snd == (0 : Int)) fun (v32 : Bool) =>
      chk ((!v31) = true → (!v31) = true) <|
      chk ((!v31) = true → (!y26.snd.fst) = true → (!v31 && !y26.snd.fst) = true) <|
      ltO (!y26.snd.fst && v32) fun (v33 : Bool) =>
      chk ((!v31) = true → (!v31) = true) <|
      chk ((!v31 && v33) = true → (!v31 && v33) = true) <|
      chk ((!v31 && v33) = true → (!v31 && v33) = true) <|
      chk ((!v31 && v33) = true → (!v31 && v33) = true) <|
      chk ((!v31 && v33) = true → (!v31 && v33) = true) <|
      ltO (y24.fst.snd != y25.fst.snd) fun (v34 : Bool) =>
      chk ((!v31 && v33) = true → (!v31 && v33) = true) <|
      chk ((!v31 && v33 && !v34) = true → (!v31 && v33 && !v34) = true) <|
      chk ((!v31 && v33 && !v34) = true → (!v31 && v33 && !v34) = true) <|
      chk ((!v31 && v33 && !v34) = true → (!v31 && v33 && !v34) = true) <|
      chk ((!v31 && v33 && !v34) = true → (!v31 && v33 && !v34) = true) <|
      ltO (IntKind.i64.wrap ((32 : Int) - y24.fst.snd)) fun (v35 : Int) =>
      chk ((!v31 && v33 && !v34) = true → (!v31 && v33 && !v34) = true) <|
      chk ((!v31 && v33 && !v34) = true → (0 : Int) ≤ v35) <|
      ltO (shlI IntKind.u32 (1 : Int) v35) fun (v36 : Int) =>
      chk ((!v31 && v33 && !v34) = true → (!v31 && v33 && !v34) = true) <|
      chk ((!v31 && v33 && !v34) = true → (!v31 && v33 && !v34) = true) <|
      ltO (IntKind.u32.wrap (y24.fst.fst + v36)) fun (v37 : Int) =>
      chk ((!v31 && v33 && !v34) = true → (!v31 && v33 && !v34) = true) <|
      chk ((!v31 && v33 && !v34) = true → (!v31 && v33 && !v34) = true) <|
      ltO (y25.fst.fst != v37) fun (v38 : Bool) =>
      chk ((!v31 && v33) = true → (!v31 && v33) = true) <|
      chk ((!v31 && v33) = true → v34 = false → (!v31 && v33 && !v34) = true) <|
      ltO (v34 || v38) fun (v39 : Bool) =>
      chk ((!v31 && v33) = true → (!v31 && v33) = true) <|
      chk ((!v31 && v33 && !v39) = true → (!v31 && v33 && !v39) = true) <|
      chk ((!v31 && v33 && !v39) = true → (!v31 && v33 && !v39) = true) <|
      chk ((!v31 && v33 && !v39) = true → (!v31 && v33 && !v39) = true) <|
      ltO (IntKind.i64.wrap ((32 : Int) - y24.fst.snd)) fun (v40 : Int) =>
      chk ((!v31 && v33 && !v39) = true → (!v31 && v33 && !v39) = true) <|
      chk ((!v31 && v33 && !v39) = true → (!v31 && v33 && !v39) = true) <|
      chk ((!v31 && v33 && !v39) = true → (0 : Int) ≤ v40) <|
      ltO (shrI IntKind.u32 y24.fst.fst v40) fun (v41 : Int) =>
      chk ((!v31 && v33 && !v39) = true → (!v31 && v33 && !v39) = true) <|
      chk ((!v31 && v33 && !v39) = true → ¬(2 : Int) = (0 : Int)) <|
      ltO (v41.tmod (2 : Int)) fun (v42 : Int) =>
      chk ((!v31 && v33 && !v39) = true → (!v31 && v33 && !v39) = true) <|
      ltO (v42 == (1 : Int)) fun (v43 : Bool) =>
      chk ((!v31 && v33) = true → (!v31 && v33) = true) <|
      chk ((!v31 && v33) = true → v39 = false → (!v31 && v33 && !v39) = true) <|
      ltO (v39 || v43) fun (v44 : Bool) =>
      chk ((!v31) = true → (!v31) = true) <|
      chk ((!v31) = true → v33 = true → (!v31 && v33) = true) <|
      ltO (v33 && v44) fun (v45 : Bool) =>
      chk (v31 = false → (!v31) = true) <|
      ltO (v31 || v45) fun (v46 : Bool) =>
      some (v46, ()))) (
     bnd (terrierlaw01_Block (a') (bits)) fun y47 =>
     bnd (terrierlaw01_Block (c) (more)) fun y48 =>
     bnd (addr_Whole (y47.fst) (y48.fst)) fun y49 =>
     bnd (addr_Halves (y49.fst)) fun y50 =>
     chk (y49.snd.fst = true → y49.snd.fst = true) <|
     chk (y49.snd.fst = true → y49.snd.fst = true) <|
     ltO (y50.fst.fst == y47.fst.fst && y50.fst.snd == y47.fst.snd) fun (v51 : Bool) =>
     chk (y49.snd.fst = true → y49.snd.fst = true) <|
     ltO (y49.snd.fst && v51) fun (v52 : Bool) =>
     chk (v52 = true → v52 = true) <|
     chk (v52 = true → v52 = true) <|
     ltO (y50.snd.fst.fst == y48.fst.fst && y50.snd.fst.snd == y48.fst.snd) fun (v53 : Bool) =>
     chk (v52 = true → v52 = true) <|
     ltO (v52 && v53) fun (v54 : Bool) =>
     chk ((!v54) = true → (!v54) = true) <|
     chk ((!v54) = true → (!v54) = true) <|
     chk ((!v54 && !y49.snd.fst) = true → (!v54 && !y49.snd.fst) = true) <|
     chk ((!v54 && !y49.snd.fst) = true → (!v54 && !y49.snd.fst) = true) <|
     ltO (y49.fst.fst == (0 : Int) && y49.fst.snd == (0 : Int)) fun (v55 : Bool) =>
     chk ((!v54) = true → (!v54) = true) <|
     chk ((!v54) = true → (!y49.snd.fst) = true → (!v54 && !y49.snd.fst) = true) <|
     ltO (!y49.snd.fst && v55) fun (v56 : Bool) =>
     chk ((!v54) = true → (!v54) = true) <|
     chk ((!v54 && v56) = true → (!v54 && v56) = true) <|
     chk ((!v54 && v56) = true → (!v54 && v56) = true) <|
     chk ((!v54 && v56) = true → (!v54 && v56) = true) <|
     chk ((!v54 && v56) = true → (!v54 && v56) = true) <|
     ltO (y47.fst.snd != y48.fst.snd) fun (v57 : Bool) =>
     chk ((!v54 && v56) = true → (!v54 && v56) = true) <|
     chk ((!v54 && v56 && !v57) = true → (!v54 && v56 && !v57) = true) <|
     chk ((!v54 && v56 && !v57) = true → (!v54 && v56 && !v57) = true) <|
     chk ((!v54 && v56 && !v57) = true → (!v54 && v56 && !v57) = true) <|
     chk ((!v54 && v56 && !v57) = true → (!v54 && v56 && !v57) = true) <|
     ltO (IntKind.i64.wrap ((32 : Int) - y47.fst.snd)) fun (v58 : Int) =>
     chk ((!v54 && v56 && !v57) = true → (!v54 && v56 && !v57) = true) <|
     chk ((!v54 && v56 && !v57) = true → (0 : Int) ≤ v58) <|
     ltO (shlI IntKind.u32 (1 : Int) v58) fun (v59 : Int) =>
     chk ((!v54 && v56 && !v57) = true → (!v54 && v56 && !v57) = true) <|
     chk ((!v54 && v56 && !v57) = true → (!v54 && v56 && !v57) = true) <|
     ltO (IntKind.u32.wrap (y47.fst.fst + v59)) fun (v60 : Int) =>
     chk ((!v54 && v56 && !v57) = true → (!v54 && v56 && !v57) = true) <|
     chk ((!v54 && v56 && !v57) = true → (!v54 && v56 && !v57) = true) <|
     ltO (y48.fst.fst != v60) fun (v61 : Bool) =>
     chk ((!v54 && v56) = true → (!v54 && v56) = true) <|
     chk ((!v54 && v56) = true → v57 = false → (!v54 && v56 && !v57) = true) <|
     ltO (v57 || v61) fun (v62 : Bool) =>
     chk ((!v54 && v56) = true → (!v54 && v56) = true) <|
     chk ((!v54 && v56 && !v62) = true → (!v54 && v56 && !v62) = true) <|
     chk ((!v54 && v56 && !v62) = true → (!v54 && v56 && !v62) = true) <|
     chk ((!v54 && v56 && !v62) = true → (!v54 && v56 && !v62) = true) <|
     ltO (IntKind.i64.wrap ((32 : Int) - y47.fst.snd)) fun (v63 : Int) =>
     chk ((!v54 && v56 && !v62) = true → (!v54 && v56 && !v62) = true) <|
     chk ((!v54 && v56 && !v62) = true → (!v54 && v56 && !v62) = true) <|
     chk ((!v54 && v56 && !v62) = true → (0 : Int) ≤ v63) <|
     ltO (shrI IntKind.u32 y47.fst.fst v63) fun (v64 : Int) =>
     chk ((!v54 && v56 && !v62) = true → (!v54 && v56 && !v62) = true) <|
     chk ((!v54 && v56 && !v62) = true → ¬(2 : Int) = (0 : Int)) <|
     ltO (v64.tmod (2 : Int)) fun (v65 : Int) =>
     chk ((!v54 && v56 && !v62) = true → (!v54 && v56 && !v62) = true) <|
     ltO (v65 == (1 : Int)) fun (v66 : Bool) =>
     chk ((!v54 && v56) = true → (!v54 && v56) = true) <|
     chk ((!v54 && v56) = true → v62 = false → (!v54 && v56 && !v62) = true) <|
     ltO (v62 || v66) fun (v67 : Bool) =>
     chk ((!v54) = true → (!v54) = true) <|
     chk ((!v54) = true → v56 = true → (!v54 && v56) = true) <|
     ltO (v56 && v67) fun (v68 : Bool) =>
     chk (v54 = false → (!v54) = true) <|
     ltO (v54 || v68) fun (v69 : Bool) =>
     some (v69, ()))))

noncomputable def terrierlaw01_AddrRaw (x : Int × Int) (y : Int × Int) (a' : Int) (k : Int) : Option (Bool × Unit) :=
  bnd (terrierlaw01_awake) fun y0 =>
  cnd (!y0.fst) (
   some (false, ())) (
   bnd (terrierlaw01_right (x)) fun y1 =>
   chk (y1.fst = true → y1.fst = true) <|
   bndG (y1.fst) (terrierlaw01_right (y)) (false, ()) fun y2 =>
   chk (y1.fst = true → y1.fst = true) <|
   ltO (y1.fst && y2.fst) fun (v3 : Bool) =>
   cnd (v3) (
    bnd (addr_Within (x) (x)) fun y4 =>
    chk (y4.fst = true → y4.fst = true) <|
    chk (y4.fst = true → y4.fst = true) <|
    bndG (y4.fst) (addr_Overlap (y) (y)) (false, ()) fun y5 =>
    chk (y4.fst = true → y4.fst = true) <|
    ltO (y4.fst && y5.fst) fun (v6 : Bool) =>
    some (v6, ())) (
    bnd (addr_Halves (x)) fun y7 =>
    bnd (addr_Whole (x) (y)) fun y8 =>
    bnd (addr_At (x) (k)) fun y9 =>
    bnd (addr_Within (x) (y)) fun y10 =>
    chk ((!y10.fst) = true → (!y10.fst) = true) <|
    chk ((!y10.fst) = true → (!y10.fst) = true) <|
    bndG (!y10.fst) (addr_Overlap (x) (y)) (false, ()) fun y11 =>
    chk (y10.fst = false → (!y10.fst) = true) <|
    ltO (y10.fst || y11.fst) fun (v12 : Bool) =>
    chk (v12 = false → (!v12) = true) <|
    ltO (v12 || y8.snd.fst) fun (v13 : Bool) =>
    cnd (v13) (
     some (false, ())) (
     bnd (terrierlaw01_right (x)) fun y14 =>
     chk ((!y14.fst) = true → (!y14.fst) = true) <|
     chk ((!y14.fst) = true → (!y14.fst) = true) <|
     chk ((!y14.fst && !y7.snd.snd.fst) = true → (!y14.fst && !y7.snd.snd.fst) = true) <|
     chk ((!y14.fst) = true → (!y14.fst) = true) <|
     chk ((!y14.fst) = true → (!y7.snd.snd.fst) = true → (!y14.fst && !y7.snd.snd.fst) = true) <|
     ltO (!y7.snd.snd.fst && !y9.snd.fst) fun (v15 : Bool) =>
     chk ((!y14.fst) = true → (!y14.fst) = true) <|
     chk ((!y14.fst && v15) = true → (!y14.fst && v15) = true) <|
     ltO (y9.fst == (0 : Int)) fun (v16 : Bool) =>
     chk ((!y14.fst) = true → (!y14.fst) = true) <|
     chk ((!y14.fst) = true → v15 = true → (!y14.fst && v15) = true) <|
     ltO (v15 && v16) fun (v17 : Bool) =>
     chk ((!y14.fst) = true → (!y14.fst) = true) <|
     chk ((!y14.fst && v17) = true → (!y14.fst && v17) = true) <|
     chk ((!y14.fst && v17) = true → (!y14.fst && v17) = true) <|
     ltO (y7.fst.fst == (0 : Int) && y7.fst.snd == (0 : Int)) fun (v18 : Bool) =>
     chk ((!y14.fst) = true → (!y14.fst) = true) <|
     chk ((!y14.fst) = true → v17 = true → (!y14.fst && v17) = true) <|
     ltO (v17 && v18) fun (v19 : Bool) =>
     chk ((!y14.fst) = true → (!y14.fst) = true) <|
     chk ((!y14.fst && v19) = true → (!y14.fst && v19) = true) <|
     chk ((!y14.fst && v19) = true → (!y14.fst && v19) = true) <|
     ltO (y7.snd.fst.fst == (0 : Int) && y7.snd.fst.snd == (0 : Int)) fun (v20 : Bool) =>
     chk ((!y14.fst) = true → (!y14.fst) = true) <|
     chk ((!y14.fst) = true → v19 = true → (!y14.fst && v19) = true) <|
     ltO (v19 && v20) fun (v21 : Bool) =>
     chk ((!y14.fst) = true → (!y14.fst) = true) <|
     chk ((!y14.fst && v21) = true → (!y14.fst && v21) = true) <|
     bndG (!y14.fst && v21) (addr_Size (x)) ((0 : Int), ()) fun y22 =>
     chk ((!y14.fst && v21) = true → (!y14.fst && v21) = true) <|
     ltO (y22.fst == (0 : Int)) fun (v23 : Bool) =>
     chk ((!y14.fst) = true → (!y14.fst) = true) <|
     chk ((!y14.fst) = true → v21 = true → (!y14.fst && v21) = true) <|
     ltO (v21 && v23) fun (v24 : Bool) =>
     chk ((!y14.fst) = true → (!y14.fst) = true) <|
     chk ((!y14.fst && v24) = true → (!y14.fst && v24) = true) <|
     chk ((!y14.fst && v24) = true → (!y14.fst && v24) = true) <|
     bndG (!y14.fst && v24) (addr_Has (x) (a')) (false, ()) fun y25 =>
     chk ((!y14.fst && v24) = true → (!y14.fst && v24) = true) <|
     chk ((!y14.fst) = true → (!y14.fst) = true) <|
     chk ((!y14.fst) = true → v24 = true → (!y14.fst && v24) = true) <|
     ltO (v24 && !y25.fst) fun (v26 : Bool) =>
     chk (y14.fst = false → (!y14.fst) = true) <|
     ltO (y14.fst || v26) fun (v27 : Bool) =>
     some (v27, ()))))

end Go.Tr
