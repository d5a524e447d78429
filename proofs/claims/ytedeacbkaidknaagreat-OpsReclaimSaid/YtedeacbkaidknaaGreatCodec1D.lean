/- The functions that these laws reach, as Lean functions: printed by a program of this session's. Conditions: none. -/
import Derived.Test.YtedeacbkaidknaaGreatBD
import Derived.Test.YtedeacbkaidknaaGreatBE
import Derived.Test.YtedeacbkaidknaaGreatAddrD
import Derived.Test.YtedeacbkaidknaaGreatMacD
namespace Go.Tr
open Go
set_option linter.unusedVariables false
set_option maxRecDepth 100000
noncomputable def held_May_b0 (owner : List UInt8) (t6 : Int) (t7 : Int) : Option (((List UInt8) × Int × Int × Unit) ⊕ (((List UInt8) × Unit) ⊕ (Bool × Unit))) :=
  cnd (decide (t7 < t6)) (
   chk ((0 : Int) ≤ t7 ∧ t7 < (↑owner.length : Int)) <|
   ltO ((↑(owner.getD t7.toNat (0 : UInt8)).toNat : Int)) fun (v0 : Int) =>
   chk ((!decide (v0 < (97 : Int))) = true → (!decide (v0 < (97 : Int))) = true) <|
   chk (decide (v0 < (97 : Int)) = false → (!decide (v0 < (97 : Int))) = true) <|
   ltO (decide (v0 < (97 : Int)) || decide (v0 > (122 : Int))) fun (v1 : Bool) =>
   chk (v1 = true → v1 = true) <|
   chk (v1 = true → v1 = true) <|
   chk ((v1 && !decide (v0 < (48 : Int))) = true → (v1 && !decide (v0 < (48 : Int))) = true) <|
   chk (v1 = true → v1 = true) <|
   chk (v1 = true → decide (v0 < (48 : Int)) = false → (v1 && !decide (v0 < (48 : Int))) = true) <|
   ltO (decide (v0 < (48 : Int)) || decide (v0 > (57 : Int))) fun (v2 : Bool) =>
   chk (v1 = true → v1 = true) <|
   ltO (v1 && v2) fun (v3 : Bool) =>
   cnd (v3) (
    some (.inr (.inr (false, ())))) (
    ltO (IntKind.i64.wrap (t7 + (1 : Int))) fun (v4 : Int) =>
    some (.inl (owner, t6, v4, ())))) (
   some (.inr (.inl (owner, ()))))
noncomputable def held_May_l0 (s : (List UInt8) × Int × Int × Unit) : Option (((List UInt8) × Unit) ⊕ (Bool × Unit)) := loopM (fun s : (List UInt8) × Int × Int × Unit => held_May_b0 s.1 s.2.1 s.2.2.1) s
noncomputable def held_May (owner : List UInt8) : Option (Bool × Unit) :=
  bnd (held_May_l0 (owner, (↑owner.length : Int), (0 : Int), ())) fun y5 =>
  sumO y5 (fun t6 =>
   ltO (!t6.fst == []) fun (v8 : Bool) =>
   chk (v8 = true → v8 = true) <|
   chk (v8 = true → v8 = true) <|
   chk (v8 = true → v8 = true) <|
   ltO (v8 && decide ((↑t6.fst.length : Int) ≤ (8 : Int))) fun (v9 : Bool) =>
   some (v9, ())) (fun r7 =>
   some (r7))
noncomputable def clock_Clamp (n : Int) : Option (Int × Unit) :=
  some (if (if (1099511627776 : Int) < n then (1099511627776 : Int) else n) > (0 : Int) then if (1099511627776 : Int) < n then (1099511627776 : Int) else n else (0 : Int), ())
noncomputable def cases_Open (c : Int × Int × Int × Int) : Option (Bool × Unit) :=
  ltO (c.snd.snd.snd == (0 : Int)) fun (v0 : Bool) =>
  chk ((!v0) = true → (!v0) = true) <|
  chk ((!v0) = true → (!v0) = true) <|
  ltO (c.snd.snd.snd == (1 : Int)) fun (v1 : Bool) =>
  chk (v0 = false → (!v0) = true) <|
  ltO (v0 || v1) fun (v2 : Bool) =>
  some (v2, ())
noncomputable def cases_Find_1 (c : Int × Int × Int × Int) (t1 : Int) : Option (Bool × Unit) :=
  ltO (c.fst == t1) fun (v0 : Bool) =>
  chk (v0 = true → v0 = true) <|
  bndG (v0) (cases_Open (c)) (false, ()) fun y1 =>
  chk (v0 = true → v0 = true) <|
  ltO (v0 && y1.fst) fun (v2 : Bool) =>
  some (v2, ())
noncomputable def slices_IndexFunc_v1_b0 (s' : List (Int × Int × Int × Int)) (fc_0 : Int) (t7 : Int) (t8 : Int) : Option (((List (Int × Int × Int × Int)) × Int × Int × Int × Unit) ⊕ (Unit ⊕ (Int × Unit))) :=
  cnd (decide (t8 < t7)) (
   chk ((0 : Int) ≤ t8 ∧ t8 < (↑s'.length : Int)) <|
   ltO ((Option.rec ((0 : Int), (0 : Int), (0 : Int), (0 : Int)) (fun val => val) s'[t8.toNat]?)) fun (v0 : Int × Int × Int × Int) =>
   bnd (cases_Find_1 (v0) (fc_0)) fun y1 =>
   cnd (y1.fst) (
    some (.inr (.inr (t8, ())))) (
    ltO (IntKind.i64.wrap (t8 + (1 : Int))) fun (v2 : Int) =>
    some (.inl (s', fc_0, t7, v2, ())))) (
   some (.inr (.inl ())))
noncomputable def slices_IndexFunc_v1_l0 (s : (List (Int × Int × Int × Int)) × Int × Int × Int × Unit) : Option (Unit ⊕ (Int × Unit)) := loopM (fun s : (List (Int × Int × Int × Int)) × Int × Int × Int × Unit => slices_IndexFunc_v1_b0 s.1 s.2.1 s.2.2.1 s.2.2.2.1) s
noncomputable def slices_IndexFunc_v1 (s' : List (Int × Int × Int × Int)) (fc_0 : Int) : Option (Int × Unit) :=
  bnd (slices_IndexFunc_v1_l0 (s', fc_0, (↑s'.length : Int), (0 : Int), ())) fun y3 =>
  sumO y3 (fun t4 =>
   some ((-1 : Int), ())) (fun r5 =>
   some (r5))
noncomputable def cases_Find (cs : List (Int × Int × Int × Int)) (a' : Int) : Option (Int × Unit) :=
  bnd (slices_IndexFunc_v1 (cs) (a')) fun y0 =>
  some (y0.fst, ())
noncomputable def terrierlaw11_Station (n : Int) : Option (TMac × Unit) :=
  cnd (decide (n ≥ (128 : Int))) (
   some (zMac, ())) (
   chk (¬(3 : Int) = (0 : Int)) <|
   ltO (n.tmod (3 : Int)) fun (v0 : Int) =>
   ltO (IntKind.u8.wrap ((1 : Int) + v0)) fun (v1 : Int) =>
   some (((2 : Int), (0 : Int), (0 : Int), (0 : Int), (0 : Int), v1), ()))
noncomputable def terrierlaw18_Act_Event (a' : Int × Int × Int × Int × Int × Int) : Option (TEv × Unit) :=
  chk (¬(16 : Int) = (0 : Int)) <|
  ltO (a'.fst.tmod (16 : Int)) fun (v0 : Int) =>
  chk ((0 : Int) ≤ v0 ∧ v0 < (16 : Int)) <|
  chk (v0.toNat < (16 : Nat)) <|
  chk (¬(16 : Int) = (0 : Int)) <|
  ltO (a'.snd.fst.tmod (16 : Int)) fun (v1 : Int) =>
  ltO (IntKind.u32.wrap v1) fun (v2 : Int) =>
  ltO (IntKind.u32.wrap ((167772160 : Int) + v2)) fun (v3 : Int) =>
  chk (¬(8 : Int) = (0 : Int)) <|
  ltO (a'.snd.snd.snd.snd.fst.tmod (8 : Int)) fun (v4 : Int) =>
  chk (¬(8 : Int) = (0 : Int)) <|
  ltO (a'.snd.snd.snd.snd.fst.tmod (8 : Int)) fun (v5 : Int) =>
  ltO (IntKind.u8.wrap (v5 + (1 : Int))) fun (v6 : Int) =>
  chk ((0 : Int) ≤ v4 ∧ v4 ≤ v6 ∧ v6 ≤ (8 : Int)) <|
  chk ((↑((1 : Nat) + (sliceA v4.toNat v6.toNat [(97 : UInt8), (98 : UInt8), (99 : UInt8), (100 : UInt8), (101 : UInt8), (102 : UInt8), (103 : UInt8), (104 : UInt8)]).length) : Int) ≤ (9223372036854775807 : Int)) <|
  ltO ([(111 : UInt8)] ++ sliceA v4.toNat v6.toNat [(97 : UInt8), (98 : UInt8), (99 : UInt8), (100 : UInt8), (101 : UInt8), (102 : UInt8), (103 : UInt8), (104 : UInt8)]) fun (v7 : List UInt8) =>
  bnd (terrierlaw11_Station (a'.snd.snd.snd.fst)) fun y8 =>
  chk (¬(64 : Int) = (0 : Int)) <|
  ltO (a'.snd.fst.tmod (64 : Int)) fun (v9 : Int) =>
  ltO (IntKind.u32.wrap v9) fun (v10 : Int) =>
  ltO (IntKind.u32.wrap ((167772160 : Int) + v10)) fun (v11 : Int) =>
  chk (¬(5 : Int) = (0 : Int)) <|
  ltO (a'.snd.snd.fst.tmod (5 : Int)) fun (v12 : Int) =>
  ltO (IntKind.u8.wrap ((8 : Int) + v12)) fun (v13 : Int) =>
  bnd (terrierlaw01_Block (v11) (v13)) fun y14 =>
  chk (¬(4 : Int) = (0 : Int)) <|
  ltO (a'.snd.snd.snd.snd.fst.tmod (4 : Int)) fun (v15 : Int) =>
  ltO (IntKind.i64.wrap v15) fun (v16 : Int) =>
  chk (¬(2 : Int) = (0 : Int)) <|
  ltO (IntKind.u8.wrap (a'.snd.snd.snd.fst.tdiv (2 : Int))) fun (v17 : Int) =>
  bnd (terrierlaw11_Station (v17)) fun y18 =>
  some (([(0 : Int), (0 : Int), (0 : Int), (1 : Int), (1 : Int), (2 : Int), (3 : Int), (4 : Int), (5 : Int), (5 : Int), (5 : Int), (6 : Int), (6 : Int), (7 : Int), (5 : Int), (8 : Int)].getD v0.toNat (0 : Int), (v3, v7, y8.fst), y14.fst, v16, y18.fst, (0 : Int)), ())
noncomputable def terrierlaw18_Events_b1 (k : Int) (t12 : List TMac) (t13 : Int) (t14 : Int) (out : List TEv) (a'_0 : Int) (a'_1 : Int) (a'_2 : Int) (a'_3 : Int) (a'_4 : Int) (a'_5 : Int) (e_0 : Int) (e_1 : Int) (e_2 : List UInt8) (e_3 : Int) (e_4 : Int) (e_5 : Int) (e_6 : Int) (e_7 : Int) (e_8 : Int) (e_9 : Int) (e_10 : Int) (e_11 : Int) (e_12 : Int) (e_13 : Int) (e_14 : Int) (e_15 : Int) (e_16 : Int) (e_17 : Int) (e_18 : Int) : Option ((Int × (List TMac) × Int × Int × (List TEv) × Int × Int × Int × Int × Int × Int × Int × Int × (List UInt8) × Int × Int × Int × Int × Int × Int × Int × Int × Int × Int × Int × Int × Int × Int × Int × Int × Unit) ⊕ (((List TMac) × Int × Int × (List TEv) × Unit) ⊕ ((List TEv) × Unit))) :=
  chk (¬(12 : Int) = (0 : Int)) <|
  ltO (a'_5.tmod (12 : Int)) fun (v2 : Int) =>
  ltO (IntKind.i64.wrap v2) fun (v3 : Int) =>
  chk (decide (k < v3) = true → decide (k < v3) = true) <|
  chk (decide (k < v3) = true → decide (k < v3) = true) <|
  ltO (e_0 == (0 : Int)) fun (v4 : Bool) =>
  chk (decide (k < v3) = true → decide (k < v3) = true) <|
  ltO (decide (k < v3) && v4) fun (v5 : Bool) =>
  cnd (v5) (
   chk (room (80 : Nat) (out.length + [(e_0, (e_1, e_2, e_3, e_4, e_5, e_6, e_7, e_8), (e_9, e_10), e_11, (e_12, e_13, e_14, e_15, e_16, e_17), e_18)].length)) <|
   ltO (IntKind.i64.wrap (k + (1 : Int))) fun (v6 : Int) =>
   some (.inl (v6, t12, t13, t14, out ++ [(e_0, (e_1, e_2, e_3, e_4, e_5, e_6, e_7, e_8), (e_9, e_10), e_11, (e_12, e_13, e_14, e_15, e_16, e_17), e_18)], a'_0, a'_1, a'_2, a'_3, a'_4, a'_5, e_0, e_1, e_2, e_3, e_4, e_5, e_6, e_7, e_8, e_9, e_10, e_11, e_12, e_13, e_14, e_15, e_16, e_17, e_18, ()))) (
   some (.inr (.inl (t12, t13, t14, out, ()))))
noncomputable def terrierlaw18_Events_l1 (s : Int × (List TMac) × Int × Int × (List TEv) × Int × Int × Int × Int × Int × Int × Int × Int × (List UInt8) × Int × Int × Int × Int × Int × Int × Int × Int × Int × Int × Int × Int × Int × Int × Int × Int × Unit) : Option (((List TMac) × Int × Int × (List TEv) × Unit) ⊕ ((List TEv) × Unit)) := loopM (fun s : Int × (List TMac) × Int × Int × (List TEv) × Int × Int × Int × Int × Int × Int × Int × Int × (List UInt8) × Int × Int × Int × Int × Int × Int × Int × Int × Int × Int × Int × Int × Int × Int × Int × Int × Unit => terrierlaw18_Events_b1 s.1 s.2.1 s.2.2.1 s.2.2.2.1 s.2.2.2.2.1 s.2.2.2.2.2.1 s.2.2.2.2.2.2.1 s.2.2.2.2.2.2.2.1 s.2.2.2.2.2.2.2.2.1 s.2.2.2.2.2.2.2.2.2.1 s.2.2.2.2.2.2.2.2.2.2.1 s.2.2.2.2.2.2.2.2.2.2.2.1 s.2.2.2.2.2.2.2.2.2.2.2.2.1 s.2.2.2.2.2.2.2.2.2.2.2.2.2.1 s.2.2.2.2.2.2.2.2.2.2.2.2.2.2.1 s.2.2.2.2.2.2.2.2.2.2.2.2.2.2.2.1 s.2.2.2.2.2.2.2.2.2.2.2.2.2.2.2.2.1 s.2.2.2.2.2.2.2.2.2.2.2.2.2.2.2.2.2.1 s.2.2.2.2.2.2.2.2.2.2.2.2.2.2.2.2.2.2.1 s.2.2.2.2.2.2.2.2.2.2.2.2.2.2.2.2.2.2.2.1 s.2.2.2.2.2.2.2.2.2.2.2.2.2.2.2.2.2.2.2.2.1 s.2.2.2.2.2.2.2.2.2.2.2.2.2.2.2.2.2.2.2.2.2.1 s.2.2.2.2.2.2.2.2.2.2.2.2.2.2.2.2.2.2.2.2.2.2.1 s.2.2.2.2.2.2.2.2.2.2.2.2.2.2.2.2.2.2.2.2.2.2.2.1 s.2.2.2.2.2.2.2.2.2.2.2.2.2.2.2.2.2.2.2.2.2.2.2.2.1 s.2.2.2.2.2.2.2.2.2.2.2.2.2.2.2.2.2.2.2.2.2.2.2.2.2.1 s.2.2.2.2.2.2.2.2.2.2.2.2.2.2.2.2.2.2.2.2.2.2.2.2.2.2.1 s.2.2.2.2.2.2.2.2.2.2.2.2.2.2.2.2.2.2.2.2.2.2.2.2.2.2.2.1 s.2.2.2.2.2.2.2.2.2.2.2.2.2.2.2.2.2.2.2.2.2.2.2.2.2.2.2.2.1 s.2.2.2.2.2.2.2.2.2.2.2.2.2.2.2.2.2.2.2.2.2.2.2.2.2.2.2.2.2.1) s
noncomputable def terrierlaw18_Events_b0 (t12 : List TMac) (t13 : Int) (t14 : Int) (out : List TEv) : Option (((List TMac) × Int × Int × (List TEv) × Unit) ⊕ (((List TEv) × Unit) ⊕ ((List TEv) × Unit))) :=
  cnd (decide (t14 < t13)) (
   chk ((0 : Int) ≤ t14 ∧ t14 < (↑t12.length : Int)) <|
   ltO ((Option.rec zMac (fun val => val) t12[t14.toNat]?)) fun (v0 : Int × Int × Int × Int × Int × Int) =>
   bnd (terrierlaw18_Act_Event (v0)) fun y1 =>
   chk (room (80 : Nat) (out.length + [(y1.fst)].length)) <|
   bnd (terrierlaw18_Events_l1 ((0 : Int), t12, t13, t14, out ++ [(y1.fst)], v0.fst, v0.snd.fst, v0.snd.snd.fst, v0.snd.snd.snd.fst, v0.snd.snd.snd.snd.fst, v0.snd.snd.snd.snd.snd, y1.fst.fst, y1.fst.snd.fst.fst, y1.fst.snd.fst.snd.fst, y1.fst.snd.fst.snd.snd.fst, y1.fst.snd.fst.snd.snd.snd.fst, y1.fst.snd.fst.snd.snd.snd.snd.fst, y1.fst.snd.fst.snd.snd.snd.snd.snd.fst, y1.fst.snd.fst.snd.snd.snd.snd.snd.snd.fst, y1.fst.snd.fst.snd.snd.snd.snd.snd.snd.snd, y1.fst.snd.snd.fst.fst, y1.fst.snd.snd.fst.snd, y1.fst.snd.snd.snd.fst, y1.fst.snd.snd.snd.snd.fst.fst, y1.fst.snd.snd.snd.snd.fst.snd.fst, y1.fst.snd.snd.snd.snd.fst.snd.snd.fst, y1.fst.snd.snd.snd.snd.fst.snd.snd.snd.fst, y1.fst.snd.snd.snd.snd.fst.snd.snd.snd.snd.fst, y1.fst.snd.snd.snd.snd.fst.snd.snd.snd.snd.snd, y1.fst.snd.snd.snd.snd.snd, ())) fun y7 =>
   sumO y7 (fun t8 =>
    ltO (IntKind.i64.wrap (t8.snd.snd.fst + (1 : Int))) fun (v10 : Int) =>
    some (.inl (t8.fst, t8.snd.fst, v10, t8.snd.snd.snd.fst, ()))) (fun r9 =>
    some (.inr (.inr (r9))))) (
   some (.inr (.inl (out, ()))))
noncomputable def terrierlaw18_Events_l0 (s : (List TMac) × Int × Int × (List TEv) × Unit) : Option (((List TEv) × Unit) ⊕ ((List TEv) × Unit)) := loopM (fun s : (List TMac) × Int × Int × (List TEv) × Unit => terrierlaw18_Events_b0 s.1 s.2.1 s.2.2.1 s.2.2.2.1) s
noncomputable def terrierlaw18_Events (acts : List TMac) : Option ((List TEv) × Unit) :=
  chk ((0 : Int) ≤ (0 : Int) ∧ ((0 : Int) ≤ if (60 : Int) < (↑acts.length : Int) then (60 : Int) else (↑acts.length : Int)) ∧ (if (60 : Int) < (↑acts.length : Int) then (60 : Int) else (↑acts.length : Int)) ≤ (↑acts.length : Int)) <|
  bnd (terrierlaw18_Events_l0 (sliceA (0 : Nat) (if (60 : Int) < (↑acts.length : Int) then (60 : Int) else (↑acts.length : Int)).toNat acts, (↑(sliceA (0 : Nat) (if (60 : Int) < (↑acts.length : Int) then (60 : Int) else (↑acts.length : Int)).toNat acts).length : Int), (0 : Int), [], ())) fun y11 =>
  sumO y11 (fun t12 =>
   some (t12.fst, ())) (fun r13 =>
   some (r13))
end Go.Tr
