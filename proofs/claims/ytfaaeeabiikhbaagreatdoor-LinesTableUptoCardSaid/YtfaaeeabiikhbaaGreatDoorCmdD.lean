/- The functions that these laws reach, as Lean functions: printed by a program of this session's. Conditions: none. -/
import Derived.Test.YtfaaeeabiikhbaaGreatDoorBD
import Derived.Test.YtfaaeeabiikhbaaGreatDoorBE
import Derived.Test.YtfaaeeabiikhbaaGreatDoorErrT
import Derived.Test.YtfaaeeabiikhbaaGreatDoorAddrD
import Derived.Test.YtfaaeeabiikhbaaGreatDoorCodec1D
import Derived.Test.YtfaaeeabiikhbaaGreatDoorMacD
import Derived.Test.YtfaaeeabiikhbaaGreatDoorScriptD
namespace Go.Tr
open Go
set_option linter.unusedVariables false
set_option maxRecDepth 100000
noncomputable def terrierlaw17_cut_b0 (s' : List UInt8) (k : Int) (out : List (List UInt8)) : Option (((List UInt8) × Int × (List (List UInt8)) × Unit) ⊕ (((List (List UInt8)) × Unit) ⊕ ((List (List UInt8)) × Unit))) :=
  cnd (decide (k < (↑s'.length : Int))) (
   chk ((0 : Int) ≤ k ∧ k < (↑s'.length : Int)) <|
   ltO ((↑(s'.getD k.toNat (0 : UInt8)).toNat : Int)) fun (v0 : Int) =>
   ltO (v0 == (32 : Int)) fun (v1 : Bool) =>
   cnd (v1) (
    chk (room (16 : Nat) (out.length + (1 : Nat))) <|
    ltO (IntKind.i64.wrap (k + (1 : Int))) fun (v2 : Int) =>
    some (.inl (s', v2, out ++ [[]], ()))) (
    ltO (IntKind.i64.wrap ((↑out.length : Int) - (1 : Int))) fun (v3 : Int) =>
    ltO (IntKind.i64.wrap ((↑out.length : Int) - (1 : Int))) fun (v4 : Int) =>
    chk ((0 : Int) ≤ v4 ∧ v4 < (↑out.length : Int)) <|
    chk (v4.toNat < out.length) <|
    ltO (IntKind.i64.wrap (k + (1 : Int))) fun (v5 : Int) =>
    chk ((0 : Int) ≤ k ∧ k ≤ v5 ∧ v5 ≤ (↑s'.length : Int)) <|
    chk ((↑((out.getD v4.toNat []).length + (sliceA k.toNat v5.toNat s').length) : Int) ≤ (9223372036854775807 : Int)) <|
    ltO (out.getD v4.toNat [] ++ sliceA k.toNat v5.toNat s') fun (v6 : List UInt8) =>
    chk ((0 : Int) ≤ v3 ∧ v3 < (↑out.length : Int)) <|
    chk (v3.toNat < out.length) <|
    ltO (IntKind.i64.wrap (k + (1 : Int))) fun (v7 : Int) =>
    some (.inl (s', v7, out.set v3.toNat v6, ())))) (
   some (.inr (.inl (out, ()))))
noncomputable def terrierlaw17_cut_l0 (s : (List UInt8) × Int × (List (List UInt8)) × Unit) : Option (((List (List UInt8)) × Unit) ⊕ ((List (List UInt8)) × Unit)) := loopM (fun s : (List UInt8) × Int × (List (List UInt8)) × Unit => terrierlaw17_cut_b0 s.1 s.2.1 s.2.2.1) s
noncomputable def terrierlaw17_cut (s' : List UInt8) : Option ((List (List UInt8)) × Unit) :=
  bnd (terrierlaw17_cut_l0 (s', (0 : Int), [[]], ())) fun y8 =>
  sumO y8 (fun t9 =>
   some (t9.fst, ())) (fun r10 =>
   some (r10))
noncomputable def lines_wrap (of : List UInt8) (e : Int) : Option (TErr × Unit) :=
  some (eLin of (eNum e), ())
noncomputable def lines_station (a' : List UInt8) (m : List UInt8) : Option (TSight × TErr × Unit) :=
  bnd (addr_Parse (a')) fun y0 =>
  cnd (!y0.snd.fst) (
   bnd (strconv_Quote (a')) fun y1 =>
   chk ((↑((8 : Nat) + y1.fst.length) : Int) ≤ (9223372036854775807 : Int)) <|
   ltO ([(97 : UInt8), (100 : UInt8), (100 : UInt8), (114 : UInt8), (101 : UInt8), (115 : UInt8), (115 : UInt8), (32 : UInt8)] ++ y1.fst) fun (v2 : List UInt8) =>
   bnd (lines_wrap (v2) ((1 : Int))) fun y3 =>
   some (zSight, y3.fst, ())) (
   bnd (mac_Parse (m)) fun y4 =>
   cnd (!y4.snd.fst) (
    bnd (strconv_Quote (m)) fun y5 =>
    chk ((↑((8 : Nat) + y5.fst.length) : Int) ≤ (9223372036854775807 : Int)) <|
    ltO ([(115 : UInt8), (116 : UInt8), (97 : UInt8), (116 : UInt8), (105 : UInt8), (111 : UInt8), (110 : UInt8), (32 : UInt8)] ++ y5.fst) fun (v6 : List UInt8) =>
    bnd (lines_wrap (v6) ((1 : Int))) fun y7 =>
    some (zSight, y7.fst, ())) (
    bnd (mac_None (y4.fst)) fun y8 =>
    chk ((!y8.fst) = true → (!y8.fst) = true) <|
    bndG (!y8.fst) (mac_Group (y4.fst)) (false, ()) fun y9 =>
    chk (y8.fst = false → (!y8.fst) = true) <|
    ltO (y8.fst || y9.fst) fun (v10 : Bool) =>
    cnd (v10) (
     bnd (strconv_Quote (m)) fun y11 =>
     chk ((↑((8 : Nat) + y11.fst.length) : Int) ≤ (9223372036854775807 : Int)) <|
     ltO ([(115 : UInt8), (116 : UInt8), (97 : UInt8), (116 : UInt8), (105 : UInt8), (111 : UInt8), (110 : UInt8), (32 : UInt8)] ++ y11.fst) fun (v12 : List UInt8) =>
     bnd (lines_wrap (v12) ((3 : Int))) fun y13 =>
     some (zSight, y13.fst, ())) (
     some ((y0.fst, y4.fst, (0 : Int)), TErr.nil, ()))))
noncomputable def lines_Neighbour (s' : List UInt8) : Option (TSight × TErr × Unit) :=
  bnd (strings_Split (s') ([(32 : UInt8)])) fun y0 =>
  chk ((!decide ((↑s'.length : Int) > (200 : Int))) = true → (!decide ((↑s'.length : Int) > (200 : Int))) = true) <|
  chk ((!decide ((↑s'.length : Int) > (200 : Int))) = true → (!decide ((↑s'.length : Int) > (200 : Int))) = true) <|
  ltO ((↑y0.fst.length : Int) != (4 : Int)) fun (v1 : Bool) =>
  chk (decide ((↑s'.length : Int) > (200 : Int)) = false → (!decide ((↑s'.length : Int) > (200 : Int))) = true) <|
  ltO (decide ((↑s'.length : Int) > (200 : Int)) || v1) fun (v2 : Bool) =>
  chk ((!v2) = true → (!v2) = true) <|
  chk ((!v2) = true → (0 : Int) ≤ (1 : Int) ∧ (1 : Int) < (↑y0.fst.length : Int)) <|
  ltO (y0.fst.getD (1 : Nat) []) fun (v3 : List UInt8) =>
  chk ((!v2) = true → (!v2) = true) <|
  chk ((!v2) = true → (!v2) = true) <|
  ltO (!v3 == [(108 : UInt8), (108 : UInt8), (97 : UInt8), (100 : UInt8), (100 : UInt8), (114 : UInt8)]) fun (v4 : Bool) =>
  chk (v2 = false → (!v2) = true) <|
  ltO (v2 || v4) fun (v5 : Bool) =>
  cnd (v5) (
   bnd (lines_wrap ([(110 : UInt8), (101 : UInt8), (105 : UInt8), (103 : UInt8), (104 : UInt8), (98 : UInt8), (111 : UInt8), (117 : UInt8), (114 : UInt8)]) ((1 : Int))) fun y6 =>
   some (zSight, y6.fst, ())) (
   chk ((0 : Int) ≤ (3 : Int) ∧ (3 : Int) < (↑y0.fst.length : Int)) <|
   ltO (y0.fst.getD (3 : Nat) []) fun (v7 : List UInt8) =>
   ltO (v7 == [(70 : UInt8), (65 : UInt8), (73 : UInt8), (76 : UInt8), (69 : UInt8), (68 : UInt8)]) fun (v8 : Bool) =>
   cnd (v8) (
    bnd (lines_wrap ([(110 : UInt8), (101 : UInt8), (105 : UInt8), (103 : UInt8), (104 : UInt8), (98 : UInt8), (111 : UInt8), (117 : UInt8), (114 : UInt8)]) ((8 : Int))) fun y9 =>
    some (zSight, y9.fst, ())) (
    ltO (v7 == [(73 : UInt8), (78 : UInt8), (67 : UInt8), (79 : UInt8), (77 : UInt8), (80 : UInt8), (76 : UInt8), (69 : UInt8), (84 : UInt8), (69 : UInt8)]) fun (v10 : Bool) =>
    cnd (v10) (
     bnd (lines_wrap ([(110 : UInt8), (101 : UInt8), (105 : UInt8), (103 : UInt8), (104 : UInt8), (98 : UInt8), (111 : UInt8), (117 : UInt8), (114 : UInt8)]) ((8 : Int))) fun y11 =>
     some (zSight, y11.fst, ())) (
     ltO (v7 == [(82 : UInt8), (69 : UInt8), (65 : UInt8), (67 : UInt8), (72 : UInt8), (65 : UInt8), (66 : UInt8), (76 : UInt8), (69 : UInt8)]) fun (v12 : Bool) =>
     cnd (v12) (
      chk ((0 : Int) ≤ (0 : Int) ∧ (0 : Int) < (↑y0.fst.length : Int)) <|
      ltO (y0.fst.getD (0 : Nat) []) fun (v13 : List UInt8) =>
      chk ((0 : Int) ≤ (2 : Int) ∧ (2 : Int) < (↑y0.fst.length : Int)) <|
      ltO (y0.fst.getD (2 : Nat) []) fun (v14 : List UInt8) =>
      bnd (lines_station (v13) (v14)) fun y15 =>
      some (y15.fst, y15.snd.fst, ())) (
      ltO (v7 == [(83 : UInt8), (84 : UInt8), (65 : UInt8), (76 : UInt8), (69 : UInt8)]) fun (v16 : Bool) =>
      cnd (v16) (
       chk ((0 : Int) ≤ (0 : Int) ∧ (0 : Int) < (↑y0.fst.length : Int)) <|
       ltO (y0.fst.getD (0 : Nat) []) fun (v17 : List UInt8) =>
       chk ((0 : Int) ≤ (2 : Int) ∧ (2 : Int) < (↑y0.fst.length : Int)) <|
       ltO (y0.fst.getD (2 : Nat) []) fun (v18 : List UInt8) =>
       bnd (lines_station (v17) (v18)) fun y19 =>
       some (y19.fst, y19.snd.fst, ())) (
       ltO (v7 == [(68 : UInt8), (69 : UInt8), (76 : UInt8), (65 : UInt8), (89 : UInt8)]) fun (v20 : Bool) =>
       cnd (v20) (
        chk ((0 : Int) ≤ (0 : Int) ∧ (0 : Int) < (↑y0.fst.length : Int)) <|
        ltO (y0.fst.getD (0 : Nat) []) fun (v21 : List UInt8) =>
        chk ((0 : Int) ≤ (2 : Int) ∧ (2 : Int) < (↑y0.fst.length : Int)) <|
        ltO (y0.fst.getD (2 : Nat) []) fun (v22 : List UInt8) =>
        bnd (lines_station (v21) (v22)) fun y23 =>
        some (y23.fst, y23.snd.fst, ())) (
        chk ((0 : Int) ≤ (3 : Int) ∧ (3 : Int) < (↑y0.fst.length : Int)) <|
        ltO (y0.fst.getD (3 : Nat) []) fun (v24 : List UInt8) =>
        bnd (strconv_Quote (v24)) fun y25 =>
        chk ((↑((10 : Nat) + y25.fst.length) : Int) ≤ (9223372036854775807 : Int)) <|
        ltO ([(110 : UInt8), (101 : UInt8), (105 : UInt8), (103 : UInt8), (104 : UInt8), (98 : UInt8), (111 : UInt8), (117 : UInt8), (114 : UInt8), (32 : UInt8)] ++ y25.fst) fun (v26 : List UInt8) =>
        bnd (lines_wrap (v26) ((1 : Int))) fun y27 =>
        some (zSight, y27.fst, ())))))))
noncomputable def lines_Lease (s' : List UInt8) : Option (TSight × TErr × Unit) :=
  bnd (strings_Split (s') ([(32 : UInt8)])) fun y0 =>
  chk ((!decide ((↑s'.length : Int) > (200 : Int))) = true → (!decide ((↑s'.length : Int) > (200 : Int))) = true) <|
  chk ((!decide ((↑s'.length : Int) > (200 : Int))) = true → (!decide ((↑s'.length : Int) > (200 : Int))) = true) <|
  ltO ((↑y0.fst.length : Int) != (4 : Int)) fun (v1 : Bool) =>
  chk (decide ((↑s'.length : Int) > (200 : Int)) = false → (!decide ((↑s'.length : Int) > (200 : Int))) = true) <|
  ltO (decide ((↑s'.length : Int) > (200 : Int)) || v1) fun (v2 : Bool) =>
  chk ((!v2) = true → (!v2) = true) <|
  chk ((!v2) = true → (0 : Int) ≤ (0 : Int) ∧ (0 : Int) < (↑y0.fst.length : Int)) <|
  ltO (y0.fst.getD (0 : Nat) []) fun (v3 : List UInt8) =>
  chk ((!v2) = true → (!v2) = true) <|
  chk ((!v2) = true → (!v2) = true) <|
  ltO (!v3 == [(108 : UInt8), (101 : UInt8), (97 : UInt8), (115 : UInt8), (101 : UInt8)]) fun (v4 : Bool) =>
  chk (v2 = false → (!v2) = true) <|
  ltO (v2 || v4) fun (v5 : Bool) =>
  cnd (v5) (
   bnd (lines_wrap ([(108 : UInt8), (101 : UInt8), (97 : UInt8), (115 : UInt8), (101 : UInt8)]) ((1 : Int))) fun y6 =>
   some (zSight, y6.fst, ())) (
   chk ((0 : Int) ≤ (3 : Int) ∧ (3 : Int) < (↑y0.fst.length : Int)) <|
   ltO (y0.fst.getD (3 : Nat) []) fun (v7 : List UInt8) =>
   bnd (strconv_Atoi (v7)) fun y8 =>
   ltO (!errN y8.snd.fst) fun (v9 : Bool) =>
   chk ((!v9) = true → (!v9) = true) <|
   bndG (!v9) (strconv_Itoa (y8.fst)) ([], ()) fun y10 =>
   chk ((!v9) = true → (!v9) = true) <|
   chk ((!v9) = true → (0 : Int) ≤ (3 : Int) ∧ (3 : Int) < (↑y0.fst.length : Int)) <|
   ltO (y0.fst.getD (3 : Nat) []) fun (v11 : List UInt8) =>
   chk ((!v9) = true → (!v9) = true) <|
   chk ((!v9) = true → (!v9) = true) <|
   chk ((!v9) = true → (!v9) = true) <|
   ltO (!y10.fst == v11) fun (v12 : Bool) =>
   chk (v9 = false → (!v9) = true) <|
   ltO (v9 || v12) fun (v13 : Bool) =>
   cnd (v13) (
    chk ((0 : Int) ≤ (3 : Int) ∧ (3 : Int) < (↑y0.fst.length : Int)) <|
    ltO (y0.fst.getD (3 : Nat) []) fun (v14 : List UInt8) =>
    bnd (strconv_Quote (v14)) fun y15 =>
    chk ((↑((5 : Nat) + y15.fst.length) : Int) ≤ (9223372036854775807 : Int)) <|
    ltO ([(116 : UInt8), (105 : UInt8), (99 : UInt8), (107 : UInt8), (32 : UInt8)] ++ y15.fst) fun (v16 : List UInt8) =>
    bnd (lines_wrap (v16) ((1 : Int))) fun y17 =>
    some (zSight, y17.fst, ())) (
    chk ((!decide (y8.fst < (0 : Int))) = true → (!decide (y8.fst < (0 : Int))) = true) <|
    chk (decide (y8.fst < (0 : Int)) = false → (!decide (y8.fst < (0 : Int))) = true) <|
    ltO (decide (y8.fst < (0 : Int)) || decide (y8.fst > (1099511627776 : Int))) fun (v18 : Bool) =>
    cnd (v18) (
     chk ((0 : Int) ≤ (3 : Int) ∧ (3 : Int) < (↑y0.fst.length : Int)) <|
     ltO (y0.fst.getD (3 : Nat) []) fun (v19 : List UInt8) =>
     chk ((↑((5 : Nat) + List.length v19) : Int) ≤ (9223372036854775807 : Int)) <|
     ltO ([(116 : UInt8), (105 : UInt8), (99 : UInt8), (107 : UInt8), (32 : UInt8)] ++ v19) fun (v20 : List UInt8) =>
     bnd (lines_wrap (v20) ((3 : Int))) fun y21 =>
     some (zSight, y21.fst, ())) (
     chk ((0 : Int) ≤ (1 : Int) ∧ (1 : Int) < (↑y0.fst.length : Int)) <|
     ltO (y0.fst.getD (1 : Nat) []) fun (v22 : List UInt8) =>
     chk ((0 : Int) ≤ (2 : Int) ∧ (2 : Int) < (↑y0.fst.length : Int)) <|
     ltO (y0.fst.getD (2 : Nat) []) fun (v23 : List UInt8) =>
     bnd (lines_station (v22) (v23)) fun y24 =>
     ltO (!errN y24.snd.fst) fun (v25 : Bool) =>
     cnd (v25) (
      some (zSight, y24.snd.fst, ())) (
      some ((y24.fst.fst, y24.fst.snd.fst, y8.fst), TErr.nil, ())))))
noncomputable def terrierlaw08_awake : Option (Bool × Unit) :=
  bnd (lines_Neighbour ([(49 : UInt8), (48 : UInt8), (46 : UInt8), (48 : UInt8), (46 : UInt8), (48 : UInt8), (46 : UInt8), (49 : UInt8), (32 : UInt8), (108 : UInt8), (108 : UInt8), (97 : UInt8), (100 : UInt8), (100 : UInt8), (114 : UInt8), (32 : UInt8), (48 : UInt8), (50 : UInt8), (58 : UInt8), (48 : UInt8), (48 : UInt8), (58 : UInt8), (48 : UInt8), (48 : UInt8), (58 : UInt8), (48 : UInt8), (48 : UInt8), (58 : UInt8), (48 : UInt8), (48 : UInt8), (58 : UInt8), (48 : UInt8), (49 : UInt8), (32 : UInt8), (83 : UInt8), (84 : UInt8), (65 : UInt8), (76 : UInt8), (69 : UInt8)])) fun y0 =>
  bnd (lines_Lease ([(108 : UInt8), (101 : UInt8), (97 : UInt8), (115 : UInt8), (101 : UInt8), (32 : UInt8), (49 : UInt8), (48 : UInt8), (46 : UInt8), (48 : UInt8), (46 : UInt8), (48 : UInt8), (46 : UInt8), (49 : UInt8), (32 : UInt8), (48 : UInt8), (50 : UInt8), (58 : UInt8), (48 : UInt8), (48 : UInt8), (58 : UInt8), (48 : UInt8), (48 : UInt8), (58 : UInt8), (48 : UInt8), (48 : UInt8), (58 : UInt8), (48 : UInt8), (48 : UInt8), (58 : UInt8), (48 : UInt8), (49 : UInt8), (32 : UInt8), (48 : UInt8), (48 : UInt8), (55 : UInt8)])) fun y1 =>
  ltO (errN y0.snd.fst) fun (v2 : Bool) =>
  chk (v2 = true → v2 = true) <|
  chk (v2 = true → v2 = true) <|
  ltO (y0.fst.fst == (167772161 : Int)) fun (v3 : Bool) =>
  chk (v2 = true → v2 = true) <|
  ltO (v2 && v3) fun (v4 : Bool) =>
  chk (v4 = true → v4 = true) <|
  chk (v4 = true → (0 : Int) ≤ (5 : Int) ∧ (5 : Int) < (6 : Int)) <|
  chk (v4 = true → v4 = true) <|
  chk (v4 = true → v4 = true) <|
  ltO (y0.fst.snd.fst.snd.snd.snd.snd.snd == (1 : Int)) fun (v5 : Bool) =>
  chk (v4 = true → v4 = true) <|
  ltO (v4 && v5) fun (v6 : Bool) =>
  chk (v6 = true → v6 = true) <|
  chk (v6 = true → v6 = true) <|
  bndG (v6) (errors_Is (y1.snd.fst) (eNum (1 : Int))) (false, ()) fun y7 =>
  chk (v6 = true → v6 = true) <|
  ltO (v6 && y7.fst) fun (v8 : Bool) =>
  chk (v8 = true → v8 = true) <|
  bndG (v8) (lines_Number (y1.snd.fst)) ((0 : Int), ()) fun y9 =>
  chk (v8 = true → v8 = true) <|
  ltO (y9.fst == (1 : Int)) fun (v10 : Bool) =>
  chk (v8 = true → v8 = true) <|
  ltO (v8 && v10) fun (v11 : Bool) =>
  some (v11, ())
noncomputable def terrierlaw08_digits_s (self : Int → Option ((List UInt8) × Unit)) (n : Int) : Option ((List UInt8) × Unit) :=
  cnd (decide (n < (0 : Int))) (
   cnd (decide (n < (-4611686018427387904 : Int))) (
    chk (¬(10 : Int) = (0 : Int)) <|
    ltO (IntKind.i64.wrap (n.tdiv (10 : Int))) fun (v0 : Int) =>
    ltO (IntKind.i64.wrap ((0 : Int) - v0)) fun (v1 : Int) =>
    bnd (self (v1)) fun y2 =>
    chk ((↑((1 : Nat) + y2.fst.length) : Int) ≤ (9223372036854775807 : Int)) <|
    ltO ([(45 : UInt8)] ++ y2.fst) fun (v3 : List UInt8) =>
    chk (¬(10 : Int) = (0 : Int)) <|
    ltO (n.tmod (10 : Int)) fun (v4 : Int) =>
    ltO (IntKind.i64.wrap ((0 : Int) - v4)) fun (v5 : Int) =>
    bnd (self (v5)) fun y6 =>
    chk ((↑(v3.length + y6.fst.length) : Int) ≤ (9223372036854775807 : Int)) <|
    ltO (v3 ++ y6.fst) fun (v7 : List UInt8) =>
    some (v7, ())) (
    ltO (IntKind.i64.wrap ((0 : Int) - n)) fun (v8 : Int) =>
    bnd (self (v8)) fun y9 =>
    chk ((↑((1 : Nat) + y9.fst.length) : Int) ≤ (9223372036854775807 : Int)) <|
    ltO ([(45 : UInt8)] ++ y9.fst) fun (v10 : List UInt8) =>
    some (v10, ()))) (
   cnd (decide (n < (10 : Int))) (
    ltO (IntKind.i64.wrap (n + (1 : Int))) fun (v11 : Int) =>
    chk ((0 : Int) ≤ n ∧ n ≤ v11 ∧ v11 ≤ (10 : Int)) <|
    some (sliceA n.toNat v11.toNat [(48 : UInt8), (49 : UInt8), (50 : UInt8), (51 : UInt8), (52 : UInt8), (53 : UInt8), (54 : UInt8), (55 : UInt8), (56 : UInt8), (57 : UInt8)], ())) (
    chk (¬(10 : Int) = (0 : Int)) <|
    ltO (IntKind.i64.wrap (n.tdiv (10 : Int))) fun (v12 : Int) =>
    bnd (self (v12)) fun y13 =>
    chk (¬(10 : Int) = (0 : Int)) <|
    ltO (n.tmod (10 : Int)) fun (v14 : Int) =>
    bnd (self (v14)) fun y15 =>
    chk ((↑(y13.fst.length + y15.fst.length) : Int) ≤ (9223372036854775807 : Int)) <|
    ltO (y13.fst ++ y15.fst) fun (v16 : List UInt8) =>
    some (v16, ())))
noncomputable def terrierlaw08_digits_k : Nat → Int → Option ((List UInt8) × Unit)
  | 0 => fun _ => none
  | k + 1 => fun x0 => terrierlaw08_digits_s (terrierlaw08_digits_k k) x0
noncomputable def terrierlaw08_digits : Int → Option ((List UInt8) × Unit) := terrierlaw08_digits_k 24
noncomputable def terrierlaw08_Words_four (w : Int × TMac × Int × Int × Int × List UInt8) (lease : Bool) : Option (((List UInt8) × (List UInt8) × (List UInt8) × List UInt8) × Unit) :=
  bnd (addr_Text (w.fst)) fun y0 =>
  bnd (mac_Text (w.snd.fst)) fun y1 =>
  chk (¬(7 : Int) = (0 : Int)) <|
  ltO (w.snd.snd.fst.tmod (7 : Int)) fun (v2 : Int) =>
  chk ((0 : Int) ≤ v2 ∧ v2 < (7 : Int)) <|
  chk (v2.toNat < (7 : Nat)) <|
  cnd (lease) (
   bnd (addr_Text (w.fst)) fun y3 =>
   bnd (mac_Text (w.snd.fst)) fun y4 =>
   bnd (terrierlaw08_digits (w.snd.snd.snd.fst)) fun y5 =>
   cnd (decide (w.snd.snd.snd.snd.fst < (4 : Int))) (
    chk ((0 : Int) ≤ w.snd.snd.snd.snd.fst ∧ w.snd.snd.snd.snd.fst < (4 : Int)) <|
    some ((([[(108 : UInt8), (101 : UInt8), (97 : UInt8), (115 : UInt8), (101 : UInt8)], y3.fst, y4.fst, y5.fst].set w.snd.snd.snd.snd.fst.toNat w.snd.snd.snd.snd.snd).getD (0 : Nat) [], ([[(108 : UInt8), (101 : UInt8), (97 : UInt8), (115 : UInt8), (101 : UInt8)], y3.fst, y4.fst, y5.fst].set w.snd.snd.snd.snd.fst.toNat w.snd.snd.snd.snd.snd).getD (1 : Nat) [], ([[(108 : UInt8), (101 : UInt8), (97 : UInt8), (115 : UInt8), (101 : UInt8)], y3.fst, y4.fst, y5.fst].set w.snd.snd.snd.snd.fst.toNat w.snd.snd.snd.snd.snd).getD (2 : Nat) [], ([[(108 : UInt8), (101 : UInt8), (97 : UInt8), (115 : UInt8), (101 : UInt8)], y3.fst, y4.fst, y5.fst].set w.snd.snd.snd.snd.fst.toNat w.snd.snd.snd.snd.snd).getD (3 : Nat) []), ())) (
    some (([(108 : UInt8), (101 : UInt8), (97 : UInt8), (115 : UInt8), (101 : UInt8)], y3.fst, y4.fst, y5.fst), ()))) (
   cnd (decide (w.snd.snd.snd.snd.fst < (4 : Int))) (
    chk ((0 : Int) ≤ w.snd.snd.snd.snd.fst ∧ w.snd.snd.snd.snd.fst < (4 : Int)) <|
    some ((([y0.fst, [(108 : UInt8), (108 : UInt8), (97 : UInt8), (100 : UInt8), (100 : UInt8), (114 : UInt8)], y1.fst, [[(82 : UInt8), (69 : UInt8), (65 : UInt8), (67 : UInt8), (72 : UInt8), (65 : UInt8), (66 : UInt8), (76 : UInt8), (69 : UInt8)], [(83 : UInt8), (84 : UInt8), (65 : UInt8), (76 : UInt8), (69 : UInt8)], [(68 : UInt8), (69 : UInt8), (76 : UInt8), (65 : UInt8), (89 : UInt8)], [(70 : UInt8), (65 : UInt8), (73 : UInt8), (76 : UInt8), (69 : UInt8), (68 : UInt8)], [(73 : UInt8), (78 : UInt8), (67 : UInt8), (79 : UInt8), (77 : UInt8), (80 : UInt8), (76 : UInt8), (69 : UInt8), (84 : UInt8), (69 : UInt8)], [(114 : UInt8), (101 : UInt8), (97 : UInt8), (99 : UInt8), (104 : UInt8), (97 : UInt8), (98 : UInt8), (108 : UInt8), (101 : UInt8)], []].getD v2.toNat []].set w.snd.snd.snd.snd.fst.toNat w.snd.snd.snd.snd.snd).getD (0 : Nat) [], ([y0.fst, [(108 : UInt8), (108 : UInt8), (97 : UInt8), (100 : UInt8), (100 : UInt8), (114 : UInt8)], y1.fst, [[(82 : UInt8), (69 : UInt8), (65 : UInt8), (67 : UInt8), (72 : UInt8), (65 : UInt8), (66 : UInt8), (76 : UInt8), (69 : UInt8)], [(83 : UInt8), (84 : UInt8), (65 : UInt8), (76 : UInt8), (69 : UInt8)], [(68 : UInt8), (69 : UInt8), (76 : UInt8), (65 : UInt8), (89 : UInt8)], [(70 : UInt8), (65 : UInt8), (73 : UInt8), (76 : UInt8), (69 : UInt8), (68 : UInt8)], [(73 : UInt8), (78 : UInt8), (67 : UInt8), (79 : UInt8), (77 : UInt8), (80 : UInt8), (76 : UInt8), (69 : UInt8), (84 : UInt8), (69 : UInt8)], [(114 : UInt8), (101 : UInt8), (97 : UInt8), (99 : UInt8), (104 : UInt8), (97 : UInt8), (98 : UInt8), (108 : UInt8), (101 : UInt8)], []].getD v2.toNat []].set w.snd.snd.snd.snd.fst.toNat w.snd.snd.snd.snd.snd).getD (1 : Nat) [], ([y0.fst, [(108 : UInt8), (108 : UInt8), (97 : UInt8), (100 : UInt8), (100 : UInt8), (114 : UInt8)], y1.fst, [[(82 : UInt8), (69 : UInt8), (65 : UInt8), (67 : UInt8), (72 : UInt8), (65 : UInt8), (66 : UInt8), (76 : UInt8), (69 : UInt8)], [(83 : UInt8), (84 : UInt8), (65 : UInt8), (76 : UInt8), (69 : UInt8)], [(68 : UInt8), (69 : UInt8), (76 : UInt8), (65 : UInt8), (89 : UInt8)], [(70 : UInt8), (65 : UInt8), (73 : UInt8), (76 : UInt8), (69 : UInt8), (68 : UInt8)], [(73 : UInt8), (78 : UInt8), (67 : UInt8), (79 : UInt8), (77 : UInt8), (80 : UInt8), (76 : UInt8), (69 : UInt8), (84 : UInt8), (69 : UInt8)], [(114 : UInt8), (101 : UInt8), (97 : UInt8), (99 : UInt8), (104 : UInt8), (97 : UInt8), (98 : UInt8), (108 : UInt8), (101 : UInt8)], []].getD v2.toNat []].set w.snd.snd.snd.snd.fst.toNat w.snd.snd.snd.snd.snd).getD (2 : Nat) [], ([y0.fst, [(108 : UInt8), (108 : UInt8), (97 : UInt8), (100 : UInt8), (100 : UInt8), (114 : UInt8)], y1.fst, [[(82 : UInt8), (69 : UInt8), (65 : UInt8), (67 : UInt8), (72 : UInt8), (65 : UInt8), (66 : UInt8), (76 : UInt8), (69 : UInt8)], [(83 : UInt8), (84 : UInt8), (65 : UInt8), (76 : UInt8), (69 : UInt8)], [(68 : UInt8), (69 : UInt8), (76 : UInt8), (65 : UInt8), (89 : UInt8)], [(70 : UInt8), (65 : UInt8), (73 : UInt8), (76 : UInt8), (69 : UInt8), (68 : UInt8)], [(73 : UInt8), (78 : UInt8), (67 : UInt8), (79 : UInt8), (77 : UInt8), (80 : UInt8), (76 : UInt8), (69 : UInt8), (84 : UInt8), (69 : UInt8)], [(114 : UInt8), (101 : UInt8), (97 : UInt8), (99 : UInt8), (104 : UInt8), (97 : UInt8), (98 : UInt8), (108 : UInt8), (101 : UInt8)], []].getD v2.toNat []].set w.snd.snd.snd.snd.fst.toNat w.snd.snd.snd.snd.snd).getD (3 : Nat) []), ())) (
    some ((y0.fst, [(108 : UInt8), (108 : UInt8), (97 : UInt8), (100 : UInt8), (100 : UInt8), (114 : UInt8)], y1.fst, [[(82 : UInt8), (69 : UInt8), (65 : UInt8), (67 : UInt8), (72 : UInt8), (65 : UInt8), (66 : UInt8), (76 : UInt8), (69 : UInt8)], [(83 : UInt8), (84 : UInt8), (65 : UInt8), (76 : UInt8), (69 : UInt8)], [(68 : UInt8), (69 : UInt8), (76 : UInt8), (65 : UInt8), (89 : UInt8)], [(70 : UInt8), (65 : UInt8), (73 : UInt8), (76 : UInt8), (69 : UInt8), (68 : UInt8)], [(73 : UInt8), (78 : UInt8), (67 : UInt8), (79 : UInt8), (77 : UInt8), (80 : UInt8), (76 : UInt8), (69 : UInt8), (84 : UInt8), (69 : UInt8)], [(114 : UInt8), (101 : UInt8), (97 : UInt8), (99 : UInt8), (104 : UInt8), (97 : UInt8), (98 : UInt8), (108 : UInt8), (101 : UInt8)], []].getD v2.toNat []), ())))
noncomputable def terrierlaw08_split_b0 (s' : List UInt8) (k : Int) (out : List (List UInt8)) : Option (((List UInt8) × Int × (List (List UInt8)) × Unit) ⊕ (((List (List UInt8)) × Unit) ⊕ ((List (List UInt8)) × Unit))) :=
  cnd (decide (k < (↑s'.length : Int))) (
   chk ((0 : Int) ≤ k ∧ k < (↑s'.length : Int)) <|
   ltO ((↑(s'.getD k.toNat (0 : UInt8)).toNat : Int)) fun (v0 : Int) =>
   ltO (v0 == (32 : Int)) fun (v1 : Bool) =>
   cnd (v1) (
    chk (room (16 : Nat) (out.length + (1 : Nat))) <|
    ltO (IntKind.i64.wrap (k + (1 : Int))) fun (v2 : Int) =>
    some (.inl (s', v2, out ++ [[]], ()))) (
    ltO (IntKind.i64.wrap ((↑out.length : Int) - (1 : Int))) fun (v3 : Int) =>
    ltO (IntKind.i64.wrap ((↑out.length : Int) - (1 : Int))) fun (v4 : Int) =>
    chk ((0 : Int) ≤ v4 ∧ v4 < (↑out.length : Int)) <|
    chk (v4.toNat < out.length) <|
    ltO (IntKind.i64.wrap (k + (1 : Int))) fun (v5 : Int) =>
    chk ((0 : Int) ≤ k ∧ k ≤ v5 ∧ v5 ≤ (↑s'.length : Int)) <|
    chk ((↑((out.getD v4.toNat []).length + (sliceA k.toNat v5.toNat s').length) : Int) ≤ (9223372036854775807 : Int)) <|
    ltO (out.getD v4.toNat [] ++ sliceA k.toNat v5.toNat s') fun (v6 : List UInt8) =>
    chk ((0 : Int) ≤ v3 ∧ v3 < (↑out.length : Int)) <|
    chk (v3.toNat < out.length) <|
    ltO (IntKind.i64.wrap (k + (1 : Int))) fun (v7 : Int) =>
    some (.inl (s', v7, out.set v3.toNat v6, ())))) (
   some (.inr (.inl (out, ()))))
noncomputable def terrierlaw08_split_l0 (s : (List UInt8) × Int × (List (List UInt8)) × Unit) : Option (((List (List UInt8)) × Unit) ⊕ ((List (List UInt8)) × Unit)) := loopM (fun s : (List UInt8) × Int × (List (List UInt8)) × Unit => terrierlaw08_split_b0 s.1 s.2.1 s.2.2.1) s
noncomputable def terrierlaw08_split (s' : List UInt8) : Option ((List (List UInt8)) × Unit) :=
  bnd (terrierlaw08_split_l0 (s', (0 : Int), [[]], ())) fun y8 =>
  sumO y8 (fun t9 =>
   some (t9.fst, ())) (fun r10 =>
   some (r10))
noncomputable def terrierlaw08_station (a' : List UInt8) (m : List UInt8) : Option (TSight × Int × Unit) :=
  bnd (addr_Parse (a')) fun y0 =>
  bnd (mac_Parse (m)) fun y1 =>
  chk ((!!y0.snd.fst) = true → (!!y0.snd.fst) = true) <|
  chk ((!y0.snd.fst) = false → (!!y0.snd.fst) = true) <|
  ltO (!y0.snd.fst || !y1.snd.fst) fun (v2 : Bool) =>
  cnd (v2) (
   some (zSight, (1 : Int), ())) (
   bnd (mac_None (y1.fst)) fun y3 =>
   chk ((!y3.fst) = true → (!y3.fst) = true) <|
   bndG (!y3.fst) (mac_Group (y1.fst)) (false, ()) fun y4 =>
   chk (y3.fst = false → (!y3.fst) = true) <|
   ltO (y3.fst || y4.fst) fun (v5 : Bool) =>
   cnd (v5) (
    some (zSight, (3 : Int), ())) (
    some ((y0.fst, y1.fst, (0 : Int)), (0 : Int), ())))
noncomputable def terrierlaw08_neighbour (s' : List UInt8) : Option (TSight × Int × Unit) :=
  cnd (decide ((↑s'.length : Int) > (200 : Int))) (
   some (zSight, (1 : Int), ())) (
   bnd (terrierlaw08_split (s')) fun y0 =>
   ltO ((↑y0.fst.length : Int) != (4 : Int)) fun (v1 : Bool) =>
   chk ((!v1) = true → (!v1) = true) <|
   chk ((!v1) = true → (0 : Int) ≤ (1 : Int) ∧ (1 : Int) < (↑y0.fst.length : Int)) <|
   chk ((!v1) = true → (!v1) = true) <|
   chk ((!v1) = true → (1 : Nat) < y0.fst.length) <|
   chk ((!v1) = true → (!v1) = true) <|
   ltO (!y0.fst.getD (1 : Nat) [] == [(108 : UInt8), (108 : UInt8), (97 : UInt8), (100 : UInt8), (100 : UInt8), (114 : UInt8)]) fun (v2 : Bool) =>
   chk (v1 = false → (!v1) = true) <|
   ltO (v1 || v2) fun (v3 : Bool) =>
   cnd (v3) (
    some (zSight, (1 : Int), ())) (
    chk ((0 : Int) ≤ (3 : Int) ∧ (3 : Int) < (↑y0.fst.length : Int)) <|
    chk ((3 : Nat) < y0.fst.length) <|
    ltO (y0.fst.getD (3 : Nat) [] == [(70 : UInt8), (65 : UInt8), (73 : UInt8), (76 : UInt8), (69 : UInt8), (68 : UInt8)]) fun (v4 : Bool) =>
    chk ((!v4) = true → (!v4) = true) <|
    chk ((!v4) = true → (0 : Int) ≤ (3 : Int) ∧ (3 : Int) < (↑y0.fst.length : Int)) <|
    chk ((!v4) = true → (!v4) = true) <|
    chk ((!v4) = true → (3 : Nat) < y0.fst.length) <|
    chk ((!v4) = true → (!v4) = true) <|
    ltO (y0.fst.getD (3 : Nat) [] == [(73 : UInt8), (78 : UInt8), (67 : UInt8), (79 : UInt8), (77 : UInt8), (80 : UInt8), (76 : UInt8), (69 : UInt8), (84 : UInt8), (69 : UInt8)]) fun (v5 : Bool) =>
    chk (v4 = false → (!v4) = true) <|
    ltO (v4 || v5) fun (v6 : Bool) =>
    cnd (v6) (
     some (zSight, (8 : Int), ())) (
     chk ((0 : Int) ≤ (3 : Int) ∧ (3 : Int) < (↑y0.fst.length : Int)) <|
     chk ((3 : Nat) < y0.fst.length) <|
     ltO (!y0.fst.getD (3 : Nat) [] == [(82 : UInt8), (69 : UInt8), (65 : UInt8), (67 : UInt8), (72 : UInt8), (65 : UInt8), (66 : UInt8), (76 : UInt8), (69 : UInt8)]) fun (v7 : Bool) =>
     chk (v7 = true → v7 = true) <|
     chk (v7 = true → (0 : Int) ≤ (3 : Int) ∧ (3 : Int) < (↑y0.fst.length : Int)) <|
     chk (v7 = true → v7 = true) <|
     chk (v7 = true → (3 : Nat) < y0.fst.length) <|
     chk (v7 = true → v7 = true) <|
     ltO (!y0.fst.getD (3 : Nat) [] == [(83 : UInt8), (84 : UInt8), (65 : UInt8), (76 : UInt8), (69 : UInt8)]) fun (v8 : Bool) =>
     chk (v7 = true → v7 = true) <|
     ltO (v7 && v8) fun (v9 : Bool) =>
     chk (v9 = true → v9 = true) <|
     chk (v9 = true → (0 : Int) ≤ (3 : Int) ∧ (3 : Int) < (↑y0.fst.length : Int)) <|
     chk (v9 = true → v9 = true) <|
     chk (v9 = true → (3 : Nat) < y0.fst.length) <|
     chk (v9 = true → v9 = true) <|
     ltO (!y0.fst.getD (3 : Nat) [] == [(68 : UInt8), (69 : UInt8), (76 : UInt8), (65 : UInt8), (89 : UInt8)]) fun (v10 : Bool) =>
     chk (v9 = true → v9 = true) <|
     ltO (v9 && v10) fun (v11 : Bool) =>
     cnd (v11) (
      some (zSight, (1 : Int), ())) (
      chk ((0 : Int) ≤ (0 : Int) ∧ (0 : Int) < (↑y0.fst.length : Int)) <|
      chk ((0 : Nat) < y0.fst.length) <|
      chk ((0 : Int) ≤ (2 : Int) ∧ (2 : Int) < (↑y0.fst.length : Int)) <|
      chk ((2 : Nat) < y0.fst.length) <|
      bnd (terrierlaw08_station (y0.fst.getD (0 : Nat) []) (y0.fst.getD (2 : Nat) [])) fun y12 =>
      some (y12.fst, y12.snd.fst, ())))))
noncomputable def terrierlaw08_told (e : TErr) (want : Int) : Option (Bool × Unit) :=
  ltO (want == (0 : Int)) fun (v0 : Bool) =>
  cnd (v0) (
   ltO (errN e) fun (v1 : Bool) =>
   chk (v1 = true → v1 = true) <|
   bndG (v1) (lines_Number (e)) ((0 : Int), ()) fun y2 =>
   chk (v1 = true → v1 = true) <|
   ltO (y2.fst == (0 : Int)) fun (v3 : Bool) =>
   chk (v1 = true → v1 = true) <|
   ltO (v1 && v3) fun (v4 : Bool) =>
   some (v4, ())) (
   bnd (errors_Is (e) (eNum want)) fun y5 =>
   chk (y5.fst = true → y5.fst = true) <|
   bndG (y5.fst) (lines_Number (e)) ((0 : Int), ()) fun y6 =>
   chk (y5.fst = true → y5.fst = true) <|
   chk (y5.fst = true → y5.fst = true) <|
   ltO (y6.fst == want) fun (v7 : Bool) =>
   chk (y5.fst = true → y5.fst = true) <|
   ltO (y5.fst && v7) fun (v8 : Bool) =>
   some (v8, ()))
noncomputable def terrierlaw08_number_b0 (s' : List UInt8) (n : Int) (k : Int) (i : Int) : Option (((List UInt8) × Int × Int × Int × Unit) ⊕ (((List UInt8) × Int × Int × Unit) ⊕ (Int × Bool × Unit))) :=
  cnd (decide (i < (↑s'.length : Int))) (
   chk ((0 : Int) ≤ i ∧ i < (↑s'.length : Int)) <|
   ltO ((↑(s'.getD i.toNat (0 : UInt8)).toNat : Int)) fun (v3 : Int) =>
   chk ((!decide (v3 < (48 : Int))) = true → (!decide (v3 < (48 : Int))) = true) <|
   chk ((!decide (v3 < (48 : Int))) = true → (!decide (v3 < (48 : Int))) = true) <|
   chk ((!decide (v3 < (48 : Int))) = true → (0 : Int) ≤ i ∧ i < (↑s'.length : Int)) <|
   ltO ((↑(s'.getD i.toNat (0 : UInt8)).toNat : Int)) fun (v4 : Int) =>
   chk ((!decide (v3 < (48 : Int))) = true → (!decide (v3 < (48 : Int))) = true) <|
   chk (decide (v3 < (48 : Int)) = false → (!decide (v3 < (48 : Int))) = true) <|
   ltO (decide (v3 < (48 : Int)) || decide (v4 > (57 : Int))) fun (v5 : Bool) =>
   chk ((!v5) = true → (!v5) = true) <|
   chk (v5 = false → (!v5) = true) <|
   ltO (v5 || decide (i > (24 : Int))) fun (v6 : Bool) =>
   cnd (v6) (
    some (.inr (.inr ((0 : Int), false, ())))) (
    ltO (IntKind.i64.wrap (n * (10 : Int))) fun (v7 : Int) =>
    chk ((0 : Int) ≤ i ∧ i < (↑s'.length : Int)) <|
    ltO ((↑(s'.getD i.toNat (0 : UInt8)).toNat : Int)) fun (v8 : Int) =>
    ltO (IntKind.u8.wrap (v8 - (48 : Int))) fun (v9 : Int) =>
    ltO (IntKind.i64.wrap v9) fun (v10 : Int) =>
    ltO (IntKind.i64.wrap (v7 + v10)) fun (v11 : Int) =>
    ltO (IntKind.i64.wrap (i + (1 : Int))) fun (v12 : Int) =>
    some (.inl (s', v11, k, v12, ())))) (
   some (.inr (.inl (s', n, k, ()))))
noncomputable def terrierlaw08_number_l0 (s : (List UInt8) × Int × Int × Int × Unit) : Option (((List UInt8) × Int × Int × Unit) ⊕ (Int × Bool × Unit)) := loopM (fun s : (List UInt8) × Int × Int × Int × Unit => terrierlaw08_number_b0 s.1 s.2.1 s.2.2.1 s.2.2.2.1) s
noncomputable def terrierlaw08_number (s' : List UInt8) : Option (Int × Bool × Unit) :=
  chk (decide ((↑s'.length : Int) > (1 : Int)) = true → decide ((↑s'.length : Int) > (1 : Int)) = true) <|
  chk (decide ((↑s'.length : Int) > (1 : Int)) = true → (0 : Int) ≤ (0 : Int) ∧ (0 : Int) < (↑s'.length : Int)) <|
  ltO ((↑(s'.getD (0 : Nat) (0 : UInt8)).toNat : Int)) fun (v0 : Int) =>
  chk (decide ((↑s'.length : Int) > (1 : Int)) = true → decide ((↑s'.length : Int) > (1 : Int)) = true) <|
  ltO (v0 == (45 : Int)) fun (v1 : Bool) =>
  chk (decide ((↑s'.length : Int) > (1 : Int)) = true → decide ((↑s'.length : Int) > (1 : Int)) = true) <|
  ltO (decide ((↑s'.length : Int) > (1 : Int)) && v1) fun (v2 : Bool) =>
  cnd (v2) (
   bnd (terrierlaw08_number_l0 (s', (0 : Int), (1 : Int), (1 : Int), ())) fun y13 =>
   sumO y13 (fun t14 =>
    ltO (t14.snd.snd.fst == (1 : Int)) fun (v16 : Bool) =>
    cnd (v16) (
     ltO (IntKind.i64.wrap ((0 : Int) - t14.snd.fst)) fun (v17 : Int) =>
     ltO (!t14.fst == []) fun (v18 : Bool) =>
     chk (v18 = true → v18 = true) <|
     bndG (v18) (terrierlaw08_digits (v17)) ([], ()) fun y19 =>
     chk (v18 = true → v18 = true) <|
     chk (v18 = true → v18 = true) <|
     ltO (y19.fst == t14.fst) fun (v20 : Bool) =>
     chk (v18 = true → v18 = true) <|
     ltO (v18 && v20) fun (v21 : Bool) =>
     some (v17, v21, ())) (
     ltO (!t14.fst == []) fun (v22 : Bool) =>
     chk (v22 = true → v22 = true) <|
     bndG (v22) (terrierlaw08_digits (t14.snd.fst)) ([], ()) fun y23 =>
     chk (v22 = true → v22 = true) <|
     chk (v22 = true → v22 = true) <|
     ltO (y23.fst == t14.fst) fun (v24 : Bool) =>
     chk (v22 = true → v22 = true) <|
     ltO (v22 && v24) fun (v25 : Bool) =>
     some (t14.snd.fst, v25, ()))) (fun r15 =>
    some (r15))) (
   bnd (terrierlaw08_number_l0 (s', (0 : Int), (0 : Int), (0 : Int), ())) fun y26 =>
   sumO y26 (fun t27 =>
    ltO (t27.snd.snd.fst == (1 : Int)) fun (v29 : Bool) =>
    cnd (v29) (
     ltO (IntKind.i64.wrap ((0 : Int) - t27.snd.fst)) fun (v30 : Int) =>
     ltO (!t27.fst == []) fun (v31 : Bool) =>
     chk (v31 = true → v31 = true) <|
     bndG (v31) (terrierlaw08_digits (v30)) ([], ()) fun y32 =>
     chk (v31 = true → v31 = true) <|
     chk (v31 = true → v31 = true) <|
     ltO (y32.fst == t27.fst) fun (v33 : Bool) =>
     chk (v31 = true → v31 = true) <|
     ltO (v31 && v33) fun (v34 : Bool) =>
     some (v30, v34, ())) (
     ltO (!t27.fst == []) fun (v35 : Bool) =>
     chk (v35 = true → v35 = true) <|
     bndG (v35) (terrierlaw08_digits (t27.snd.fst)) ([], ()) fun y36 =>
     chk (v35 = true → v35 = true) <|
     chk (v35 = true → v35 = true) <|
     ltO (y36.fst == t27.fst) fun (v37 : Bool) =>
     chk (v35 = true → v35 = true) <|
     ltO (v35 && v37) fun (v38 : Bool) =>
     some (t27.snd.fst, v38, ()))) (fun r28 =>
    some (r28)))
noncomputable def terrierlaw08_lease (s' : List UInt8) : Option (TSight × Int × Unit) :=
  cnd (decide ((↑s'.length : Int) > (200 : Int))) (
   some (zSight, (1 : Int), ())) (
   bnd (terrierlaw08_split (s')) fun y0 =>
   ltO ((↑y0.fst.length : Int) != (4 : Int)) fun (v1 : Bool) =>
   chk ((!v1) = true → (!v1) = true) <|
   chk ((!v1) = true → (0 : Int) ≤ (0 : Int) ∧ (0 : Int) < (↑y0.fst.length : Int)) <|
   chk ((!v1) = true → (!v1) = true) <|
   chk ((!v1) = true → (0 : Nat) < y0.fst.length) <|
   chk ((!v1) = true → (!v1) = true) <|
   ltO (!y0.fst.getD (0 : Nat) [] == [(108 : UInt8), (101 : UInt8), (97 : UInt8), (115 : UInt8), (101 : UInt8)]) fun (v2 : Bool) =>
   chk (v1 = false → (!v1) = true) <|
   ltO (v1 || v2) fun (v3 : Bool) =>
   cnd (v3) (
    some (zSight, (1 : Int), ())) (
    chk ((0 : Int) ≤ (3 : Int) ∧ (3 : Int) < (↑y0.fst.length : Int)) <|
    chk ((3 : Nat) < y0.fst.length) <|
    bnd (terrierlaw08_number (y0.fst.getD (3 : Nat) [])) fun y4 =>
    cnd (!y4.snd.fst) (
     some (zSight, (1 : Int), ())) (
     chk ((!decide (y4.fst < (0 : Int))) = true → (!decide (y4.fst < (0 : Int))) = true) <|
     chk (decide (y4.fst < (0 : Int)) = false → (!decide (y4.fst < (0 : Int))) = true) <|
     ltO (decide (y4.fst < (0 : Int)) || decide (y4.fst > (1099511627776 : Int))) fun (v5 : Bool) =>
     cnd (v5) (
      some (zSight, (3 : Int), ())) (
      chk ((0 : Int) ≤ (1 : Int) ∧ (1 : Int) < (↑y0.fst.length : Int)) <|
      chk ((1 : Nat) < y0.fst.length) <|
      chk ((0 : Int) ≤ (2 : Int) ∧ (2 : Int) < (↑y0.fst.length : Int)) <|
      chk ((2 : Nat) < y0.fst.length) <|
      bnd (terrierlaw08_station (y0.fst.getD (1 : Nat) []) (y0.fst.getD (2 : Nat) [])) fun y6 =>
      ltO (y6.snd.fst == (0 : Int)) fun (v7 : Bool) =>
      cnd (v7) (
       some ((y6.fst.fst, y6.fst.snd.fst, y4.fst), y6.snd.fst, ())) (
       some (y6.fst, y6.snd.fst, ()))))))
noncomputable def lines_Table_b0 (t11 : List (List UInt8)) (t12 : Int) (t13 : Int) (out : List TSight) : Option (((List (List UInt8)) × Int × Int × (List TSight) × Unit) ⊕ (((List TSight) × Unit) ⊕ (TErr × (List TSight) × Unit))) :=
  cnd (decide (t13 < t12)) (
   chk ((0 : Int) ≤ t13 ∧ t13 < (↑t11.length : Int)) <|
   ltO (t11.getD t13.toNat []) fun (v0 : List UInt8) =>
   bnd (lines_Lease (v0)) fun y1 =>
   bnd (errors_Is (y1.snd.fst) (eNum (8 : Int))) fun y2 =>
   cnd (y2.fst) (
    ltO (IntKind.i64.wrap (t13 + (1 : Int))) fun (v3 : Int) =>
    some (.inl (t11, t12, v3, out, ()))) (
    ltO (!errN y1.snd.fst) fun (v4 : Bool) =>
    cnd (v4) (
     some (.inr (.inr (eAt t13 y1.snd.fst, [], ())))) (
     chk (room (24 : Nat) (out.length + [(y1.fst)].length)) <|
     ltO (IntKind.i64.wrap (t13 + (1 : Int))) fun (v5 : Int) =>
     some (.inl (t11, t12, v5, out ++ [(y1.fst)], ()))))) (
   some (.inr (.inl (out, ()))))
noncomputable def lines_Table_l0 (s : (List (List UInt8)) × Int × Int × (List TSight) × Unit) : Option (((List TSight) × Unit) ⊕ (TErr × (List TSight) × Unit)) := loopM (fun s : (List (List UInt8)) × Int × Int × (List TSight) × Unit => lines_Table_b0 s.1 s.2.1 s.2.2.1 s.2.2.2.1) s
noncomputable def lines_Table (ls : List (List UInt8)) : Option (TErr × (List TSight) × Unit) :=
  bnd (lines_Table_l0 (ls, (↑ls.length : Int), (0 : Int), [], ())) fun y6 =>
  sumO y6 (fun t7 =>
   some (TErr.nil, t7.fst, ())) (fun r8 =>
   some (r8))
noncomputable def lines_Table_v1_b0 (t11 : List (List UInt8)) (t12 : Int) (t13 : Int) (out : List TSight) : Option (((List (List UInt8)) × Int × Int × (List TSight) × Unit) ⊕ (((List TSight) × Unit) ⊕ (TErr × (List TSight) × Unit))) :=
  cnd (decide (t13 < t12)) (
   chk ((0 : Int) ≤ t13 ∧ t13 < (↑t11.length : Int)) <|
   ltO (t11.getD t13.toNat []) fun (v0 : List UInt8) =>
   bnd (lines_Neighbour (v0)) fun y1 =>
   bnd (errors_Is (y1.snd.fst) (eNum (8 : Int))) fun y2 =>
   cnd (y2.fst) (
    ltO (IntKind.i64.wrap (t13 + (1 : Int))) fun (v3 : Int) =>
    some (.inl (t11, t12, v3, out, ()))) (
    ltO (!errN y1.snd.fst) fun (v4 : Bool) =>
    cnd (v4) (
     some (.inr (.inr (eAt t13 y1.snd.fst, [], ())))) (
     chk (room (24 : Nat) (out.length + [(y1.fst)].length)) <|
     ltO (IntKind.i64.wrap (t13 + (1 : Int))) fun (v5 : Int) =>
     some (.inl (t11, t12, v5, out ++ [(y1.fst)], ()))))) (
   some (.inr (.inl (out, ()))))
noncomputable def lines_Table_v1_l0 (s : (List (List UInt8)) × Int × Int × (List TSight) × Unit) : Option (((List TSight) × Unit) ⊕ (TErr × (List TSight) × Unit)) := loopM (fun s : (List (List UInt8)) × Int × Int × (List TSight) × Unit => lines_Table_v1_b0 s.1 s.2.1 s.2.2.1 s.2.2.2.1) s
noncomputable def lines_Table_v1 (ls : List (List UInt8)) : Option (TErr × (List TSight) × Unit) :=
  bnd (lines_Table_v1_l0 (ls, (↑ls.length : Int), (0 : Int), [], ())) fun y6 =>
  sumO y6 (fun t7 =>
   some (TErr.nil, t7.fst, ())) (fun r8 =>
   some (r8))
noncomputable def terrierlaw08_LinesTable_b0 (leases : Bool) (at' : Int) (err : Int) (t27 : List (Int × TMac × Int × Int × Int × List UInt8)) (t28 : Int) (t29 : Int) (ls : List (List UInt8)) (want : List TSight) : Option ((Bool × Int × Int × (List (Int × TMac × Int × Int × Int × List UInt8)) × Int × Int × (List (List UInt8)) × (List TSight) × Unit) ⊕ ((Bool × Int × Int × (List (List UInt8)) × (List TSight) × Unit) ⊕ (Bool × Unit))) :=
  cnd (decide (t29 < t28)) (
   chk ((0 : Int) ≤ t29 ∧ t29 < (↑t27.length : Int)) <|
   ltO ((Option.rec ((0 : Int), zMac, (0 : Int), (0 : Int), (0 : Int), []) (fun val => val) t27[t29.toNat]?)) fun (v1 : Int × TMac × Int × Int × Int × List UInt8) =>
   bnd (terrierlaw08_Words_four (v1) (leases)) fun y2 =>
   chk ((0 : Int) ≤ (0 : Int) ∧ (0 : Int) < (4 : Int)) <|
   chk ((↑(y2.fst.fst.length + (1 : Nat)) : Int) ≤ (9223372036854775807 : Int)) <|
   ltO (y2.fst.fst ++ [(32 : UInt8)]) fun (v3 : List UInt8) =>
   chk ((0 : Int) ≤ (1 : Int) ∧ (1 : Int) < (4 : Int)) <|
   chk ((↑(v3.length + y2.fst.snd.fst.length) : Int) ≤ (9223372036854775807 : Int)) <|
   ltO (v3 ++ y2.fst.snd.fst) fun (v4 : List UInt8) =>
   chk ((↑(v4.length + (1 : Nat)) : Int) ≤ (9223372036854775807 : Int)) <|
   ltO (v4 ++ [(32 : UInt8)]) fun (v5 : List UInt8) =>
   chk ((0 : Int) ≤ (2 : Int) ∧ (2 : Int) < (4 : Int)) <|
   chk ((↑(v5.length + y2.fst.snd.snd.fst.length) : Int) ≤ (9223372036854775807 : Int)) <|
   ltO (v5 ++ y2.fst.snd.snd.fst) fun (v6 : List UInt8) =>
   chk ((↑(v6.length + (1 : Nat)) : Int) ≤ (9223372036854775807 : Int)) <|
   ltO (v6 ++ [(32 : UInt8)]) fun (v7 : List UInt8) =>
   chk ((0 : Int) ≤ (3 : Int) ∧ (3 : Int) < (4 : Int)) <|
   chk ((↑(v7.length + y2.fst.snd.snd.snd.length) : Int) ≤ (9223372036854775807 : Int)) <|
   ltO (v7 ++ y2.fst.snd.snd.snd) fun (v8 : List UInt8) =>
   chk (room (16 : Nat) (ls.length + [v8].length)) <|
   bnd (terrierlaw08_neighbour (v8)) fun y9 =>
   cnd (leases) (
    bnd (terrierlaw08_lease (v8)) fun y10 =>
    chk ((!decide (at' ≥ (0 : Int))) = true → (!decide (at' ≥ (0 : Int))) = true) <|
    ltO (y10.snd.fst == (8 : Int)) fun (v11 : Bool) =>
    chk (decide (at' ≥ (0 : Int)) = false → (!decide (at' ≥ (0 : Int))) = true) <|
    ltO (decide (at' ≥ (0 : Int)) || v11) fun (v12 : Bool) =>
    cnd (v12) (
     ltO (IntKind.i64.wrap (t29 + (1 : Int))) fun (v13 : Int) =>
     some (.inl (leases, at', err, t27, t28, v13, ls ++ [v8], want, ()))) (
     ltO (y10.snd.fst != (0 : Int)) fun (v14 : Bool) =>
     cnd (v14) (
      ltO (IntKind.i64.wrap (t29 + (1 : Int))) fun (v15 : Int) =>
      some (.inl (leases, t29, y10.snd.fst, t27, t28, v15, ls ++ [v8], want, ()))) (
      chk (room (24 : Nat) (want.length + [(y10.fst)].length)) <|
      ltO (IntKind.i64.wrap (t29 + (1 : Int))) fun (v16 : Int) =>
      some (.inl (leases, at', err, t27, t28, v16, ls ++ [v8], want ++ [(y10.fst)], ()))))) (
    chk ((!decide (at' ≥ (0 : Int))) = true → (!decide (at' ≥ (0 : Int))) = true) <|
    ltO (y9.snd.fst == (8 : Int)) fun (v17 : Bool) =>
    chk (decide (at' ≥ (0 : Int)) = false → (!decide (at' ≥ (0 : Int))) = true) <|
    ltO (decide (at' ≥ (0 : Int)) || v17) fun (v18 : Bool) =>
    cnd (v18) (
     ltO (IntKind.i64.wrap (t29 + (1 : Int))) fun (v19 : Int) =>
     some (.inl (leases, at', err, t27, t28, v19, ls ++ [v8], want, ()))) (
     ltO (y9.snd.fst != (0 : Int)) fun (v20 : Bool) =>
     cnd (v20) (
      ltO (IntKind.i64.wrap (t29 + (1 : Int))) fun (v21 : Int) =>
      some (.inl (leases, t29, y9.snd.fst, t27, t28, v21, ls ++ [v8], want, ()))) (
      chk (room (24 : Nat) (want.length + [(y9.fst)].length)) <|
      ltO (IntKind.i64.wrap (t29 + (1 : Int))) fun (v22 : Int) =>
      some (.inl (leases, at', err, t27, t28, v22, ls ++ [v8], want ++ [(y9.fst)], ())))))) (
   some (.inr (.inl (leases, at', err, ls, want, ()))))
noncomputable def terrierlaw08_LinesTable_l0 (s : Bool × Int × Int × (List (Int × TMac × Int × Int × Int × List UInt8)) × Int × Int × (List (List UInt8)) × (List TSight) × Unit) : Option ((Bool × Int × Int × (List (List UInt8)) × (List TSight) × Unit) ⊕ (Bool × Unit)) := loopM (fun s : Bool × Int × Int × (List (Int × TMac × Int × Int × Int × List UInt8)) × Int × Int × (List (List UInt8)) × (List TSight) × Unit => terrierlaw08_LinesTable_b0 s.1 s.2.1 s.2.2.1 s.2.2.2.1 s.2.2.2.2.1 s.2.2.2.2.2.1 s.2.2.2.2.2.2.1 s.2.2.2.2.2.2.2.1) s
noncomputable def terrierlaw08_LinesTable_b1 (t128 : Int) (t129 : Int) (want : List TSight) (rs : List TSight) : Option ((Int × Int × (List TSight) × (List TSight) × Unit) ⊕ (Unit ⊕ (Bool × Unit))) :=
  cnd (decide (t129 < t128)) (
   chk ((0 : Int) ≤ t129 ∧ t129 < (↑rs.length : Int)) <|
   chk (t129.toNat < rs.length) <|
   chk ((0 : Int) ≤ t129 ∧ t129 < (↑want.length : Int)) <|
   chk (t129.toNat < want.length) <|
   ltO (!((rs.getD t129.toNat zSight) == (want.getD t129.toNat zSight))) fun (v40 : Bool) =>
   cnd (v40) (
    some (.inr (.inr (false, ())))) (
    ltO (IntKind.i64.wrap (t129 + (1 : Int))) fun (v41 : Int) =>
    some (.inl (t128, v41, want, rs, ())))) (
   some (.inr (.inl ())))
noncomputable def terrierlaw08_LinesTable_l1 (s : Int × Int × (List TSight) × (List TSight) × Unit) : Option (Unit ⊕ (Bool × Unit)) := loopM (fun s : Int × Int × (List TSight) × (List TSight) × Unit => terrierlaw08_LinesTable_b1 s.1 s.2.1 s.2.2.1 s.2.2.2.1) s
noncomputable def terrierlaw08_LinesTable (ws : List (Int × TMac × Int × Int × Int × List UInt8)) (leases : Bool) : Option (Bool × Unit) :=
  bnd (terrierlaw08_awake) fun y0 =>
  cnd (!y0.fst) (
   some (false, ())) (
   chk ((0 : Int) ≤ (0 : Int) ∧ ((0 : Int) ≤ if (40 : Int) < (↑ws.length : Int) then (40 : Int) else (↑ws.length : Int)) ∧ (if (40 : Int) < (↑ws.length : Int) then (40 : Int) else (↑ws.length : Int)) ≤ (↑ws.length : Int)) <|
   bnd (terrierlaw08_LinesTable_l0 (leases, (-1 : Int), (0 : Int), sliceA (0 : Nat) (if (40 : Int) < (↑ws.length : Int) then (40 : Int) else (↑ws.length : Int)).toNat ws, (↑(sliceA (0 : Nat) (if (40 : Int) < (↑ws.length : Int) then (40 : Int) else (↑ws.length : Int)).toNat ws).length : Int), (0 : Int), [], [], ())) fun y23 =>
   sumO y23 (fun t24 =>
    cnd (t24.fst) (
     bnd (lines_Table (t24.snd.snd.snd.fst)) fun y26 =>
     bnd (lines_Place (y26.fst)) fun y27 =>
     cnd (decide (t24.snd.fst ≥ (0 : Int))) (
      ltO ((↑y26.snd.fst.length : Int) == (0 : Int)) fun (v28 : Bool) =>
      chk (v28 = true → v28 = true) <|
      chk (v28 = true → v28 = true) <|
      bndG (v28) (terrierlaw08_told (y26.fst) (t24.snd.snd.fst)) (false, ()) fun y29 =>
      chk (v28 = true → v28 = true) <|
      ltO (v28 && y29.fst) fun (v30 : Bool) =>
      chk (v30 = true → v30 = true) <|
      ltO (v30 && y27.snd.fst) fun (v31 : Bool) =>
      chk (v31 = true → v31 = true) <|
      chk (v31 = true → v31 = true) <|
      ltO (y27.fst == t24.snd.fst) fun (v32 : Bool) =>
      chk (v31 = true → v31 = true) <|
      ltO (v31 && v32) fun (v33 : Bool) =>
      some (v33, ())) (
      ltO (!errN y26.fst) fun (v34 : Bool) =>
      chk (v34 = false → (!v34) = true) <|
      ltO (v34 || y27.snd.fst) fun (v35 : Bool) =>
      chk ((!v35) = true → (!v35) = true) <|
      ltO (y27.fst != (0 : Int)) fun (v36 : Bool) =>
      chk (v35 = false → (!v35) = true) <|
      ltO (v35 || v36) fun (v37 : Bool) =>
      chk ((!v37) = true → (!v37) = true) <|
      chk ((!v37) = true → (!v37) = true) <|
      chk ((!v37) = true → (!v37) = true) <|
      chk ((!v37) = true → (!v37) = true) <|
      ltO ((↑y26.snd.fst.length : Int) != (↑t24.snd.snd.snd.snd.fst.length : Int)) fun (v38 : Bool) =>
      chk (v37 = false → (!v37) = true) <|
      ltO (v37 || v38) fun (v39 : Bool) =>
      cnd (v39) (
       some (false, ())) (
       bnd (terrierlaw08_LinesTable_l1 ((↑y26.snd.fst.length : Int), (0 : Int), t24.snd.snd.snd.snd.fst, y26.snd.fst, ())) fun y42 =>
       sumO y42 (fun t43 =>
        some (true, ())) (fun r44 =>
        some (r44))))) (
     bnd (lines_Table_v1 (t24.snd.snd.snd.fst)) fun y45 =>
     bnd (lines_Place (y45.fst)) fun y46 =>
     cnd (decide (t24.snd.fst ≥ (0 : Int))) (
      ltO ((↑y45.snd.fst.length : Int) == (0 : Int)) fun (v47 : Bool) =>
      chk (v47 = true → v47 = true) <|
      chk (v47 = true → v47 = true) <|
      bndG (v47) (terrierlaw08_told (y45.fst) (t24.snd.snd.fst)) (false, ()) fun y48 =>
      chk (v47 = true → v47 = true) <|
      ltO (v47 && y48.fst) fun (v49 : Bool) =>
      chk (v49 = true → v49 = true) <|
      ltO (v49 && y46.snd.fst) fun (v50 : Bool) =>
      chk (v50 = true → v50 = true) <|
      chk (v50 = true → v50 = true) <|
      ltO (y46.fst == t24.snd.fst) fun (v51 : Bool) =>
      chk (v50 = true → v50 = true) <|
      ltO (v50 && v51) fun (v52 : Bool) =>
      some (v52, ())) (
      ltO (!errN y45.fst) fun (v53 : Bool) =>
      chk (v53 = false → (!v53) = true) <|
      ltO (v53 || y46.snd.fst) fun (v54 : Bool) =>
      chk ((!v54) = true → (!v54) = true) <|
      ltO (y46.fst != (0 : Int)) fun (v55 : Bool) =>
      chk (v54 = false → (!v54) = true) <|
      ltO (v54 || v55) fun (v56 : Bool) =>
      chk ((!v56) = true → (!v56) = true) <|
      chk ((!v56) = true → (!v56) = true) <|
      chk ((!v56) = true → (!v56) = true) <|
      chk ((!v56) = true → (!v56) = true) <|
      ltO ((↑y45.snd.fst.length : Int) != (↑t24.snd.snd.snd.snd.fst.length : Int)) fun (v57 : Bool) =>
      chk (v56 = false → (!v56) = true) <|
      ltO (v56 || v57) fun (v58 : Bool) =>
      cnd (v58) (
       some (false, ())) (
       bnd (terrierlaw08_LinesTable_l1 ((↑y45.snd.fst.length : Int), (0 : Int), t24.snd.snd.snd.snd.fst, y45.snd.fst, ())) fun y59 =>
       sumO y59 (fun t60 =>
        some (true, ())) (fun r61 =>
        some (r61)))))) (fun r25 =>
    some (r25)))
end Go.Tr
