/- The functions that these laws reach, as Lean functions: printed by a program of this session's. Conditions: none. -/
import Derived.Test.YtfaaeeabiikhbaaGreatDoorBD
import Derived.Test.YtfaaeeabiikhbaaGreatDoorBE
import Derived.Test.YtfaaeeabiikhbaaGreatDoorErrT
import Derived.Test.YtfaaeeabiikhbaaGreatDoorAddrD
import Derived.Test.YtfaaeeabiikhbaaGreatDoorCodec1D
import Derived.Test.YtfaaeeabiikhbaaGreatDoorMacD
import Derived.Test.YtfaaeeabiikhbaaGreatDoorScriptD
namespace Go.Tr
open Go
set_option linter.unusedVariables false
set_option maxRecDepth 100000
noncomputable def lines_wrap (of : List UInt8) (e : Int) : Option (TErr × Unit) :=
  some (eLin of (eNum e), ())
noncomputable def lines_station (a' : List UInt8) (m : List UInt8) : Option (TSight × TErr × Unit) :=
  bnd (addr_Parse (a')) fun y0 =>
  cnd (!y0.snd.fst) (
   bnd (strconv_Quote (a')) fun y1 =>
   chk ((↑((8 : Nat) + y1.fst.length) : Int) ≤ (9223372036854775807 : Int)) <|
   ltO ([(97 : UInt8), (100 : UInt8), (100 : UInt8), (114 : UInt8), (101 : UInt8), (115 : UInt8), (115 : UInt8), (32 : UInt8)] ++ y1.fst) fun (v2 : List UInt8) =>
   bnd (lines_wrap (v2) ((1 : Int))) fun y3 =>
   some (zSight, y3.fst, ())) (
   bnd (mac_Parse (m)) fun y4 =>
   cnd (!y4.snd.fst) (
    bnd (strconv_Quote (m)) fun y5 =>
    chk ((↑((8 : Nat) + y5.fst.length) : Int) ≤ (9223372036854775807 : Int)) <|
    ltO ([(115 : UInt8), (116 : UInt8), (97 : UInt8), (116 : UInt8), (105 : UInt8), (111 : UInt8), (110 : UInt8), (32 : UInt8)] ++ y5.fst) fun (v6 : List UInt8) =>
    bnd (lines_wrap (v6) ((1 : Int))) fun y7 =>
    some (zSight, y7.fst, ())) (
    bnd (mac_None (y4.fst)) fun y8 =>
    chk ((!y8.fst) = true → (!y8.fst) = true) <|
    bndG (!y8.fst) (mac_Group (y4.fst)) (false, ()) fun y9 =>
    chk (y8.fst = false → (!y8.fst) = true) <|
    ltO (y8.fst || y9.fst) fun (v10 : Bool) =>
    cnd (v10) (
     bnd (strconv_Quote (m)) fun y11 =>
     chk ((↑((8 : Nat) + y11.fst.length) : Int) ≤ (9223372036854775807 : Int)) <|
     ltO ([(115 : UInt8), (116 : UInt8), (97 : UInt8), (116 : UInt8), (105 : UInt8), (111 : UInt8), (110 : UInt8), (32 : UInt8)] ++ y11.fst) fun (v12 : List UInt8) =>
     bnd (lines_wrap (v12) ((3 : Int))) fun y13 =>
     some (zSight, y13.fst, ())) (
     some ((y0.fst, y4.fst, (0 : Int)), TErr.nil, ()))))
noncomputable def lines_Neighbour (s' : List UInt8) : Option (TSight × TErr × Unit) :=
  bnd (strings_Split (s') ([(32 : UInt8)])) fun y0 =>
  chk ((!decide ((↑s'.length : Int) > (200 : Int))) = true → (!decide ((↑s'.length : Int) > (200 : Int))) = true) <|
  chk ((!decide ((↑s'.length : Int) > (200 : Int))) = true → (!decide ((↑s'.length : Int) > (200 : Int))) = true) <|
  ltO ((↑y0.fst.length : Int) != (4 : Int)) fun (v1 : Bool) =>
  chk (decide ((↑s'.length : Int) > (200 : Int)) = false → (!decide ((↑s'.length : Int) > (200 : Int))) = true) <|
  ltO (decide ((↑s'.length : Int) > (200 : Int)) || v1) fun (v2 : Bool) =>
  chk ((!v2) = true → (!v2) = true) <|
  chk ((!v2) = true → (0 : Int) ≤ (1 : Int) ∧ (1 : Int) < (↑y0.fst.length : Int)) <|
  ltO (y0.fst.getD (1 : Nat) []) fun (v3 : List UInt8) =>
  chk ((!v2) = true → (!v2) = true) <|
  chk ((!v2) = true → (!v2) = true) <|
  ltO (!v3 == [(108 : UInt8), (108 : UInt8), (97 : UInt8), (100 : UInt8), (100 : UInt8), (114 : UInt8)]) fun (v4 : Bool) =>
  chk (v2 = false → (!v2) = true) <|
  ltO (v2 || v4) fun (v5 : Bool) =>
  cnd (v5) (
   bnd (lines_wrap ([(110 : UInt8), (101 : UInt8), (105 : UInt8), (103 : UInt8), (104 : UInt8), (98 : UInt8), (111 : UInt8), (117 : UInt8), (114 : UInt8)]) ((1 : Int))) fun y6 =>
   some (zSight, y6.fst, ())) (
   chk ((0 : Int) ≤ (3 : Int) ∧ (3 : Int) < (↑y0.fst.length : Int)) <|
   ltO (y0.fst.getD (3 : Nat) []) fun (v7 : List UInt8) =>
   ltO (v7 == [(70 : UInt8), (65 : UInt8), (73 : UInt8), (76 : UInt8), (69 : UInt8), (68 : UInt8)]) fun (v8 : Bool) =>
   cnd (v8) (
    bnd (lines_wrap ([(110 : UInt8), (101 : UInt8), (105 : UInt8), (103 : UInt8), (104 : UInt8), (98 : UInt8), (111 : UInt8), (117 : UInt8), (114 : UInt8)]) ((8 : Int))) fun y9 =>
    some (zSight, y9.fst, ())) (
    ltO (v7 == [(73 : UInt8), (78 : UInt8), (67 : UInt8), (79 : UInt8), (77 : UInt8), (80 : UInt8), (76 : UInt8), (69 : UInt8), (84 : UInt8), (69 : UInt8)]) fun (v10 : Bool) =>
    cnd (v10) (
     bnd (lines_wrap ([(110 : UInt8), (101 : UInt8), (105 : UInt8), (103 : UInt8), (104 : UInt8), (98 : UInt8), (111 : UInt8), (117 : UInt8), (114 : UInt8)]) ((8 : Int))) fun y11 =>
     some (zSight, y11.fst, ())) (
     ltO (v7 == [(82 : UInt8), (69 : UInt8), (65 : UInt8), (67 : UInt8), (72 : UInt8), (65 : UInt8), (66 : UInt8), (76 : UInt8), (69 : UInt8)]) fun (v12 : Bool) =>
     cnd (v12) (
      chk ((0 : Int) ≤ (0 : Int) ∧ (0 : Int) < (↑y0.fst.length : Int)) <|
      ltO (y0.fst.getD (0 : Nat) []) fun (v13 : List UInt8) =>
      chk ((0 : Int) ≤ (2 : Int) ∧ (2 : Int) < (↑y0.fst.length : Int)) <|
      ltO (y0.fst.getD (2 : Nat) []) fun (v14 : List UInt8) =>
      bnd (lines_station (v13) (v14)) fun y15 =>
      some (y15.fst, y15.snd.fst, ())) (
      ltO (v7 == [(83 : UInt8), (84 : UInt8), (65 : UInt8), (76 : UInt8), (69 : UInt8)]) fun (v16 : Bool) =>
      cnd (v16) (
       chk ((0 : Int) ≤ (0 : Int) ∧ (0 : Int) < (↑y0.fst.length : Int)) <|
       ltO (y0.fst.getD (0 : Nat) []) fun (v17 : List UInt8) =>
       chk ((0 : Int) ≤ (2 : Int) ∧ (2 : Int) < (↑y0.fst.length : Int)) <|
       ltO (y0.fst.getD (2 : Nat) []) fun (v18 : List UInt8) =>
       bnd (lines_station (v17) (v18)) fun y19 =>
       some (y19.fst, y19.snd.fst, ())) (
       ltO (v7 == [(68 : UInt8), (69 : UInt8), (76 : UInt8), (65 : UInt8), (89 : UInt8)]) fun (v20 : Bool) =>
       cnd (v20) (
        chk ((0 : Int) ≤ (0 : Int) ∧ (0 : Int) < (↑y0.fst.length : Int)) <|
        ltO (y0.fst.getD (0 : Nat) []) fun (v21 : List UInt8) =>
        chk ((0 : Int) ≤ (2 : Int) ∧ (2 : Int) < (↑y0.fst.length : Int)) <|
        ltO (y0.fst.getD (2 : Nat) []) fun (v22 : List UInt8) =>
        bnd (lines_station (v21) (v22)) fun y23 =>
        some (y23.fst, y23.snd.fst, ())) (
        chk ((0 : Int) ≤ (3 : Int) ∧ (3 : Int) < (↑y0.fst.length : Int)) <|
        ltO (y0.fst.getD (3 : Nat) []) fun (v24 : List UInt8) =>
        bnd (strconv_Quote (v24)) fun y25 =>
        chk ((↑((10 : Nat) + y25.fst.length) : Int) ≤ (9223372036854775807 : Int)) <|
        ltO ([(110 : UInt8), (101 : UInt8), (105 : UInt8), (103 : UInt8), (104 : UInt8), (98 : UInt8), (111 : UInt8), (117 : UInt8), (114 : UInt8), (32 : UInt8)] ++ y25.fst) fun (v26 : List UInt8) =>
        bnd (lines_wrap (v26) ((1 : Int))) fun y27 =>
        some (zSight, y27.fst, ())))))))
noncomputable def lines_Lease (s' : List UInt8) : Option (TSight × TErr × Unit) :=
  bnd (strings_Split (s') ([(32 : UInt8)])) fun y0 =>
  chk ((!decide ((↑s'.length : Int) > (200 : Int))) = true → (!decide ((↑s'.length : Int) > (200 : Int))) = true) <|
  chk ((!decide ((↑s'.length : Int) > (200 : Int))) = true → (!decide ((↑s'.length : Int) > (200 : Int))) = true) <|
  ltO ((↑y0.fst.length : Int) != (4 : Int)) fun (v1 : Bool) =>
  chk (decide ((↑s'.length : Int) > (200 : Int)) = false → (!decide ((↑s'.length : Int) > (200 : Int))) = true) <|
  ltO (decide ((↑s'.length : Int) > (200 : Int)) || v1) fun (v2 : Bool) =>
  chk ((!v2) = true → (!v2) = true) <|
  chk ((!v2) = true → (0 : Int) ≤ (0 : Int) ∧ (0 : Int) < (↑y0.fst.length : Int)) <|
  ltO (y0.fst.getD (0 : Nat) []) fun (v3 : List UInt8) =>
  chk ((!v2) = true → (!v2) = true) <|
  chk ((!v2) = true → (!v2) = true) <|
  ltO (!v3 == [(108 : UInt8), (101 : UInt8), (97 : UInt8), (115 : UInt8), (101 : UInt8)]) fun (v4 : Bool) =>
  chk (v2 = false → (!v2) = true) <|
  ltO (v2 || v4) fun (v5 : Bool) =>
  cnd (v5) (
   bnd (lines_wrap ([(108 : UInt8), (101 : UInt8), (97 : UInt8), (115 : UInt8), (101 : UInt8)]) ((1 : Int))) fun y6 =>
   some (zSight, y6.fst, ())) (
   chk ((0 : Int) ≤ (3 : Int) ∧ (3 : Int) < (↑y0.fst.length : Int)) <|
   ltO (y0.fst.getD (3 : Nat) []) fun (v7 : List UInt8) =>
   bnd (strconv_Atoi (v7)) fun y8 =>
   ltO (!errN y8.snd.fst) fun (v9 : Bool) =>
   chk ((!v9) = true → (!v9) = true) <|
   bndG (!v9) (strconv_Itoa (y8.fst)) ([], ()) fun y10 =>
   chk ((!v9) = true → (!v9) = true) <|
   chk ((!v9) = true → (0 : Int) ≤ (3 : Int) ∧ (3 : Int) < (↑y0.fst.length : Int)) <|
   ltO (y0.fst.getD (3 : Nat) []) fun (v11 : List UInt8) =>
   chk ((!v9) = true → (!v9) = true) <|
   chk ((!v9) = true → (!v9) = true) <|
   chk ((!v9) = true → (!v9) = true) <|
   ltO (!y10.fst == v11) fun (v12 : Bool) =>
   chk (v9 = false → (!v9) = true) <|
   ltO (v9 || v12) fun (v13 : Bool) =>
   cnd (v13) (
    chk ((0 : Int) ≤ (3 : Int) ∧ (3 : Int) < (↑y0.fst.length : Int)) <|
    ltO (y0.fst.getD (3 : Nat) []) fun (v14 : List UInt8) =>
    bnd (strconv_Quote (v14)) fun y15 =>
    chk ((↑((5 : Nat) + y15.fst.length) : Int) ≤ (9223372036854775807 : Int)) <|
    ltO ([(116 : UInt8), (105 : UInt8), (99 : UInt8), (107 : UInt8), (32 : UInt8)] ++ y15.fst) fun (v16 : List UInt8) =>
    bnd (lines_wrap (v16) ((1 : Int))) fun y17 =>
    some (zSight, y17.fst, ())) (
    chk ((!decide (y8.fst < (0 : Int))) = true → (!decide (y8.fst < (0 : Int))) = true) <|
    chk (decide (y8.fst < (0 : Int)) = false → (!decide (y8.fst < (0 : Int))) = true) <|
    ltO (decide (y8.fst < (0 : Int)) || decide (y8.fst > (1099511627776 : Int))) fun (v18 : Bool) =>
    cnd (v18) (
     chk ((0 : Int) ≤ (3 : Int) ∧ (3 : Int) < (↑y0.fst.length : Int)) <|
     ltO (y0.fst.getD (3 : Nat) []) fun (v19 : List UInt8) =>
     chk ((↑((5 : Nat) + List.length v19) : Int) ≤ (9223372036854775807 : Int)) <|
     ltO ([(116 : UInt8), (105 : UInt8), (99 : UInt8), (107 : UInt8), (32 : UInt8)] ++ v19) fun (v20 : List UInt8) =>
     bnd (lines_wrap (v20) ((3 : Int))) fun y21 =>
     some (zSight, y21.fst, ())) (
     chk ((0 : Int) ≤ (1 : Int) ∧ (1 : Int) < (↑y0.fst.length : Int)) <|
     ltO (y0.fst.getD (1 : Nat) []) fun (v22 : List UInt8) =>
     chk ((0 : Int) ≤ (2 : Int) ∧ (2 : Int) < (↑y0.fst.length : Int)) <|
     ltO (y0.fst.getD (2 : Nat) []) fun (v23 : List UInt8) =>
     bnd (lines_station (v22) (v23)) fun y24 =>
     ltO (!errN y24.snd.fst) fun (v25 : Bool) =>
     cnd (v25) (
      some (zSight, y24.snd.fst, ())) (
      some ((y24.fst.fst, y24.fst.snd.fst, y8.fst), TErr.nil, ())))))
noncomputable def terrierlaw08_awake : Option (Bool × Unit) :=
  bnd (lines_Neighbour ([(49 : UInt8), (48 : UInt8), (46 : UInt8), (48 : UInt8), (46 : UInt8), (48 : UInt8), (46 : UInt8), (49 : UInt8), (32 : UInt8), (108 : UInt8), (108 : UInt8), (97 : UInt8), (100 : UInt8), (100 : UInt8), (114 : UInt8), (32 : UInt8), (48 : UInt8), (50 : UInt8), (58 : UInt8), (48 : UInt8), (48 : UInt8), (58 : UInt8), (48 : UInt8), (48 : UInt8), (58 : UInt8), (48 : UInt8), (48 : UInt8), (58 : UInt8), (48 : UInt8), (48 : UInt8), (58 : UInt8), (48 : UInt8), (49 : UInt8), (32 : UInt8), (83 : UInt8), (84 : UInt8), (65 : UInt8), (76 : UInt8), (69 : UInt8)])) fun y0 =>
  bnd (lines_Lease ([(108 : UInt8), (101 : UInt8), (97 : UInt8), (115 : UInt8), (101 : UInt8), (32 : UInt8), (49 : UInt8), (48 : UInt8), (46 : UInt8), (48 : UInt8), (46 : UInt8), (48 : UInt8), (46 : UInt8), (49 : UInt8), (32 : UInt8), (48 : UInt8), (50 : UInt8), (58 : UInt8), (48 : UInt8), (48 : UInt8), (58 : UInt8), (48 : UInt8), (48 : UInt8), (58 : UInt8), (48 : UInt8), (48 : UInt8), (58 : UInt8), (48 : UInt8), (48 : UInt8), (58 : UInt8), (48 : UInt8), (49 : UInt8), (32 : UInt8), (48 : UInt8), (48 : UInt8), (55 : UInt8)])) fun y1 =>
  ltO (errN y0.snd.fst) fun (v2 : Bool) =>
  chk (v2 = true → v2 = true) <|
  chk (v2 = true → v2 = true) <|
  ltO (y0.fst.fst == (167772161 : Int)) fun (v3 : Bool) =>
  chk (v2 = true → v2 = true) <|
  ltO (v2 && v3) fun (v4 : Bool) =>
  chk (v4 = true → v4 = true) <|
  chk (v4 = true → (0 : Int) ≤ (5 : Int) ∧ (5 : Int) < (6 : Int)) <|
  chk (v4 = true → v4 = true) <|
  chk (v4 = true → v4 = true) <|
  ltO (y0.fst.snd.fst.snd.snd.snd.snd.snd == (1 : Int)) fun (v5 : Bool) =>
  chk (v4 = true → v4 = true) <|
  ltO (v4 && v5) fun (v6 : Bool) =>
  chk (v6 = true → v6 = true) <|
  chk (v6 = true → v6 = true) <|
  bndG (v6) (errors_Is (y1.snd.fst) (eNum (1 : Int))) (false, ()) fun y7 =>
  chk (v6 = true → v6 = true) <|
  ltO (v6 && y7.fst) fun (v8 : Bool) =>
  chk (v8 = true → v8 = true) <|
  bndG (v8) (lines_Number (y1.snd.fst)) ((0 : Int), ()) fun y9 =>
  chk (v8 = true → v8 = true) <|
  ltO (y9.fst == (1 : Int)) fun (v10 : Bool) =>
  chk (v8 = true → v8 = true) <|
  ltO (v8 && v10) fun (v11 : Bool) =>
  some (v11, ())
noncomputable def terrierlaw08_digits_s (self : Int → Option ((List UInt8) × Unit)) (n : Int) : Option ((List UInt8) × Unit) :=
  cnd (decide (n < (0 : Int))) (
   cnd (decide (n < (-4611686018427387904 : Int))) (
    chk (¬(10 : Int) = (0 : Int)) <|
    ltO (IntKind.i64.wrap (n.tdiv (10 : Int))) fun (v0 : Int) =>
    ltO (IntKind.i64.wrap ((0 : Int) - v0)) fun (v1 : Int) =>
    bnd (self (v1)) fun y2 =>
    chk ((↑((1 : Nat) + y2.fst.length) : Int) ≤ (9223372036854775807 : Int)) <|
    ltO ([(45 : UInt8)] ++ y2.fst) fun (v3 : List UInt8) =>
    chk (¬(10 : Int) = (0 : Int)) <|
    ltO (n.tmod (10 : Int)) fun (v4 : Int) =>
    ltO (IntKind.i64.wrap ((0 : Int) - v4)) fun (v5 : Int) =>
    bnd (self (v5)) fun y6 =>
    chk ((↑(v3.length + y6.fst.length) : Int) ≤ (9223372036854775807 : Int)) <|
    ltO (v3 ++ y6.fst) fun (v7 : List UInt8) =>
    some (v7, ())) (
    ltO (IntKind.i64.wrap ((0 : Int) - n)) fun (v8 : Int) =>
    bnd (self (v8)) fun y9 =>
    chk ((↑((1 : Nat) + y9.fst.length) : Int) ≤ (9223372036854775807 : Int)) <|
    ltO ([(45 : UInt8)] ++ y9.fst) fun (v10 : List UInt8) =>
    some (v10, ()))) (
   cnd (decide (n < (10 : Int))) (
    ltO (IntKind.i64.wrap (n + (1 : Int))) fun (v11 : Int) =>
    chk ((0 : Int) ≤ n ∧ n ≤ v11 ∧ v11 ≤ (10 : Int)) <|
    some (sliceA n.toNat v11.toNat [(48 : UInt8), (49 : UInt8), (50 : UInt8), (51 : UInt8), (52 : UInt8), (53 : UInt8), (54 : UInt8), (55 : UInt8), (56 : UInt8), (57 : UInt8)], ())) (
    chk (¬(10 : Int) = (0 : Int)) <|
    ltO (IntKind.i64.wrap (n.tdiv (10 : Int))) fun (v12 : Int) =>
    bnd (self (v12)) fun y13 =>
    chk (¬(10 : Int) = (0 : Int)) <|
    ltO (n.tmod (10 : Int)) fun (v14 : Int) =>
    bnd (self (v14)) fun y15 =>
    chk ((↑(y13.fst.length + y15.fst.length) : Int) ≤ (9223372036854775807 : Int)) <|
    ltO (y13.fst ++ y15.fst) fun (v16 : List UInt8) =>
    some (v16, ())))
noncomputable def terrierlaw08_digits_k : Nat → Int → Option ((List UInt8) × Unit)
  | 0 => fun _ => none
  | k + 1 => fun x0 => terrierlaw08_digits_s (terrierlaw08_digits_k k) x0
noncomputable def terrierlaw08_digits : Int → Option ((List UInt8) × Unit) := terrierlaw08_digits_k 24
noncomputable def terrierlaw08_told (e : TErr) (want : Int) : Option (Bool × Unit) :=
  ltO (want == (0 : Int)) fun (v0 : Bool) =>
  cnd (v0) (
   ltO (errN e) fun (v1 : Bool) =>
   chk (v1 = true → v1 = true) <|
   bndG (v1) (lines_Number (e)) ((0 : Int), ()) fun y2 =>
   chk (v1 = true → v1 = true) <|
   ltO (y2.fst == (0 : Int)) fun (v3 : Bool) =>
   chk (v1 = true → v1 = true) <|
   ltO (v1 && v3) fun (v4 : Bool) =>
   some (v4, ())) (
   bnd (errors_Is (e) (eNum want)) fun y5 =>
   chk (y5.fst = true → y5.fst = true) <|
   bndG (y5.fst) (lines_Number (e)) ((0 : Int), ()) fun y6 =>
   chk (y5.fst = true → y5.fst = true) <|
   chk (y5.fst = true → y5.fst = true) <|
   ltO (y6.fst == want) fun (v7 : Bool) =>
   chk (y5.fst = true → y5.fst = true) <|
   ltO (y5.fst && v7) fun (v8 : Bool) =>
   some (v8, ()))
noncomputable def terrierlaw08_LinesStation (a' : Int) (m : Int × Int × Int × Int × Int × Int) (n : Int) : Option (Bool × Unit) :=
  bnd (terrierlaw08_awake) fun y0 =>
  cnd (!y0.fst) (
   some (false, ())) (
   bnd (addr_Text (a')) fun y1 =>
   chk ((↑(y1.fst.length + (1 : Nat)) : Int) ≤ (9223372036854775807 : Int)) <|
   ltO (y1.fst ++ [(32 : UInt8)]) fun (v2 : List UInt8) =>
   chk ((↑(v2.length + (7 : Nat)) : Int) ≤ (9223372036854775807 : Int)) <|
   ltO (v2 ++ [(108 : UInt8), (108 : UInt8), (97 : UInt8), (100 : UInt8), (100 : UInt8), (114 : UInt8), (32 : UInt8)]) fun (v3 : List UInt8) =>
   bnd (mac_Text (m)) fun y4 =>
   chk ((↑(v3.length + y4.fst.length) : Int) ≤ (9223372036854775807 : Int)) <|
   ltO (v3 ++ y4.fst) fun (v5 : List UInt8) =>
   chk ((↑(v5.length + (6 : Nat)) : Int) ≤ (9223372036854775807 : Int)) <|
   ltO (v5 ++ [(32 : UInt8), (68 : UInt8), (69 : UInt8), (76 : UInt8), (65 : UInt8), (89 : UInt8)]) fun (v6 : List UInt8) =>
   bnd (lines_Neighbour (v6)) fun y7 =>
   chk ((↑((6 : Nat) + v2.length) : Int) ≤ (9223372036854775807 : Int)) <|
   ltO ([(108 : UInt8), (101 : UInt8), (97 : UInt8), (115 : UInt8), (101 : UInt8), (32 : UInt8)] ++ v2) fun (v8 : List UInt8) =>
   bnd (mac_Text (m)) fun y9 =>
   chk ((↑(v8.length + y9.fst.length) : Int) ≤ (9223372036854775807 : Int)) <|
   ltO (v8 ++ y9.fst) fun (v10 : List UInt8) =>
   chk ((↑(v10.length + (1 : Nat)) : Int) ≤ (9223372036854775807 : Int)) <|
   ltO (v10 ++ [(32 : UInt8)]) fun (v11 : List UInt8) =>
   ltO (IntKind.i64.wrap n) fun (v12 : Int) =>
   bnd (terrierlaw08_digits (v12)) fun y13 =>
   chk ((↑(v11.length + y13.fst.length) : Int) ≤ (9223372036854775807 : Int)) <|
   ltO (v11 ++ y13.fst) fun (v14 : List UInt8) =>
   bnd (lines_Lease (v14)) fun y15 =>
   bnd (mac_None (m)) fun y16 =>
   chk ((!y16.fst) = true → (!y16.fst) = true) <|
   bndG (!y16.fst) (mac_Group (m)) (false, ()) fun y17 =>
   chk ((!y16.fst) = true → (!y16.fst) = true) <|
   chk ((!y16.fst) = true → (!y16.fst) = true) <|
   ltO (!y16.fst && !y17.fst) fun (v18 : Bool) =>
   cnd (!v18) (
    bnd (terrierlaw08_told (y7.snd.fst) ((3 : Int))) fun y19 =>
    chk (y19.fst = true → y19.fst = true) <|
    bndG (y19.fst) (terrierlaw08_told (y15.snd.fst) ((3 : Int))) (false, ()) fun y20 =>
    chk (y19.fst = true → y19.fst = true) <|
    ltO (y19.fst && y20.fst) fun (v21 : Bool) =>
    chk (v21 = true → v21 = true) <|
    chk (v21 = true → v21 = true) <|
    ltO (y7.fst == y15.fst) fun (v22 : Bool) =>
    chk (v21 = true → v21 = true) <|
    ltO (v21 && v22) fun (v23 : Bool) =>
    some (v23, ())) (
    ltO (errN y7.snd.fst) fun (v24 : Bool) =>
    chk (v24 = true → v24 = true) <|
    ltO (errN y15.snd.fst) fun (v25 : Bool) =>
    chk (v24 = true → v24 = true) <|
    ltO (v24 && v25) fun (v26 : Bool) =>
    chk (v26 = true → v26 = true) <|
    chk (v26 = true → v26 = true) <|
    chk (v26 = true → v26 = true) <|
    chk (v26 = true → v26 = true) <|
    ltO (y7.fst.fst == a' && (y7.fst.snd.fst.fst == m.fst && (y7.fst.snd.fst.snd.fst == m.snd.fst && (y7.fst.snd.fst.snd.snd == m.snd.snd)) && y7.fst.snd.snd == (0 : Int))) fun (v27 : Bool) =>
    chk (v26 = true → v26 = true) <|
    ltO (v26 && v27) fun (v28 : Bool) =>
    chk (v28 = true → v28 = true) <|
    ltO (IntKind.i64.wrap n) fun (v29 : Int) =>
    chk (v28 = true → v28 = true) <|
    chk (v28 = true → v28 = true) <|
    chk (v28 = true → v28 = true) <|
    chk (v28 = true → v28 = true) <|
    chk (v28 = true → v28 = true) <|
    ltO (y15.fst.fst == a' && (y15.fst.snd.fst.fst == m.fst && (y15.fst.snd.fst.snd.fst == m.snd.fst && (y15.fst.snd.fst.snd.snd == m.snd.snd)) && y15.fst.snd.snd == v29)) fun (v30 : Bool) =>
    chk (v28 = true → v28 = true) <|
    ltO (v28 && v30) fun (v31 : Bool) =>
    some (v31, ())))
end Go.Tr
