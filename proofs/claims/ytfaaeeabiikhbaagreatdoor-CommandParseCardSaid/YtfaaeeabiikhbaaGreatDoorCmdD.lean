/- The functions that these laws reach, as Lean functions: printed by a program of this session's. Conditions: none. -/
import Derived.Test.YtfaaeeabiikhbaaGreatDoorBD
import Derived.Test.YtfaaeeabiikhbaaGreatDoorBE
import Derived.Test.YtfaaeeabiikhbaaGreatDoorErrT
import Derived.Test.YtfaaeeabiikhbaaGreatDoorAddrD
import Derived.Test.YtfaaeeabiikhbaaGreatDoorCodec1D
import Derived.Test.YtfaaeeabiikhbaaGreatDoorMacD
import Derived.Test.YtfaaeeabiikhbaaGreatDoorScriptD
namespace Go.Tr
open Go
set_option linter.unusedVariables false
set_option maxRecDepth 100000
noncomputable def command_what_b0 (s' : List UInt8) (t5 : Int) : Option (((List UInt8) × Int × Unit) ⊕ (Unit ⊕ (Int × Bool × Unit))) :=
  cnd (decide (t5 < (8 : Int))) (
   ltO (!s' == []) fun (v0 : Bool) =>
   chk (v0 = true → v0 = true) <|
   bndG (v0) (command_word (t5)) ([], ()) fun y1 =>
   chk (v0 = true → v0 = true) <|
   chk (v0 = true → v0 = true) <|
   ltO (y1.fst == s') fun (v2 : Bool) =>
   chk (v0 = true → v0 = true) <|
   ltO (v0 && v2) fun (v3 : Bool) =>
   cnd (v3) (
    some (.inr (.inr (t5, true, ())))) (
    ltO (IntKind.i64.wrap (t5 + (1 : Int))) fun (v4 : Int) =>
    some (.inl (s', v4, ())))) (
   some (.inr (.inl ())))
noncomputable def command_what_l0 (s : (List UInt8) × Int × Unit) : Option (Unit ⊕ (Int × Bool × Unit)) := loopM (fun s : (List UInt8) × Int × Unit => command_what_b0 s.1 s.2.1) s
noncomputable def command_what (s' : List UInt8) : Option (Int × Bool × Unit) :=
  bnd (command_what_l0 (s', (0 : Int), ())) fun y5 =>
  sumO y5 (fun t6 =>
   some ((0 : Int), false, ())) (fun r7 =>
   some (r7))
noncomputable def command_fault (at' : Int) (s' : List UInt8) (e : Int) : Option (TErr × Unit) :=
  bnd (strconv_Quote (s')) fun y0 =>
  some (eAt at' (eCmd y0.fst (eNum e)), ())
noncomputable def command_hold (e : Int × THold × (Int × Int) × Int × TMac × Int) (f : List (List UInt8)) : Option (TEv × TErr × Unit) :=
  chk ((0 : Int) ≤ (2 : Int) ∧ (2 : Int) < (↑f.length : Int)) <|
  ltO (f.getD (2 : Nat) []) fun (v0 : List UInt8) =>
  bnd (held_May (v0)) fun y1 =>
  cnd (!y1.fst) (
   chk ((0 : Int) ≤ (2 : Int) ∧ (2 : Int) < (↑f.length : Int)) <|
   ltO (f.getD (2 : Nat) []) fun (v2 : List UInt8) =>
   bnd (command_fault ((2 : Int)) (v2) ((3 : Int))) fun y3 =>
   some (zEv, y3.fst, ())) (
   chk ((0 : Int) ≤ (2 : Int) ∧ (2 : Int) < (↑f.length : Int)) <|
   ltO (f.getD (2 : Nat) []) fun (v4 : List UInt8) =>
   ltO ((↑f.length : Int) == (4 : Int)) fun (v5 : Bool) =>
   cnd (v5) (
    chk ((0 : Int) ≤ (3 : Int) ∧ (3 : Int) < (↑f.length : Int)) <|
    ltO (f.getD (3 : Nat) []) fun (v6 : List UInt8) =>
    bnd (mac_Parse (v6)) fun y7 =>
    chk ((!!y7.snd.fst) = true → (!!y7.snd.fst) = true) <|
    bndG (!!y7.snd.fst) (mac_None (y7.fst)) (false, ()) fun y8 =>
    chk ((!y7.snd.fst) = false → (!!y7.snd.fst) = true) <|
    ltO (!y7.snd.fst || y8.fst) fun (v9 : Bool) =>
    chk ((!v9) = true → (!v9) = true) <|
    bndG (!v9) (mac_Group (y7.fst)) (false, ()) fun y10 =>
    chk (v9 = false → (!v9) = true) <|
    ltO (v9 || y10.fst) fun (v11 : Bool) =>
    cnd (v11) (
     chk ((0 : Int) ≤ (3 : Int) ∧ (3 : Int) < (↑f.length : Int)) <|
     ltO (f.getD (3 : Nat) []) fun (v12 : List UInt8) =>
     bnd (command_fault ((3 : Int)) (v12) ((1 : Int))) fun y13 =>
     some (zEv, y13.fst, ())) (
     some ((e.fst, (e.snd.fst.fst, v4, y7.fst), e.snd.snd), TErr.nil, ()))) (
    some ((e.fst, (e.snd.fst.fst, v4, e.snd.fst.snd.snd), e.snd.snd), TErr.nil, ())))
noncomputable def command_Parse (s' : List UInt8) : Option (TEv × TErr × Unit) :=
  cnd (decide ((↑s'.length : Int) > (200 : Int))) (
   bnd (strconv_Itoa ((↑s'.length : Int))) fun y0 =>
   chk ((↑(y0.fst.length + (6 : Nat)) : Int) ≤ (9223372036854775807 : Int)) <|
   ltO (y0.fst ++ [(32 : UInt8), (98 : UInt8), (121 : UInt8), (116 : UInt8), (101 : UInt8), (115 : UInt8)]) fun (v1 : List UInt8) =>
   some (zEv, eCmd v1 (eNum (3 : Int)), ())) (
   bnd (strings_Split (s') ([(32 : UInt8)])) fun y2 =>
   chk ((0 : Int) ≤ (0 : Int) ∧ (0 : Int) < (↑y2.fst.length : Int)) <|
   ltO (y2.fst.getD (0 : Nat) []) fun (v3 : List UInt8) =>
   bnd (command_what (v3)) fun y4 =>
   cnd (!y4.snd.fst) (
    chk ((0 : Int) ≤ (0 : Int) ∧ (0 : Int) < (↑y2.fst.length : Int)) <|
    ltO (y2.fst.getD (0 : Nat) []) fun (v5 : List UInt8) =>
    bnd (command_fault ((0 : Int)) (v5) ((1 : Int))) fun y6 =>
    some (zEv, y6.fst, ())) (
    ltO (y4.fst == (1 : Int)) fun (v7 : Bool) =>
    cnd (v7) (
     ltO ((3 : Int)) fun (v8 : Int) =>
     chk ((!decide ((↑y2.fst.length : Int) < if (if v8 > (2 : Int) then v8 else (2 : Int)) < (3 : Int) then if v8 > (2 : Int) then v8 else (2 : Int) else (3 : Int))) = true → (!decide ((↑y2.fst.length : Int) < if (if v8 > (2 : Int) then v8 else (2 : Int)) < (3 : Int) then if v8 > (2 : Int) then v8 else (2 : Int) else (3 : Int))) = true) <|
     chk ((!decide ((↑y2.fst.length : Int) < if (if v8 > (2 : Int) then v8 else (2 : Int)) < (3 : Int) then if v8 > (2 : Int) then v8 else (2 : Int) else (3 : Int))) = true → (!decide ((↑y2.fst.length : Int) < if (if v8 > (2 : Int) then v8 else (2 : Int)) < (3 : Int) then if v8 > (2 : Int) then v8 else (2 : Int) else (3 : Int))) = true) <|
     chk ((!decide ((↑y2.fst.length : Int) < if (if v8 > (2 : Int) then v8 else (2 : Int)) < (3 : Int) then if v8 > (2 : Int) then v8 else (2 : Int) else (3 : Int))) = true → (!decide ((↑y2.fst.length : Int) < if (if v8 > (2 : Int) then v8 else (2 : Int)) < (3 : Int) then if v8 > (2 : Int) then v8 else (2 : Int) else (3 : Int))) = true) <|
     chk (decide ((↑y2.fst.length : Int) < if (if v8 > (2 : Int) then v8 else (2 : Int)) < (3 : Int) then if v8 > (2 : Int) then v8 else (2 : Int) else (3 : Int)) = false → (!decide ((↑y2.fst.length : Int) < if (if v8 > (2 : Int) then v8 else (2 : Int)) < (3 : Int) then if v8 > (2 : Int) then v8 else (2 : Int) else (3 : Int))) = true) <|
     ltO (decide ((↑y2.fst.length : Int) < if (if v8 > (2 : Int) then v8 else (2 : Int)) < (3 : Int) then if v8 > (2 : Int) then v8 else (2 : Int) else (3 : Int)) || decide ((↑y2.fst.length : Int) > (4 : Int))) fun (v9 : Bool) =>
     cnd (v9) (
      bnd (command_fault (if (4 : Int) < (↑y2.fst.length : Int) then (4 : Int) else (↑y2.fst.length : Int)) ([]) ((1 : Int))) fun y10 =>
      some (zEv, y10.fst, ())) (
      ltO (y4.fst == (3 : Int)) fun (v11 : Bool) =>
      cnd (v11) (
       chk ((0 : Int) ≤ (1 : Int) ∧ (1 : Int) < (↑y2.fst.length : Int)) <|
       ltO (y2.fst.getD (1 : Nat) []) fun (v12 : List UInt8) =>
       bnd (addr_ParseBlock (v12)) fun y13 =>
       cnd (!y13.snd.fst) (
        chk ((0 : Int) ≤ (1 : Int) ∧ (1 : Int) < (↑y2.fst.length : Int)) <|
        ltO (y2.fst.getD (1 : Nat) []) fun (v14 : List UInt8) =>
        bnd (command_fault ((1 : Int)) (v14) ((1 : Int))) fun y15 =>
        some (zEv, y15.fst, ())) (
        some ((y4.fst, zHold, y13.fst, (0 : Int), zMac, (0 : Int)), TErr.nil, ()))) (
       ltO (y4.fst == (4 : Int)) fun (v16 : Bool) =>
       cnd (v16) (
        chk ((0 : Int) ≤ (1 : Int) ∧ (1 : Int) < (↑y2.fst.length : Int)) <|
        ltO (y2.fst.getD (1 : Nat) []) fun (v17 : List UInt8) =>
        bnd (addr_ParseBlock (v17)) fun y18 =>
        cnd (!y18.snd.fst) (
         chk ((0 : Int) ≤ (1 : Int) ∧ (1 : Int) < (↑y2.fst.length : Int)) <|
         ltO (y2.fst.getD (1 : Nat) []) fun (v19 : List UInt8) =>
         bnd (command_fault ((1 : Int)) (v19) ((1 : Int))) fun y20 =>
         some (zEv, y20.fst, ())) (
         some ((y4.fst, zHold, y18.fst, (0 : Int), zMac, (0 : Int)), TErr.nil, ()))) (
        chk ((0 : Int) ≤ (1 : Int) ∧ (1 : Int) < (↑y2.fst.length : Int)) <|
        ltO (y2.fst.getD (1 : Nat) []) fun (v21 : List UInt8) =>
        bnd (addr_Parse (v21)) fun y22 =>
        cnd (!y22.snd.fst) (
         chk ((0 : Int) ≤ (1 : Int) ∧ (1 : Int) < (↑y2.fst.length : Int)) <|
         ltO (y2.fst.getD (1 : Nat) []) fun (v23 : List UInt8) =>
         bnd (command_fault ((1 : Int)) (v23) ((1 : Int))) fun y24 =>
         some (zEv, y24.fst, ())) (
         ltO (y4.fst == (1 : Int)) fun (v25 : Bool) =>
         cnd (v25) (
          bnd (command_hold ((y4.fst, (y22.fst, [], (0 : Int), (0 : Int), (0 : Int), (0 : Int), (0 : Int), (0 : Int)), ((0 : Int), (0 : Int)), (0 : Int), zMac, (0 : Int))) (y2.fst)) fun y26 =>
          some (y26.fst, y26.snd.fst, ())) (
          some ((y4.fst, (y22.fst, [], (0 : Int), (0 : Int), (0 : Int), (0 : Int), (0 : Int), (0 : Int)), ((0 : Int), (0 : Int)), (0 : Int), zMac, (0 : Int)), TErr.nil, ()))))))) (
     ltO ((1 : Int)) fun (v27 : Int) =>
     chk ((!decide ((↑y2.fst.length : Int) < if (if v27 > (2 : Int) then v27 else (2 : Int)) < (3 : Int) then if v27 > (2 : Int) then v27 else (2 : Int) else (3 : Int))) = true → (!decide ((↑y2.fst.length : Int) < if (if v27 > (2 : Int) then v27 else (2 : Int)) < (3 : Int) then if v27 > (2 : Int) then v27 else (2 : Int) else (3 : Int))) = true) <|
     chk ((!decide ((↑y2.fst.length : Int) < if (if v27 > (2 : Int) then v27 else (2 : Int)) < (3 : Int) then if v27 > (2 : Int) then v27 else (2 : Int) else (3 : Int))) = true → (!decide ((↑y2.fst.length : Int) < if (if v27 > (2 : Int) then v27 else (2 : Int)) < (3 : Int) then if v27 > (2 : Int) then v27 else (2 : Int) else (3 : Int))) = true) <|
     chk ((!decide ((↑y2.fst.length : Int) < if (if v27 > (2 : Int) then v27 else (2 : Int)) < (3 : Int) then if v27 > (2 : Int) then v27 else (2 : Int) else (3 : Int))) = true → (!decide ((↑y2.fst.length : Int) < if (if v27 > (2 : Int) then v27 else (2 : Int)) < (3 : Int) then if v27 > (2 : Int) then v27 else (2 : Int) else (3 : Int))) = true) <|
     chk (decide ((↑y2.fst.length : Int) < if (if v27 > (2 : Int) then v27 else (2 : Int)) < (3 : Int) then if v27 > (2 : Int) then v27 else (2 : Int) else (3 : Int)) = false → (!decide ((↑y2.fst.length : Int) < if (if v27 > (2 : Int) then v27 else (2 : Int)) < (3 : Int) then if v27 > (2 : Int) then v27 else (2 : Int) else (3 : Int))) = true) <|
     ltO (decide ((↑y2.fst.length : Int) < if (if v27 > (2 : Int) then v27 else (2 : Int)) < (3 : Int) then if v27 > (2 : Int) then v27 else (2 : Int) else (3 : Int)) || decide ((↑y2.fst.length : Int) > (2 : Int))) fun (v28 : Bool) =>
     cnd (v28) (
      bnd (command_fault (if (2 : Int) < (↑y2.fst.length : Int) then (2 : Int) else (↑y2.fst.length : Int)) ([]) ((1 : Int))) fun y29 =>
      some (zEv, y29.fst, ())) (
      ltO (y4.fst == (3 : Int)) fun (v30 : Bool) =>
      cnd (v30) (
       chk ((0 : Int) ≤ (1 : Int) ∧ (1 : Int) < (↑y2.fst.length : Int)) <|
       ltO (y2.fst.getD (1 : Nat) []) fun (v31 : List UInt8) =>
       bnd (addr_ParseBlock (v31)) fun y32 =>
       cnd (!y32.snd.fst) (
        chk ((0 : Int) ≤ (1 : Int) ∧ (1 : Int) < (↑y2.fst.length : Int)) <|
        ltO (y2.fst.getD (1 : Nat) []) fun (v33 : List UInt8) =>
        bnd (command_fault ((1 : Int)) (v33) ((1 : Int))) fun y34 =>
        some (zEv, y34.fst, ())) (
        some ((y4.fst, zHold, y32.fst, (0 : Int), zMac, (0 : Int)), TErr.nil, ()))) (
       ltO (y4.fst == (4 : Int)) fun (v35 : Bool) =>
       cnd (v35) (
        chk ((0 : Int) ≤ (1 : Int) ∧ (1 : Int) < (↑y2.fst.length : Int)) <|
        ltO (y2.fst.getD (1 : Nat) []) fun (v36 : List UInt8) =>
        bnd (addr_ParseBlock (v36)) fun y37 =>
        cnd (!y37.snd.fst) (
         chk ((0 : Int) ≤ (1 : Int) ∧ (1 : Int) < (↑y2.fst.length : Int)) <|
         ltO (y2.fst.getD (1 : Nat) []) fun (v38 : List UInt8) =>
         bnd (command_fault ((1 : Int)) (v38) ((1 : Int))) fun y39 =>
         some (zEv, y39.fst, ())) (
         some ((y4.fst, zHold, y37.fst, (0 : Int), zMac, (0 : Int)), TErr.nil, ()))) (
        chk ((0 : Int) ≤ (1 : Int) ∧ (1 : Int) < (↑y2.fst.length : Int)) <|
        ltO (y2.fst.getD (1 : Nat) []) fun (v40 : List UInt8) =>
        bnd (addr_Parse (v40)) fun y41 =>
        cnd (!y41.snd.fst) (
         chk ((0 : Int) ≤ (1 : Int) ∧ (1 : Int) < (↑y2.fst.length : Int)) <|
         ltO (y2.fst.getD (1 : Nat) []) fun (v42 : List UInt8) =>
         bnd (command_fault ((1 : Int)) (v42) ((1 : Int))) fun y43 =>
         some (zEv, y43.fst, ())) (
         ltO (y4.fst == (1 : Int)) fun (v44 : Bool) =>
         cnd (v44) (
          bnd (command_hold ((y4.fst, (y41.fst, [], (0 : Int), (0 : Int), (0 : Int), (0 : Int), (0 : Int), (0 : Int)), ((0 : Int), (0 : Int)), (0 : Int), zMac, (0 : Int))) (y2.fst)) fun y45 =>
          some (y45.fst, y45.snd.fst, ())) (
          some ((y4.fst, (y41.fst, [], (0 : Int), (0 : Int), (0 : Int), (0 : Int), (0 : Int), (0 : Int)), ((0 : Int), (0 : Int)), (0 : Int), zMac, (0 : Int)), TErr.nil, ())))))))))
noncomputable def terrierlaw17_awake : Option (Bool × Unit) :=
  bnd (command_Parse ([(104 : UInt8), (111 : UInt8), (108 : UInt8), (100 : UInt8), (32 : UInt8), (49 : UInt8), (48 : UInt8), (46 : UInt8), (48 : UInt8), (46 : UInt8), (48 : UInt8), (46 : UInt8), (49 : UInt8), (32 : UInt8), (97 : UInt8), (110 : UInt8), (110 : UInt8), (32 : UInt8), (48 : UInt8), (50 : UInt8), (58 : UInt8), (48 : UInt8), (48 : UInt8), (58 : UInt8), (48 : UInt8), (48 : UInt8), (58 : UInt8), (48 : UInt8), (48 : UInt8), (58 : UInt8), (48 : UInt8), (48 : UInt8), (58 : UInt8), (48 : UInt8), (49 : UInt8)])) fun y0 =>
  bnd (command_Parse ([(104 : UInt8), (111 : UInt8), (108 : UInt8), (100 : UInt8), (32 : UInt8), (49 : UInt8), (48 : UInt8), (46 : UInt8), (48 : UInt8), (46 : UInt8), (48 : UInt8), (46 : UInt8), (49 : UInt8), (32 : UInt8), (65 : UInt8), (110 : UInt8), (110 : UInt8)])) fun y1 =>
  bnd (command_Where (y1.snd.fst)) fun y2 =>
  ltO (errN y0.snd.fst) fun (v3 : Bool) =>
  chk (v3 = true → v3 = true) <|
  chk (v3 = true → v3 = true) <|
  ltO (y0.fst.fst == (1 : Int)) fun (v4 : Bool) =>
  chk (v3 = true → v3 = true) <|
  ltO (v3 && v4) fun (v5 : Bool) =>
  chk (v5 = true → v5 = true) <|
  chk (v5 = true → v5 = true) <|
  chk (v5 = true → v5 = true) <|
  ltO (y0.fst.snd.fst.snd.fst == [(97 : UInt8), (110 : UInt8), (110 : UInt8)]) fun (v6 : Bool) =>
  chk (v5 = true → v5 = true) <|
  ltO (v5 && v6) fun (v7 : Bool) =>
  chk (v7 = true → v7 = true) <|
  bndG (v7) (command_Text (y0.fst)) ([], ()) fun y8 =>
  chk (v7 = true → v7 = true) <|
  ltO (y8.fst == [(104 : UInt8), (111 : UInt8), (108 : UInt8), (100 : UInt8), (32 : UInt8), (49 : UInt8), (48 : UInt8), (46 : UInt8), (48 : UInt8), (46 : UInt8), (48 : UInt8), (46 : UInt8), (49 : UInt8), (32 : UInt8), (97 : UInt8), (110 : UInt8), (110 : UInt8), (32 : UInt8), (48 : UInt8), (50 : UInt8), (58 : UInt8), (48 : UInt8), (48 : UInt8), (58 : UInt8), (48 : UInt8), (48 : UInt8), (58 : UInt8), (48 : UInt8), (48 : UInt8), (58 : UInt8), (48 : UInt8), (48 : UInt8), (58 : UInt8), (48 : UInt8), (49 : UInt8)]) fun (v9 : Bool) =>
  chk (v7 = true → v7 = true) <|
  ltO (v7 && v9) fun (v10 : Bool) =>
  chk (v10 = true → v10 = true) <|
  ltO (y2.fst == (2 : Int)) fun (v11 : Bool) =>
  chk (v10 = true → v10 = true) <|
  ltO (v10 && v11) fun (v12 : Bool) =>
  chk (v12 = true → v12 = true) <|
  ltO (y2.snd.fst == (3 : Int)) fun (v13 : Bool) =>
  chk (v12 = true → v12 = true) <|
  ltO (v12 && v13) fun (v14 : Bool) =>
  chk (v14 = true → v14 = true) <|
  ltO (v14 && y2.snd.snd.fst) fun (v15 : Bool) =>
  some (v15, ())
noncomputable def terrierlaw17_Say_Event (s' : Int × Int × Int × Int × Int × Int × List UInt8) : Option (TEv × Unit) :=
  chk (¬(6 : Int) = (0 : Int)) <|
  ltO (s'.fst.tmod (6 : Int)) fun (v0 : Int) =>
  chk ((0 : Int) ≤ v0 ∧ v0 < (6 : Int)) <|
  chk (v0.toNat < (6 : Nat)) <|
  ltO ([(1 : Int), (2 : Int), (3 : Int), (4 : Int), (6 : Int), (7 : Int)].getD v0.toNat (0 : Int) == (3 : Int)) fun (v1 : Bool) =>
  chk ((!v1) = true → (!v1) = true) <|
  ltO ([(1 : Int), (2 : Int), (3 : Int), (4 : Int), (6 : Int), (7 : Int)].getD v0.toNat (0 : Int) == (4 : Int)) fun (v2 : Bool) =>
  chk (v1 = false → (!v1) = true) <|
  ltO (v1 || v2) fun (v3 : Bool) =>
  cnd (v3) (
   bnd (terrierlaw01_Block (s'.snd.fst) (s'.snd.snd.fst)) fun y4 =>
   some (([(1 : Int), (2 : Int), (3 : Int), (4 : Int), (6 : Int), (7 : Int)].getD v0.toNat (0 : Int), zHold, y4.fst, (0 : Int), zMac, (0 : Int)), ())) (
   ltO ([(1 : Int), (2 : Int), (3 : Int), (4 : Int), (6 : Int), (7 : Int)].getD v0.toNat (0 : Int) == (1 : Int)) fun (v5 : Bool) =>
   cnd (v5) (
    chk (¬(8 : Int) = (0 : Int)) <|
    ltO (s'.snd.snd.snd.fst.tmod (8 : Int)) fun (v6 : Int) =>
    ltO (IntKind.u8.wrap ((1 : Int) + v6)) fun (v7 : Int) =>
    chk ((0 : Int) ≤ (0 : Int) ∧ (0 : Int) ≤ v7 ∧ v7 ≤ (8 : Int)) <|
    bnd (terrierlaw11_Station (s'.snd.snd.snd.snd.fst)) fun y8 =>
    some (([(1 : Int), (2 : Int), (3 : Int), (4 : Int), (6 : Int), (7 : Int)].getD v0.toNat (0 : Int), (s'.snd.fst, sliceA (0 : Nat) v7.toNat [(97 : UInt8), (98 : UInt8), (99 : UInt8), (100 : UInt8), (101 : UInt8), (102 : UInt8), (103 : UInt8), (104 : UInt8)], y8.fst), ((0 : Int), (0 : Int)), (0 : Int), zMac, (0 : Int)), ())) (
    some (([(1 : Int), (2 : Int), (3 : Int), (4 : Int), (6 : Int), (7 : Int)].getD v0.toNat (0 : Int), (s'.snd.fst, [], (0 : Int), (0 : Int), (0 : Int), (0 : Int), (0 : Int), (0 : Int)), ((0 : Int), (0 : Int)), (0 : Int), zMac, (0 : Int)), ())))
noncomputable def terrierlaw17_words : Option ((List (List UInt8)) × Unit) :=
  some ([[], [(104 : UInt8), (111 : UInt8), (108 : UInt8), (100 : UInt8)], [(100 : UInt8), (114 : UInt8), (111 : UInt8), (112 : UInt8)], [(119 : UInt8), (97 : UInt8), (116 : UInt8), (99 : UInt8), (104 : UInt8)], [(105 : UInt8), (103 : UInt8), (110 : UInt8), (111 : UInt8), (114 : UInt8), (101 : UInt8)], [], [(97 : UInt8), (112 : UInt8), (112 : UInt8), (114 : UInt8), (111 : UInt8), (118 : UInt8), (101 : UInt8)], [(114 : UInt8), (101 : UInt8), (106 : UInt8), (101 : UInt8), (99 : UInt8), (116 : UInt8)]], ())
noncomputable def terrierlaw17_Say_split (s' : Int × Int × Int × Int × Int × Int × List UInt8) : Option ((List (List UInt8)) × Unit) :=
  bnd (terrierlaw17_Say_Event (s')) fun y0 =>
  bnd (terrierlaw17_words) fun y1 =>
  chk ((0 : Int) ≤ y0.fst.fst ∧ y0.fst.fst < (↑y1.fst.length : Int)) <|
  chk (y0.fst.fst.toNat < y1.fst.length) <|
  bnd (addr_Text (y0.fst.snd.fst.fst)) fun y2 =>
  ltO (y0.fst.fst == (3 : Int)) fun (v3 : Bool) =>
  chk ((!v3) = true → (!v3) = true) <|
  chk ((!v3) = true → (!v3) = true) <|
  ltO (y0.fst.fst == (4 : Int)) fun (v4 : Bool) =>
  chk (v3 = false → (!v3) = true) <|
  ltO (v3 || v4) fun (v5 : Bool) =>
  cnd (v5) (
   bnd (addr_BlockText (y0.fst.snd.snd.fst)) fun y6 =>
   chk ((0 : Int) ≤ (1 : Int) ∧ (1 : Int) < (↑[y1.fst.getD y0.fst.fst.toNat [], y2.fst].length : Int)) <|
   chk ((1 : Nat) < [y1.fst.getD y0.fst.fst.toNat [], y2.fst].length) <|
   ltO (y0.fst.fst == (1 : Int)) fun (v7 : Bool) =>
   cnd (v7) (
    chk (room (16 : Nat) (([y1.fst.getD y0.fst.fst.toNat [], y2.fst].set (1 : Nat) y6.fst).length + [y0.fst.snd.fst.snd.fst].length)) <|
    bnd (mac_None (y0.fst.snd.fst.snd.snd)) fun y8 =>
    cnd (!y8.fst) (
     bnd (mac_Text (y0.fst.snd.fst.snd.snd)) fun y9 =>
     chk (room (16 : Nat) (([y1.fst.getD y0.fst.fst.toNat [], y2.fst].set (1 : Nat) y6.fst ++ [y0.fst.snd.fst.snd.fst]).length + [y9.fst].length)) <|
     chk (decide (s'.snd.snd.snd.snd.snd.fst < (5 : Int)) = true → decide (s'.snd.snd.snd.snd.snd.fst < (5 : Int)) = true) <|
     chk (decide (s'.snd.snd.snd.snd.snd.fst < (5 : Int)) = true → decide (s'.snd.snd.snd.snd.snd.fst < (5 : Int)) = true) <|
     ltO (IntKind.i64.wrap s'.snd.snd.snd.snd.snd.fst) fun (v10 : Int) =>
     chk (decide (s'.snd.snd.snd.snd.snd.fst < (5 : Int)) = true → decide (s'.snd.snd.snd.snd.snd.fst < (5 : Int)) = true) <|
     chk (decide (s'.snd.snd.snd.snd.snd.fst < (5 : Int)) = true → decide (s'.snd.snd.snd.snd.snd.fst < (5 : Int)) = true) <|
     chk (decide (s'.snd.snd.snd.snd.snd.fst < (5 : Int)) = true → decide (s'.snd.snd.snd.snd.snd.fst < (5 : Int)) = true) <|
     chk (decide (s'.snd.snd.snd.snd.snd.fst < (5 : Int)) = true → decide (s'.snd.snd.snd.snd.snd.fst < (5 : Int)) = true) <|
     ltO (decide (s'.snd.snd.snd.snd.snd.fst < (5 : Int)) && decide (v10 < (↑([y1.fst.getD y0.fst.fst.toNat [], y2.fst].set (1 : Nat) y6.fst ++ [y0.fst.snd.fst.snd.fst] ++ [y9.fst]).length : Int))) fun (v11 : Bool) =>
     cnd (v11) (
      chk ((0 : Int) ≤ s'.snd.snd.snd.snd.snd.fst ∧ s'.snd.snd.snd.snd.snd.fst < (↑([y1.fst.getD y0.fst.fst.toNat [], y2.fst].set (1 : Nat) y6.fst ++ [y0.fst.snd.fst.snd.fst] ++ [y9.fst]).length : Int)) <|
      chk (s'.snd.snd.snd.snd.snd.fst.toNat < ([y1.fst.getD y0.fst.fst.toNat [], y2.fst].set (1 : Nat) y6.fst ++ [y0.fst.snd.fst.snd.fst] ++ [y9.fst]).length) <|
      ltO (s'.snd.snd.snd.snd.snd.fst == (5 : Int)) fun (v12 : Bool) =>
      cnd (v12) (
       ltO (IntKind.i64.wrap ((↑(([y1.fst.getD y0.fst.fst.toNat [], y2.fst].set (1 : Nat) y6.fst ++ [y0.fst.snd.fst.snd.fst] ++ [y9.fst]).set s'.snd.snd.snd.snd.snd.fst.toNat s'.snd.snd.snd.snd.snd.snd).length : Int) - (1 : Int))) fun (v13 : Int) =>
       chk ((0 : Int) ≤ (0 : Int) ∧ (0 : Int) ≤ v13 ∧ v13 ≤ (↑(([y1.fst.getD y0.fst.fst.toNat [], y2.fst].set (1 : Nat) y6.fst ++ [y0.fst.snd.fst.snd.fst] ++ [y9.fst]).set s'.snd.snd.snd.snd.snd.fst.toNat s'.snd.snd.snd.snd.snd.snd).length : Int)) <|
       ltO (s'.snd.snd.snd.snd.snd.fst == (6 : Int)) fun (v14 : Bool) =>
       cnd (v14) (
        chk ((0 : Nat) = (0 : Nat) ∧ v13.toNat - (0 : Nat) = (([y1.fst.getD y0.fst.fst.toNat [], y2.fst].set (1 : Nat) y6.fst ++ [y0.fst.snd.fst.snd.fst] ++ [y9.fst]).set s'.snd.snd.snd.snd.snd.fst.toNat s'.snd.snd.snd.snd.snd.snd).length ∧ room (16 : Nat) ((([y1.fst.getD y0.fst.fst.toNat [], y2.fst].set (1 : Nat) y6.fst ++ [y0.fst.snd.fst.snd.fst] ++ [y9.fst]).set s'.snd.snd.snd.snd.snd.fst.toNat s'.snd.snd.snd.snd.snd.snd).length + [s'.snd.snd.snd.snd.snd.snd].length)) <|
        some (([y1.fst.getD y0.fst.fst.toNat [], y2.fst].set (1 : Nat) y6.fst ++ [y0.fst.snd.fst.snd.fst] ++ [y9.fst]).set s'.snd.snd.snd.snd.snd.fst.toNat s'.snd.snd.snd.snd.snd.snd ++ [s'.snd.snd.snd.snd.snd.snd], ())) (
        chk ((0 : Nat) + (v13.toNat - (0 : Nat)) ≤ (([y1.fst.getD y0.fst.fst.toNat [], y2.fst].set (1 : Nat) y6.fst ++ [y0.fst.snd.fst.snd.fst] ++ [y9.fst]).set s'.snd.snd.snd.snd.snd.fst.toNat s'.snd.snd.snd.snd.snd.snd).length) <|
        some (sliceA (0 : Nat) ((0 : Nat) + (v13.toNat - (0 : Nat))) (([y1.fst.getD y0.fst.fst.toNat [], y2.fst].set (1 : Nat) y6.fst ++ [y0.fst.snd.fst.snd.fst] ++ [y9.fst]).set s'.snd.snd.snd.snd.snd.fst.toNat s'.snd.snd.snd.snd.snd.snd), ()))) (
       ltO (s'.snd.snd.snd.snd.snd.fst == (6 : Int)) fun (v15 : Bool) =>
       cnd (v15) (
        chk (room (16 : Nat) ((([y1.fst.getD y0.fst.fst.toNat [], y2.fst].set (1 : Nat) y6.fst ++ [y0.fst.snd.fst.snd.fst] ++ [y9.fst]).set s'.snd.snd.snd.snd.snd.fst.toNat s'.snd.snd.snd.snd.snd.snd).length + [s'.snd.snd.snd.snd.snd.snd].length)) <|
        some (([y1.fst.getD y0.fst.fst.toNat [], y2.fst].set (1 : Nat) y6.fst ++ [y0.fst.snd.fst.snd.fst] ++ [y9.fst]).set s'.snd.snd.snd.snd.snd.fst.toNat s'.snd.snd.snd.snd.snd.snd ++ [s'.snd.snd.snd.snd.snd.snd], ())) (
        some (([y1.fst.getD y0.fst.fst.toNat [], y2.fst].set (1 : Nat) y6.fst ++ [y0.fst.snd.fst.snd.fst] ++ [y9.fst]).set s'.snd.snd.snd.snd.snd.fst.toNat s'.snd.snd.snd.snd.snd.snd, ())))) (
      ltO (s'.snd.snd.snd.snd.snd.fst == (5 : Int)) fun (v16 : Bool) =>
      cnd (v16) (
       ltO (IntKind.i64.wrap ((↑([y1.fst.getD y0.fst.fst.toNat [], y2.fst].set (1 : Nat) y6.fst ++ [y0.fst.snd.fst.snd.fst] ++ [y9.fst]).length : Int) - (1 : Int))) fun (v17 : Int) =>
       chk ((0 : Int) ≤ (0 : Int) ∧ (0 : Int) ≤ v17 ∧ v17 ≤ (↑([y1.fst.getD y0.fst.fst.toNat [], y2.fst].set (1 : Nat) y6.fst ++ [y0.fst.snd.fst.snd.fst] ++ [y9.fst]).length : Int)) <|
       ltO (s'.snd.snd.snd.snd.snd.fst == (6 : Int)) fun (v18 : Bool) =>
       cnd (v18) (
        chk ((0 : Nat) = (0 : Nat) ∧ v17.toNat - (0 : Nat) = ([y1.fst.getD y0.fst.fst.toNat [], y2.fst].set (1 : Nat) y6.fst ++ [y0.fst.snd.fst.snd.fst] ++ [y9.fst]).length ∧ room (16 : Nat) (([y1.fst.getD y0.fst.fst.toNat [], y2.fst].set (1 : Nat) y6.fst ++ [y0.fst.snd.fst.snd.fst] ++ [y9.fst]).length + [s'.snd.snd.snd.snd.snd.snd].length)) <|
        some ([y1.fst.getD y0.fst.fst.toNat [], y2.fst].set (1 : Nat) y6.fst ++ [y0.fst.snd.fst.snd.fst] ++ [y9.fst] ++ [s'.snd.snd.snd.snd.snd.snd], ())) (
        chk ((0 : Nat) + (v17.toNat - (0 : Nat)) ≤ ([y1.fst.getD y0.fst.fst.toNat [], y2.fst].set (1 : Nat) y6.fst ++ [y0.fst.snd.fst.snd.fst] ++ [y9.fst]).length) <|
        some (sliceA (0 : Nat) ((0 : Nat) + (v17.toNat - (0 : Nat))) ([y1.fst.getD y0.fst.fst.toNat [], y2.fst].set (1 : Nat) y6.fst ++ [y0.fst.snd.fst.snd.fst] ++ [y9.fst]), ()))) (
       ltO (s'.snd.snd.snd.snd.snd.fst == (6 : Int)) fun (v19 : Bool) =>
       cnd (v19) (
        chk (room (16 : Nat) (([y1.fst.getD y0.fst.fst.toNat [], y2.fst].set (1 : Nat) y6.fst ++ [y0.fst.snd.fst.snd.fst] ++ [y9.fst]).length + [s'.snd.snd.snd.snd.snd.snd].length)) <|
        some ([y1.fst.getD y0.fst.fst.toNat [], y2.fst].set (1 : Nat) y6.fst ++ [y0.fst.snd.fst.snd.fst] ++ [y9.fst] ++ [s'.snd.snd.snd.snd.snd.snd], ())) (
        some ([y1.fst.getD y0.fst.fst.toNat [], y2.fst].set (1 : Nat) y6.fst ++ [y0.fst.snd.fst.snd.fst] ++ [y9.fst], ()))))) (
     chk (decide (s'.snd.snd.snd.snd.snd.fst < (5 : Int)) = true → decide (s'.snd.snd.snd.snd.snd.fst < (5 : Int)) = true) <|
     chk (decide (s'.snd.snd.snd.snd.snd.fst < (5 : Int)) = true → decide (s'.snd.snd.snd.snd.snd.fst < (5 : Int)) = true) <|
     ltO (IntKind.i64.wrap s'.snd.snd.snd.snd.snd.fst) fun (v20 : Int) =>
     chk (decide (s'.snd.snd.snd.snd.snd.fst < (5 : Int)) = true → decide (s'.snd.snd.snd.snd.snd.fst < (5 : Int)) = true) <|
     chk (decide (s'.snd.snd.snd.snd.snd.fst < (5 : Int)) = true → decide (s'.snd.snd.snd.snd.snd.fst < (5 : Int)) = true) <|
     chk (decide (s'.snd.snd.snd.snd.snd.fst < (5 : Int)) = true → decide (s'.snd.snd.snd.snd.snd.fst < (5 : Int)) = true) <|
     chk (decide (s'.snd.snd.snd.snd.snd.fst < (5 : Int)) = true → decide (s'.snd.snd.snd.snd.snd.fst < (5 : Int)) = true) <|
     ltO (decide (s'.snd.snd.snd.snd.snd.fst < (5 : Int)) && decide (v20 < (↑([y1.fst.getD y0.fst.fst.toNat [], y2.fst].set (1 : Nat) y6.fst ++ [y0.fst.snd.fst.snd.fst]).length : Int))) fun (v21 : Bool) =>
     cnd (v21) (
      chk ((0 : Int) ≤ s'.snd.snd.snd.snd.snd.fst ∧ s'.snd.snd.snd.snd.snd.fst < (↑([y1.fst.getD y0.fst.fst.toNat [], y2.fst].set (1 : Nat) y6.fst ++ [y0.fst.snd.fst.snd.fst]).length : Int)) <|
      chk (s'.snd.snd.snd.snd.snd.fst.toNat < ([y1.fst.getD y0.fst.fst.toNat [], y2.fst].set (1 : Nat) y6.fst ++ [y0.fst.snd.fst.snd.fst]).length) <|
      ltO (s'.snd.snd.snd.snd.snd.fst == (5 : Int)) fun (v22 : Bool) =>
      cnd (v22) (
       ltO (IntKind.i64.wrap ((↑(([y1.fst.getD y0.fst.fst.toNat [], y2.fst].set (1 : Nat) y6.fst ++ [y0.fst.snd.fst.snd.fst]).set s'.snd.snd.snd.snd.snd.fst.toNat s'.snd.snd.snd.snd.snd.snd).length : Int) - (1 : Int))) fun (v23 : Int) =>
       chk ((0 : Int) ≤ (0 : Int) ∧ (0 : Int) ≤ v23 ∧ v23 ≤ (↑(([y1.fst.getD y0.fst.fst.toNat [], y2.fst].set (1 : Nat) y6.fst ++ [y0.fst.snd.fst.snd.fst]).set s'.snd.snd.snd.snd.snd.fst.toNat s'.snd.snd.snd.snd.snd.snd).length : Int)) <|
       ltO (s'.snd.snd.snd.snd.snd.fst == (6 : Int)) fun (v24 : Bool) =>
       cnd (v24) (
        chk ((0 : Nat) = (0 : Nat) ∧ v23.toNat - (0 : Nat) = (([y1.fst.getD y0.fst.fst.toNat [], y2.fst].set (1 : Nat) y6.fst ++ [y0.fst.snd.fst.snd.fst]).set s'.snd.snd.snd.snd.snd.fst.toNat s'.snd.snd.snd.snd.snd.snd).length ∧ room (16 : Nat) ((([y1.fst.getD y0.fst.fst.toNat [], y2.fst].set (1 : Nat) y6.fst ++ [y0.fst.snd.fst.snd.fst]).set s'.snd.snd.snd.snd.snd.fst.toNat s'.snd.snd.snd.snd.snd.snd).length + [s'.snd.snd.snd.snd.snd.snd].length)) <|
        some (([y1.fst.getD y0.fst.fst.toNat [], y2.fst].set (1 : Nat) y6.fst ++ [y0.fst.snd.fst.snd.fst]).set s'.snd.snd.snd.snd.snd.fst.toNat s'.snd.snd.snd.snd.snd.snd ++ [s'.snd.snd.snd.snd.snd.snd], ())) (
        chk ((0 : Nat) + (v23.toNat - (0 : Nat)) ≤ (([y1.fst.getD y0.fst.fst.toNat [], y2.fst].set (1 : Nat) y6.fst ++ [y0.fst.snd.fst.snd.fst]).set s'.snd.snd.snd.snd.snd.fst.toNat s'.snd.snd.snd.snd.snd.snd).length) <|
        some (sliceA (0 : Nat) ((0 : Nat) + (v23.toNat - (0 : Nat))) (([y1.fst.getD y0.fst.fst.toNat [], y2.fst].set (1 : Nat) y6.fst ++ [y0.fst.snd.fst.snd.fst]).set s'.snd.snd.snd.snd.snd.fst.toNat s'.snd.snd.snd.snd.snd.snd), ()))) (
       ltO (s'.snd.snd.snd.snd.snd.fst == (6 : Int)) fun (v25 : Bool) =>
       cnd (v25) (
        chk (room (16 : Nat) ((([y1.fst.getD y0.fst.fst.toNat [], y2.fst].set (1 : Nat) y6.fst ++ [y0.fst.snd.fst.snd.fst]).set s'.snd.snd.snd.snd.snd.fst.toNat s'.snd.snd.snd.snd.snd.snd).length + [s'.snd.snd.snd.snd.snd.snd].length)) <|
        some (([y1.fst.getD y0.fst.fst.toNat [], y2.fst].set (1 : Nat) y6.fst ++ [y0.fst.snd.fst.snd.fst]).set s'.snd.snd.snd.snd.snd.fst.toNat s'.snd.snd.snd.snd.snd.snd ++ [s'.snd.snd.snd.snd.snd.snd], ())) (
        some (([y1.fst.getD y0.fst.fst.toNat [], y2.fst].set (1 : Nat) y6.fst ++ [y0.fst.snd.fst.snd.fst]).set s'.snd.snd.snd.snd.snd.fst.toNat s'.snd.snd.snd.snd.snd.snd, ())))) (
      ltO (s'.snd.snd.snd.snd.snd.fst == (5 : Int)) fun (v26 : Bool) =>
      cnd (v26) (
       ltO (IntKind.i64.wrap ((↑([y1.fst.getD y0.fst.fst.toNat [], y2.fst].set (1 : Nat) y6.fst ++ [y0.fst.snd.fst.snd.fst]).length : Int) - (1 : Int))) fun (v27 : Int) =>
       chk ((0 : Int) ≤ (0 : Int) ∧ (0 : Int) ≤ v27 ∧ v27 ≤ (↑([y1.fst.getD y0.fst.fst.toNat [], y2.fst].set (1 : Nat) y6.fst ++ [y0.fst.snd.fst.snd.fst]).length : Int)) <|
       ltO (s'.snd.snd.snd.snd.snd.fst == (6 : Int)) fun (v28 : Bool) =>
       cnd (v28) (
        chk ((0 : Nat) = (0 : Nat) ∧ v27.toNat - (0 : Nat) = ([y1.fst.getD y0.fst.fst.toNat [], y2.fst].set (1 : Nat) y6.fst ++ [y0.fst.snd.fst.snd.fst]).length ∧ room (16 : Nat) (([y1.fst.getD y0.fst.fst.toNat [], y2.fst].set (1 : Nat) y6.fst ++ [y0.fst.snd.fst.snd.fst]).length + [s'.snd.snd.snd.snd.snd.snd].length)) <|
        some ([y1.fst.getD y0.fst.fst.toNat [], y2.fst].set (1 : Nat) y6.fst ++ [y0.fst.snd.fst.snd.fst] ++ [s'.snd.snd.snd.snd.snd.snd], ())) (
        chk ((0 : Nat) + (v27.toNat - (0 : Nat)) ≤ ([y1.fst.getD y0.fst.fst.toNat [], y2.fst].set (1 : Nat) y6.fst ++ [y0.fst.snd.fst.snd.fst]).length) <|
        some (sliceA (0 : Nat) ((0 : Nat) + (v27.toNat - (0 : Nat))) ([y1.fst.getD y0.fst.fst.toNat [], y2.fst].set (1 : Nat) y6.fst ++ [y0.fst.snd.fst.snd.fst]), ()))) (
       ltO (s'.snd.snd.snd.snd.snd.fst == (6 : Int)) fun (v29 : Bool) =>
       cnd (v29) (
        chk (room (16 : Nat) (([y1.fst.getD y0.fst.fst.toNat [], y2.fst].set (1 : Nat) y6.fst ++ [y0.fst.snd.fst.snd.fst]).length + [s'.snd.snd.snd.snd.snd.snd].length)) <|
        some ([y1.fst.getD y0.fst.fst.toNat [], y2.fst].set (1 : Nat) y6.fst ++ [y0.fst.snd.fst.snd.fst] ++ [s'.snd.snd.snd.snd.snd.snd], ())) (
        some ([y1.fst.getD y0.fst.fst.toNat [], y2.fst].set (1 : Nat) y6.fst ++ [y0.fst.snd.fst.snd.fst], ())))))) (
    chk (decide (s'.snd.snd.snd.snd.snd.fst < (5 : Int)) = true → decide (s'.snd.snd.snd.snd.snd.fst < (5 : Int)) = true) <|
    chk (decide (s'.snd.snd.snd.snd.snd.fst < (5 : Int)) = true → decide (s'.snd.snd.snd.snd.snd.fst < (5 : Int)) = true) <|
    ltO (IntKind.i64.wrap s'.snd.snd.snd.snd.snd.fst) fun (v30 : Int) =>
    chk (decide (s'.snd.snd.snd.snd.snd.fst < (5 : Int)) = true → decide (s'.snd.snd.snd.snd.snd.fst < (5 : Int)) = true) <|
    chk (decide (s'.snd.snd.snd.snd.snd.fst < (5 : Int)) = true → decide (s'.snd.snd.snd.snd.snd.fst < (5 : Int)) = true) <|
    chk (decide (s'.snd.snd.snd.snd.snd.fst < (5 : Int)) = true → decide (s'.snd.snd.snd.snd.snd.fst < (5 : Int)) = true) <|
    chk (decide (s'.snd.snd.snd.snd.snd.fst < (5 : Int)) = true → decide (s'.snd.snd.snd.snd.snd.fst < (5 : Int)) = true) <|
    ltO (decide (s'.snd.snd.snd.snd.snd.fst < (5 : Int)) && decide (v30 < (↑([y1.fst.getD y0.fst.fst.toNat [], y2.fst].set (1 : Nat) y6.fst).length : Int))) fun (v31 : Bool) =>
    cnd (v31) (
     chk ((0 : Int) ≤ s'.snd.snd.snd.snd.snd.fst ∧ s'.snd.snd.snd.snd.snd.fst < (↑([y1.fst.getD y0.fst.fst.toNat [], y2.fst].set (1 : Nat) y6.fst).length : Int)) <|
     chk (s'.snd.snd.snd.snd.snd.fst.toNat < ([y1.fst.getD y0.fst.fst.toNat [], y2.fst].set (1 : Nat) y6.fst).length) <|
     ltO (s'.snd.snd.snd.snd.snd.fst == (5 : Int)) fun (v32 : Bool) =>
     cnd (v32) (
      ltO (IntKind.i64.wrap ((↑(([y1.fst.getD y0.fst.fst.toNat [], y2.fst].set (1 : Nat) y6.fst).set s'.snd.snd.snd.snd.snd.fst.toNat s'.snd.snd.snd.snd.snd.snd).length : Int) - (1 : Int))) fun (v33 : Int) =>
      chk ((0 : Int) ≤ (0 : Int) ∧ (0 : Int) ≤ v33 ∧ v33 ≤ (↑(([y1.fst.getD y0.fst.fst.toNat [], y2.fst].set (1 : Nat) y6.fst).set s'.snd.snd.snd.snd.snd.fst.toNat s'.snd.snd.snd.snd.snd.snd).length : Int)) <|
      ltO (s'.snd.snd.snd.snd.snd.fst == (6 : Int)) fun (v34 : Bool) =>
      cnd (v34) (
       chk ((0 : Nat) = (0 : Nat) ∧ v33.toNat - (0 : Nat) = (([y1.fst.getD y0.fst.fst.toNat [], y2.fst].set (1 : Nat) y6.fst).set s'.snd.snd.snd.snd.snd.fst.toNat s'.snd.snd.snd.snd.snd.snd).length ∧ room (16 : Nat) ((([y1.fst.getD y0.fst.fst.toNat [], y2.fst].set (1 : Nat) y6.fst).set s'.snd.snd.snd.snd.snd.fst.toNat s'.snd.snd.snd.snd.snd.snd).length + [s'.snd.snd.snd.snd.snd.snd].length)) <|
       some (([y1.fst.getD y0.fst.fst.toNat [], y2.fst].set (1 : Nat) y6.fst).set s'.snd.snd.snd.snd.snd.fst.toNat s'.snd.snd.snd.snd.snd.snd ++ [s'.snd.snd.snd.snd.snd.snd], ())) (
       chk ((0 : Nat) + (v33.toNat - (0 : Nat)) ≤ (([y1.fst.getD y0.fst.fst.toNat [], y2.fst].set (1 : Nat) y6.fst).set s'.snd.snd.snd.snd.snd.fst.toNat s'.snd.snd.snd.snd.snd.snd).length) <|
       some (sliceA (0 : Nat) ((0 : Nat) + (v33.toNat - (0 : Nat))) (([y1.fst.getD y0.fst.fst.toNat [], y2.fst].set (1 : Nat) y6.fst).set s'.snd.snd.snd.snd.snd.fst.toNat s'.snd.snd.snd.snd.snd.snd), ()))) (
      ltO (s'.snd.snd.snd.snd.snd.fst == (6 : Int)) fun (v35 : Bool) =>
      cnd (v35) (
       chk (room (16 : Nat) ((([y1.fst.getD y0.fst.fst.toNat [], y2.fst].set (1 : Nat) y6.fst).set s'.snd.snd.snd.snd.snd.fst.toNat s'.snd.snd.snd.snd.snd.snd).length + [s'.snd.snd.snd.snd.snd.snd].length)) <|
       some (([y1.fst.getD y0.fst.fst.toNat [], y2.fst].set (1 : Nat) y6.fst).set s'.snd.snd.snd.snd.snd.fst.toNat s'.snd.snd.snd.snd.snd.snd ++ [s'.snd.snd.snd.snd.snd.snd], ())) (
       some (([y1.fst.getD y0.fst.fst.toNat [], y2.fst].set (1 : Nat) y6.fst).set s'.snd.snd.snd.snd.snd.fst.toNat s'.snd.snd.snd.snd.snd.snd, ())))) (
     ltO (s'.snd.snd.snd.snd.snd.fst == (5 : Int)) fun (v36 : Bool) =>
     cnd (v36) (
      ltO (IntKind.i64.wrap ((↑([y1.fst.getD y0.fst.fst.toNat [], y2.fst].set (1 : Nat) y6.fst).length : Int) - (1 : Int))) fun (v37 : Int) =>
      chk ((0 : Int) ≤ (0 : Int) ∧ (0 : Int) ≤ v37 ∧ v37 ≤ (↑([y1.fst.getD y0.fst.fst.toNat [], y2.fst].set (1 : Nat) y6.fst).length : Int)) <|
      ltO (s'.snd.snd.snd.snd.snd.fst == (6 : Int)) fun (v38 : Bool) =>
      cnd (v38) (
       chk ((0 : Nat) = (0 : Nat) ∧ v37.toNat - (0 : Nat) = ([y1.fst.getD y0.fst.fst.toNat [], y2.fst].set (1 : Nat) y6.fst).length ∧ room (16 : Nat) (([y1.fst.getD y0.fst.fst.toNat [], y2.fst].set (1 : Nat) y6.fst).length + [s'.snd.snd.snd.snd.snd.snd].length)) <|
       some ([y1.fst.getD y0.fst.fst.toNat [], y2.fst].set (1 : Nat) y6.fst ++ [s'.snd.snd.snd.snd.snd.snd], ())) (
       chk ((0 : Nat) + (v37.toNat - (0 : Nat)) ≤ ([y1.fst.getD y0.fst.fst.toNat [], y2.fst].set (1 : Nat) y6.fst).length) <|
       some (sliceA (0 : Nat) ((0 : Nat) + (v37.toNat - (0 : Nat))) ([y1.fst.getD y0.fst.fst.toNat [], y2.fst].set (1 : Nat) y6.fst), ()))) (
      ltO (s'.snd.snd.snd.snd.snd.fst == (6 : Int)) fun (v39 : Bool) =>
      cnd (v39) (
       chk (room (16 : Nat) (([y1.fst.getD y0.fst.fst.toNat [], y2.fst].set (1 : Nat) y6.fst).length + [s'.snd.snd.snd.snd.snd.snd].length)) <|
       some ([y1.fst.getD y0.fst.fst.toNat [], y2.fst].set (1 : Nat) y6.fst ++ [s'.snd.snd.snd.snd.snd.snd], ())) (
       some ([y1.fst.getD y0.fst.fst.toNat [], y2.fst].set (1 : Nat) y6.fst, ())))))) (
   ltO (y0.fst.fst == (1 : Int)) fun (v40 : Bool) =>
   cnd (v40) (
    chk (room (16 : Nat) ([y1.fst.getD y0.fst.fst.toNat [], y2.fst].length + [y0.fst.snd.fst.snd.fst].length)) <|
    bnd (mac_None (y0.fst.snd.fst.snd.snd)) fun y41 =>
    cnd (!y41.fst) (
     bnd (mac_Text (y0.fst.snd.fst.snd.snd)) fun y42 =>
     chk (room (16 : Nat) (([y1.fst.getD y0.fst.fst.toNat [], y2.fst] ++ [y0.fst.snd.fst.snd.fst]).length + [y42.fst].length)) <|
     chk (decide (s'.snd.snd.snd.snd.snd.fst < (5 : Int)) = true → decide (s'.snd.snd.snd.snd.snd.fst < (5 : Int)) = true) <|
     chk (decide (s'.snd.snd.snd.snd.snd.fst < (5 : Int)) = true → decide (s'.snd.snd.snd.snd.snd.fst < (5 : Int)) = true) <|
     ltO (IntKind.i64.wrap s'.snd.snd.snd.snd.snd.fst) fun (v43 : Int) =>
     chk (decide (s'.snd.snd.snd.snd.snd.fst < (5 : Int)) = true → decide (s'.snd.snd.snd.snd.snd.fst < (5 : Int)) = true) <|
     chk (decide (s'.snd.snd.snd.snd.snd.fst < (5 : Int)) = true → decide (s'.snd.snd.snd.snd.snd.fst < (5 : Int)) = true) <|
     chk (decide (s'.snd.snd.snd.snd.snd.fst < (5 : Int)) = true → decide (s'.snd.snd.snd.snd.snd.fst < (5 : Int)) = true) <|
     chk (decide (s'.snd.snd.snd.snd.snd.fst < (5 : Int)) = true → decide (s'.snd.snd.snd.snd.snd.fst < (5 : Int)) = true) <|
     ltO (decide (s'.snd.snd.snd.snd.snd.fst < (5 : Int)) && decide (v43 < (↑([y1.fst.getD y0.fst.fst.toNat [], y2.fst] ++ [y0.fst.snd.fst.snd.fst] ++ [y42.fst]).length : Int))) fun (v44 : Bool) =>
     cnd (v44) (
      chk ((0 : Int) ≤ s'.snd.snd.snd.snd.snd.fst ∧ s'.snd.snd.snd.snd.snd.fst < (↑([y1.fst.getD y0.fst.fst.toNat [], y2.fst] ++ [y0.fst.snd.fst.snd.fst] ++ [y42.fst]).length : Int)) <|
      chk (s'.snd.snd.snd.snd.snd.fst.toNat < ([y1.fst.getD y0.fst.fst.toNat [], y2.fst] ++ [y0.fst.snd.fst.snd.fst] ++ [y42.fst]).length) <|
      ltO (s'.snd.snd.snd.snd.snd.fst == (5 : Int)) fun (v45 : Bool) =>
      cnd (v45) (
       ltO (IntKind.i64.wrap ((↑(([y1.fst.getD y0.fst.fst.toNat [], y2.fst] ++ [y0.fst.snd.fst.snd.fst] ++ [y42.fst]).set s'.snd.snd.snd.snd.snd.fst.toNat s'.snd.snd.snd.snd.snd.snd).length : Int) - (1 : Int))) fun (v46 : Int) =>
       chk ((0 : Int) ≤ (0 : Int) ∧ (0 : Int) ≤ v46 ∧ v46 ≤ (↑(([y1.fst.getD y0.fst.fst.toNat [], y2.fst] ++ [y0.fst.snd.fst.snd.fst] ++ [y42.fst]).set s'.snd.snd.snd.snd.snd.fst.toNat s'.snd.snd.snd.snd.snd.snd).length : Int)) <|
       ltO (s'.snd.snd.snd.snd.snd.fst == (6 : Int)) fun (v47 : Bool) =>
       cnd (v47) (
        chk ((0 : Nat) = (0 : Nat) ∧ v46.toNat - (0 : Nat) = (([y1.fst.getD y0.fst.fst.toNat [], y2.fst] ++ [y0.fst.snd.fst.snd.fst] ++ [y42.fst]).set s'.snd.snd.snd.snd.snd.fst.toNat s'.snd.snd.snd.snd.snd.snd).length ∧ room (16 : Nat) ((([y1.fst.getD y0.fst.fst.toNat [], y2.fst] ++ [y0.fst.snd.fst.snd.fst] ++ [y42.fst]).set s'.snd.snd.snd.snd.snd.fst.toNat s'.snd.snd.snd.snd.snd.snd).length + [s'.snd.snd.snd.snd.snd.snd].length)) <|
        some (([y1.fst.getD y0.fst.fst.toNat [], y2.fst] ++ [y0.fst.snd.fst.snd.fst] ++ [y42.fst]).set s'.snd.snd.snd.snd.snd.fst.toNat s'.snd.snd.snd.snd.snd.snd ++ [s'.snd.snd.snd.snd.snd.snd], ())) (
        chk ((0 : Nat) + (v46.toNat - (0 : Nat)) ≤ (([y1.fst.getD y0.fst.fst.toNat [], y2.fst] ++ [y0.fst.snd.fst.snd.fst] ++ [y42.fst]).set s'.snd.snd.snd.snd.snd.fst.toNat s'.snd.snd.snd.snd.snd.snd).length) <|
        some (sliceA (0 : Nat) ((0 : Nat) + (v46.toNat - (0 : Nat))) (([y1.fst.getD y0.fst.fst.toNat [], y2.fst] ++ [y0.fst.snd.fst.snd.fst] ++ [y42.fst]).set s'.snd.snd.snd.snd.snd.fst.toNat s'.snd.snd.snd.snd.snd.snd), ()))) (
       ltO (s'.snd.snd.snd.snd.snd.fst == (6 : Int)) fun (v48 : Bool) =>
       cnd (v48) (
        chk (room (16 : Nat) ((([y1.fst.getD y0.fst.fst.toNat [], y2.fst] ++ [y0.fst.snd.fst.snd.fst] ++ [y42.fst]).set s'.snd.snd.snd.snd.snd.fst.toNat s'.snd.snd.snd.snd.snd.snd).length + [s'.snd.snd.snd.snd.snd.snd].length)) <|
        some (([y1.fst.getD y0.fst.fst.toNat [], y2.fst] ++ [y0.fst.snd.fst.snd.fst] ++ [y42.fst]).set s'.snd.snd.snd.snd.snd.fst.toNat s'.snd.snd.snd.snd.snd.snd ++ [s'.snd.snd.snd.snd.snd.snd], ())) (
        some (([y1.fst.getD y0.fst.fst.toNat [], y2.fst] ++ [y0.fst.snd.fst.snd.fst] ++ [y42.fst]).set s'.snd.snd.snd.snd.snd.fst.toNat s'.snd.snd.snd.snd.snd.snd, ())))) (
      ltO (s'.snd.snd.snd.snd.snd.fst == (5 : Int)) fun (v49 : Bool) =>
      cnd (v49) (
       ltO (IntKind.i64.wrap ((↑([y1.fst.getD y0.fst.fst.toNat [], y2.fst] ++ [y0.fst.snd.fst.snd.fst] ++ [y42.fst]).length : Int) - (1 : Int))) fun (v50 : Int) =>
       chk ((0 : Int) ≤ (0 : Int) ∧ (0 : Int) ≤ v50 ∧ v50 ≤ (↑([y1.fst.getD y0.fst.fst.toNat [], y2.fst] ++ [y0.fst.snd.fst.snd.fst] ++ [y42.fst]).length : Int)) <|
       ltO (s'.snd.snd.snd.snd.snd.fst == (6 : Int)) fun (v51 : Bool) =>
       cnd (v51) (
        chk ((0 : Nat) = (0 : Nat) ∧ v50.toNat - (0 : Nat) = ([y1.fst.getD y0.fst.fst.toNat [], y2.fst] ++ [y0.fst.snd.fst.snd.fst] ++ [y42.fst]).length ∧ room (16 : Nat) (([y1.fst.getD y0.fst.fst.toNat [], y2.fst] ++ [y0.fst.snd.fst.snd.fst] ++ [y42.fst]).length + [s'.snd.snd.snd.snd.snd.snd].length)) <|
        some ([y1.fst.getD y0.fst.fst.toNat [], y2.fst] ++ [y0.fst.snd.fst.snd.fst] ++ [y42.fst] ++ [s'.snd.snd.snd.snd.snd.snd], ())) (
        chk ((0 : Nat) + (v50.toNat - (0 : Nat)) ≤ ([y1.fst.getD y0.fst.fst.toNat [], y2.fst] ++ [y0.fst.snd.fst.snd.fst] ++ [y42.fst]).length) <|
        some (sliceA (0 : Nat) ((0 : Nat) + (v50.toNat - (0 : Nat))) ([y1.fst.getD y0.fst.fst.toNat [], y2.fst] ++ [y0.fst.snd.fst.snd.fst] ++ [y42.fst]), ()))) (
       ltO (s'.snd.snd.snd.snd.snd.fst == (6 : Int)) fun (v52 : Bool) =>
       cnd (v52) (
        chk (room (16 : Nat) (([y1.fst.getD y0.fst.fst.toNat [], y2.fst] ++ [y0.fst.snd.fst.snd.fst] ++ [y42.fst]).length + [s'.snd.snd.snd.snd.snd.snd].length)) <|
        some ([y1.fst.getD y0.fst.fst.toNat [], y2.fst] ++ [y0.fst.snd.fst.snd.fst] ++ [y42.fst] ++ [s'.snd.snd.snd.snd.snd.snd], ())) (
        some ([y1.fst.getD y0.fst.fst.toNat [], y2.fst] ++ [y0.fst.snd.fst.snd.fst] ++ [y42.fst], ()))))) (
     chk (decide (s'.snd.snd.snd.snd.snd.fst < (5 : Int)) = true → decide (s'.snd.snd.snd.snd.snd.fst < (5 : Int)) = true) <|
     chk (decide (s'.snd.snd.snd.snd.snd.fst < (5 : Int)) = true → decide (s'.snd.snd.snd.snd.snd.fst < (5 : Int)) = true) <|
     ltO (IntKind.i64.wrap s'.snd.snd.snd.snd.snd.fst) fun (v53 : Int) =>
     chk (decide (s'.snd.snd.snd.snd.snd.fst < (5 : Int)) = true → decide (s'.snd.snd.snd.snd.snd.fst < (5 : Int)) = true) <|
     chk (decide (s'.snd.snd.snd.snd.snd.fst < (5 : Int)) = true → decide (s'.snd.snd.snd.snd.snd.fst < (5 : Int)) = true) <|
     chk (decide (s'.snd.snd.snd.snd.snd.fst < (5 : Int)) = true → decide (s'.snd.snd.snd.snd.snd.fst < (5 : Int)) = true) <|
     chk (decide (s'.snd.snd.snd.snd.snd.fst < (5 : Int)) = true → decide (s'.snd.snd.snd.snd.snd.fst < (5 : Int)) = true) <|
     ltO (decide (s'.snd.snd.snd.snd.snd.fst < (5 : Int)) && decide (v53 < (↑([y1.fst.getD y0.fst.fst.toNat [], y2.fst] ++ [y0.fst.snd.fst.snd.fst]).length : Int))) fun (v54 : Bool) =>
     cnd (v54) (
      chk ((0 : Int) ≤ s'.snd.snd.snd.snd.snd.fst ∧ s'.snd.snd.snd.snd.snd.fst < (↑([y1.fst.getD y0.fst.fst.toNat [], y2.fst] ++ [y0.fst.snd.fst.snd.fst]).length : Int)) <|
      chk (s'.snd.snd.snd.snd.snd.fst.toNat < ([y1.fst.getD y0.fst.fst.toNat [], y2.fst] ++ [y0.fst.snd.fst.snd.fst]).length) <|
      ltO (s'.snd.snd.snd.snd.snd.fst == (5 : Int)) fun (v55 : Bool) =>
      cnd (v55) (
       ltO (IntKind.i64.wrap ((↑(([y1.fst.getD y0.fst.fst.toNat [], y2.fst] ++ [y0.fst.snd.fst.snd.fst]).set s'.snd.snd.snd.snd.snd.fst.toNat s'.snd.snd.snd.snd.snd.snd).length : Int) - (1 : Int))) fun (v56 : Int) =>
       chk ((0 : Int) ≤ (0 : Int) ∧ (0 : Int) ≤ v56 ∧ v56 ≤ (↑(([y1.fst.getD y0.fst.fst.toNat [], y2.fst] ++ [y0.fst.snd.fst.snd.fst]).set s'.snd.snd.snd.snd.snd.fst.toNat s'.snd.snd.snd.snd.snd.snd).length : Int)) <|
       ltO (s'.snd.snd.snd.snd.snd.fst == (6 : Int)) fun (v57 : Bool) =>
       cnd (v57) (
        chk ((0 : Nat) = (0 : Nat) ∧ v56.toNat - (0 : Nat) = (([y1.fst.getD y0.fst.fst.toNat [], y2.fst] ++ [y0.fst.snd.fst.snd.fst]).set s'.snd.snd.snd.snd.snd.fst.toNat s'.snd.snd.snd.snd.snd.snd).length ∧ room (16 : Nat) ((([y1.fst.getD y0.fst.fst.toNat [], y2.fst] ++ [y0.fst.snd.fst.snd.fst]).set s'.snd.snd.snd.snd.snd.fst.toNat s'.snd.snd.snd.snd.snd.snd).length + [s'.snd.snd.snd.snd.snd.snd].length)) <|
        some (([y1.fst.getD y0.fst.fst.toNat [], y2.fst] ++ [y0.fst.snd.fst.snd.fst]).set s'.snd.snd.snd.snd.snd.fst.toNat s'.snd.snd.snd.snd.snd.snd ++ [s'.snd.snd.snd.snd.snd.snd], ())) (
        chk ((0 : Nat) + (v56.toNat - (0 : Nat)) ≤ (([y1.fst.getD y0.fst.fst.toNat [], y2.fst] ++ [y0.fst.snd.fst.snd.fst]).set s'.snd.snd.snd.snd.snd.fst.toNat s'.snd.snd.snd.snd.snd.snd).length) <|
        some (sliceA (0 : Nat) ((0 : Nat) + (v56.toNat - (0 : Nat))) (([y1.fst.getD y0.fst.fst.toNat [], y2.fst] ++ [y0.fst.snd.fst.snd.fst]).set s'.snd.snd.snd.snd.snd.fst.toNat s'.snd.snd.snd.snd.snd.snd), ()))) (
       ltO (s'.snd.snd.snd.snd.snd.fst == (6 : Int)) fun (v58 : Bool) =>
       cnd (v58) (
        chk (room (16 : Nat) ((([y1.fst.getD y0.fst.fst.toNat [], y2.fst] ++ [y0.fst.snd.fst.snd.fst]).set s'.snd.snd.snd.snd.snd.fst.toNat s'.snd.snd.snd.snd.snd.snd).length + [s'.snd.snd.snd.snd.snd.snd].length)) <|
        some (([y1.fst.getD y0.fst.fst.toNat [], y2.fst] ++ [y0.fst.snd.fst.snd.fst]).set s'.snd.snd.snd.snd.snd.fst.toNat s'.snd.snd.snd.snd.snd.snd ++ [s'.snd.snd.snd.snd.snd.snd], ())) (
        some (([y1.fst.getD y0.fst.fst.toNat [], y2.fst] ++ [y0.fst.snd.fst.snd.fst]).set s'.snd.snd.snd.snd.snd.fst.toNat s'.snd.snd.snd.snd.snd.snd, ())))) (
      ltO (s'.snd.snd.snd.snd.snd.fst == (5 : Int)) fun (v59 : Bool) =>
      cnd (v59) (
       ltO (IntKind.i64.wrap ((↑([y1.fst.getD y0.fst.fst.toNat [], y2.fst] ++ [y0.fst.snd.fst.snd.fst]).length : Int) - (1 : Int))) fun (v60 : Int) =>
       chk ((0 : Int) ≤ (0 : Int) ∧ (0 : Int) ≤ v60 ∧ v60 ≤ (↑([y1.fst.getD y0.fst.fst.toNat [], y2.fst] ++ [y0.fst.snd.fst.snd.fst]).length : Int)) <|
       ltO (s'.snd.snd.snd.snd.snd.fst == (6 : Int)) fun (v61 : Bool) =>
       cnd (v61) (
        chk ((0 : Nat) = (0 : Nat) ∧ v60.toNat - (0 : Nat) = ([y1.fst.getD y0.fst.fst.toNat [], y2.fst] ++ [y0.fst.snd.fst.snd.fst]).length ∧ room (16 : Nat) (([y1.fst.getD y0.fst.fst.toNat [], y2.fst] ++ [y0.fst.snd.fst.snd.fst]).length + [s'.snd.snd.snd.snd.snd.snd].length)) <|
        some ([y1.fst.getD y0.fst.fst.toNat [], y2.fst] ++ [y0.fst.snd.fst.snd.fst] ++ [s'.snd.snd.snd.snd.snd.snd], ())) (
        chk ((0 : Nat) + (v60.toNat - (0 : Nat)) ≤ ([y1.fst.getD y0.fst.fst.toNat [], y2.fst] ++ [y0.fst.snd.fst.snd.fst]).length) <|
        some (sliceA (0 : Nat) ((0 : Nat) + (v60.toNat - (0 : Nat))) ([y1.fst.getD y0.fst.fst.toNat [], y2.fst] ++ [y0.fst.snd.fst.snd.fst]), ()))) (
       ltO (s'.snd.snd.snd.snd.snd.fst == (6 : Int)) fun (v62 : Bool) =>
       cnd (v62) (
        chk (room (16 : Nat) (([y1.fst.getD y0.fst.fst.toNat [], y2.fst] ++ [y0.fst.snd.fst.snd.fst]).length + [s'.snd.snd.snd.snd.snd.snd].length)) <|
        some ([y1.fst.getD y0.fst.fst.toNat [], y2.fst] ++ [y0.fst.snd.fst.snd.fst] ++ [s'.snd.snd.snd.snd.snd.snd], ())) (
        some ([y1.fst.getD y0.fst.fst.toNat [], y2.fst] ++ [y0.fst.snd.fst.snd.fst], ())))))) (
    chk (decide (s'.snd.snd.snd.snd.snd.fst < (5 : Int)) = true → decide (s'.snd.snd.snd.snd.snd.fst < (5 : Int)) = true) <|
    chk (decide (s'.snd.snd.snd.snd.snd.fst < (5 : Int)) = true → decide (s'.snd.snd.snd.snd.snd.fst < (5 : Int)) = true) <|
    ltO (IntKind.i64.wrap s'.snd.snd.snd.snd.snd.fst) fun (v63 : Int) =>
    chk (decide (s'.snd.snd.snd.snd.snd.fst < (5 : Int)) = true → decide (s'.snd.snd.snd.snd.snd.fst < (5 : Int)) = true) <|
    chk (decide (s'.snd.snd.snd.snd.snd.fst < (5 : Int)) = true → decide (s'.snd.snd.snd.snd.snd.fst < (5 : Int)) = true) <|
    chk (decide (s'.snd.snd.snd.snd.snd.fst < (5 : Int)) = true → decide (s'.snd.snd.snd.snd.snd.fst < (5 : Int)) = true) <|
    chk (decide (s'.snd.snd.snd.snd.snd.fst < (5 : Int)) = true → decide (s'.snd.snd.snd.snd.snd.fst < (5 : Int)) = true) <|
    ltO (decide (s'.snd.snd.snd.snd.snd.fst < (5 : Int)) && decide (v63 < (↑[y1.fst.getD y0.fst.fst.toNat [], y2.fst].length : Int))) fun (v64 : Bool) =>
    cnd (v64) (
     chk ((0 : Int) ≤ s'.snd.snd.snd.snd.snd.fst ∧ s'.snd.snd.snd.snd.snd.fst < (↑[y1.fst.getD y0.fst.fst.toNat [], y2.fst].length : Int)) <|
     chk (s'.snd.snd.snd.snd.snd.fst.toNat < [y1.fst.getD y0.fst.fst.toNat [], y2.fst].length) <|
     ltO (s'.snd.snd.snd.snd.snd.fst == (5 : Int)) fun (v65 : Bool) =>
     cnd (v65) (
      ltO (IntKind.i64.wrap ((↑([y1.fst.getD y0.fst.fst.toNat [], y2.fst].set s'.snd.snd.snd.snd.snd.fst.toNat s'.snd.snd.snd.snd.snd.snd).length : Int) - (1 : Int))) fun (v66 : Int) =>
      chk ((0 : Int) ≤ (0 : Int) ∧ (0 : Int) ≤ v66 ∧ v66 ≤ (↑([y1.fst.getD y0.fst.fst.toNat [], y2.fst].set s'.snd.snd.snd.snd.snd.fst.toNat s'.snd.snd.snd.snd.snd.snd).length : Int)) <|
      ltO (s'.snd.snd.snd.snd.snd.fst == (6 : Int)) fun (v67 : Bool) =>
      cnd (v67) (
       chk ((0 : Nat) = (0 : Nat) ∧ v66.toNat - (0 : Nat) = ([y1.fst.getD y0.fst.fst.toNat [], y2.fst].set s'.snd.snd.snd.snd.snd.fst.toNat s'.snd.snd.snd.snd.snd.snd).length ∧ room (16 : Nat) (([y1.fst.getD y0.fst.fst.toNat [], y2.fst].set s'.snd.snd.snd.snd.snd.fst.toNat s'.snd.snd.snd.snd.snd.snd).length + [s'.snd.snd.snd.snd.snd.snd].length)) <|
       some ([y1.fst.getD y0.fst.fst.toNat [], y2.fst].set s'.snd.snd.snd.snd.snd.fst.toNat s'.snd.snd.snd.snd.snd.snd ++ [s'.snd.snd.snd.snd.snd.snd], ())) (
       chk ((0 : Nat) + (v66.toNat - (0 : Nat)) ≤ ([y1.fst.getD y0.fst.fst.toNat [], y2.fst].set s'.snd.snd.snd.snd.snd.fst.toNat s'.snd.snd.snd.snd.snd.snd).length) <|
       some (sliceA (0 : Nat) ((0 : Nat) + (v66.toNat - (0 : Nat))) ([y1.fst.getD y0.fst.fst.toNat [], y2.fst].set s'.snd.snd.snd.snd.snd.fst.toNat s'.snd.snd.snd.snd.snd.snd), ()))) (
      ltO (s'.snd.snd.snd.snd.snd.fst == (6 : Int)) fun (v68 : Bool) =>
      cnd (v68) (
       chk (room (16 : Nat) (([y1.fst.getD y0.fst.fst.toNat [], y2.fst].set s'.snd.snd.snd.snd.snd.fst.toNat s'.snd.snd.snd.snd.snd.snd).length + [s'.snd.snd.snd.snd.snd.snd].length)) <|
       some ([y1.fst.getD y0.fst.fst.toNat [], y2.fst].set s'.snd.snd.snd.snd.snd.fst.toNat s'.snd.snd.snd.snd.snd.snd ++ [s'.snd.snd.snd.snd.snd.snd], ())) (
       some ([y1.fst.getD y0.fst.fst.toNat [], y2.fst].set s'.snd.snd.snd.snd.snd.fst.toNat s'.snd.snd.snd.snd.snd.snd, ())))) (
     ltO (s'.snd.snd.snd.snd.snd.fst == (5 : Int)) fun (v69 : Bool) =>
     cnd (v69) (
      ltO (IntKind.i64.wrap ((↑[y1.fst.getD y0.fst.fst.toNat [], y2.fst].length : Int) - (1 : Int))) fun (v70 : Int) =>
      chk ((0 : Int) ≤ (0 : Int) ∧ (0 : Int) ≤ v70 ∧ v70 ≤ (↑[y1.fst.getD y0.fst.fst.toNat [], y2.fst].length : Int)) <|
      ltO (s'.snd.snd.snd.snd.snd.fst == (6 : Int)) fun (v71 : Bool) =>
      cnd (v71) (
       chk ((0 : Nat) = (0 : Nat) ∧ v70.toNat - (0 : Nat) = [y1.fst.getD y0.fst.fst.toNat [], y2.fst].length ∧ room (16 : Nat) ([y1.fst.getD y0.fst.fst.toNat [], y2.fst].length + [s'.snd.snd.snd.snd.snd.snd].length)) <|
       some ([y1.fst.getD y0.fst.fst.toNat [], y2.fst] ++ [s'.snd.snd.snd.snd.snd.snd], ())) (
       chk ((0 : Nat) + (v70.toNat - (0 : Nat)) ≤ [y1.fst.getD y0.fst.fst.toNat [], y2.fst].length) <|
       some (sliceA (0 : Nat) ((0 : Nat) + (v70.toNat - (0 : Nat))) [y1.fst.getD y0.fst.fst.toNat [], y2.fst], ()))) (
      ltO (s'.snd.snd.snd.snd.snd.fst == (6 : Int)) fun (v72 : Bool) =>
      cnd (v72) (
       chk (room (16 : Nat) ([y1.fst.getD y0.fst.fst.toNat [], y2.fst].length + [s'.snd.snd.snd.snd.snd.snd].length)) <|
       some ([y1.fst.getD y0.fst.fst.toNat [], y2.fst] ++ [s'.snd.snd.snd.snd.snd.snd], ())) (
       some ([y1.fst.getD y0.fst.fst.toNat [], y2.fst], ()))))))
noncomputable def terrierlaw17_line_b0 (s' : List UInt8) (t6 : List (List UInt8)) (t7 : Int) (t8 : Int) : Option (((List UInt8) × (List (List UInt8)) × Int × Int × Unit) ⊕ (((List UInt8) × Unit) ⊕ ((List UInt8) × Unit))) :=
  cnd (decide (t8 < t7)) (
   chk ((0 : Int) ≤ t8 ∧ t8 < (↑t6.length : Int)) <|
   ltO (t6.getD t8.toNat []) fun (v0 : List UInt8) =>
   cnd (decide (t8 > (0 : Int))) (
    chk ((↑(s'.length + (1 : Nat)) : Int) ≤ (9223372036854775807 : Int)) <|
    ltO (s' ++ [(32 : UInt8)]) fun (v1 : List UInt8) =>
    chk ((↑(v1.length + List.length v0) : Int) ≤ (9223372036854775807 : Int)) <|
    ltO (v1 ++ v0) fun (v2 : List UInt8) =>
    ltO (IntKind.i64.wrap (t8 + (1 : Int))) fun (v3 : Int) =>
    some (.inl (v2, t6, t7, v3, ()))) (
    chk ((↑(s'.length + List.length v0) : Int) ≤ (9223372036854775807 : Int)) <|
    ltO (s' ++ v0) fun (v4 : List UInt8) =>
    ltO (IntKind.i64.wrap (t8 + (1 : Int))) fun (v5 : Int) =>
    some (.inl (v4, t6, t7, v5, ())))) (
   some (.inr (.inl (s', ()))))
noncomputable def terrierlaw17_line_l0 (s : (List UInt8) × (List (List UInt8)) × Int × Int × Unit) : Option (((List UInt8) × Unit) ⊕ ((List UInt8) × Unit)) := loopM (fun s : (List UInt8) × (List (List UInt8)) × Int × Int × Unit => terrierlaw17_line_b0 s.1 s.2.1 s.2.2.1 s.2.2.2.1) s
noncomputable def terrierlaw17_line (l : List (List UInt8)) : Option ((List UInt8) × Unit) :=
  bnd (terrierlaw17_line_l0 ([], l, (↑l.length : Int), (0 : Int), ())) fun y6 =>
  sumO y6 (fun t7 =>
   some (t7.fst, ())) (fun r8 =>
   some (r8))
noncomputable def terrierlaw17_cut_b0 (s' : List UInt8) (k : Int) (out : List (List UInt8)) : Option (((List UInt8) × Int × (List (List UInt8)) × Unit) ⊕ (((List (List UInt8)) × Unit) ⊕ ((List (List UInt8)) × Unit))) :=
  cnd (decide (k < (↑s'.length : Int))) (
   chk ((0 : Int) ≤ k ∧ k < (↑s'.length : Int)) <|
   ltO ((↑(s'.getD k.toNat (0 : UInt8)).toNat : Int)) fun (v0 : Int) =>
   ltO (v0 == (32 : Int)) fun (v1 : Bool) =>
   cnd (v1) (
    chk (room (16 : Nat) (out.length + (1 : Nat))) <|
    ltO (IntKind.i64.wrap (k + (1 : Int))) fun (v2 : Int) =>
    some (.inl (s', v2, out ++ [[]], ()))) (
    ltO (IntKind.i64.wrap ((↑out.length : Int) - (1 : Int))) fun (v3 : Int) =>
    ltO (IntKind.i64.wrap ((↑out.length : Int) - (1 : Int))) fun (v4 : Int) =>
    chk ((0 : Int) ≤ v4 ∧ v4 < (↑out.length : Int)) <|
    chk (v4.toNat < out.length) <|
    ltO (IntKind.i64.wrap (k + (1 : Int))) fun (v5 : Int) =>
    chk ((0 : Int) ≤ k ∧ k ≤ v5 ∧ v5 ≤ (↑s'.length : Int)) <|
    chk ((↑((out.getD v4.toNat []).length + (sliceA k.toNat v5.toNat s').length) : Int) ≤ (9223372036854775807 : Int)) <|
    ltO (out.getD v4.toNat [] ++ sliceA k.toNat v5.toNat s') fun (v6 : List UInt8) =>
    chk ((0 : Int) ≤ v3 ∧ v3 < (↑out.length : Int)) <|
    chk (v3.toNat < out.length) <|
    ltO (IntKind.i64.wrap (k + (1 : Int))) fun (v7 : Int) =>
    some (.inl (s', v7, out.set v3.toNat v6, ())))) (
   some (.inr (.inl (out, ()))))
noncomputable def terrierlaw17_cut_l0 (s : (List UInt8) × Int × (List (List UInt8)) × Unit) : Option (((List (List UInt8)) × Unit) ⊕ ((List (List UInt8)) × Unit)) := loopM (fun s : (List UInt8) × Int × (List (List UInt8)) × Unit => terrierlaw17_cut_b0 s.1 s.2.1 s.2.2.1) s
noncomputable def terrierlaw17_cut (s' : List UInt8) : Option ((List (List UInt8)) × Unit) :=
  bnd (terrierlaw17_cut_l0 (s', (0 : Int), [[]], ())) fun y8 =>
  sumO y8 (fun t9 =>
   some (t9.fst, ())) (fun r10 =>
   some (r10))
noncomputable def terrierlaw17_parse_b0 (t25 : Int) (t26 : Int) (x_0 : Int) (x_1 : Int) (x_2 : List UInt8) (x_3 : Int) (x_4 : Int) (x_5 : Int) (x_6 : Int) (x_7 : Int) (x_8 : Int) (x_9 : Int) (x_10 : Int) (x_11 : Int) (x_12 : Int) (x_13 : Int) (x_14 : Int) (x_15 : Int) (x_16 : Int) (x_17 : Int) (x_18 : Int) (f : List (List UInt8)) (e_0 : Int) (e_1 : Int) (e_2 : List UInt8) (e_3 : Int) (e_4 : Int) (e_5 : Int) (e_6 : Int) (e_7 : Int) (e_8 : Int) (e_9 : Int) (e_10 : Int) (e_11 : Int) (e_12 : Int) (e_13 : Int) (e_14 : Int) (e_15 : Int) (e_16 : Int) (e_17 : Int) (e_18 : Int) (x : List (List UInt8)) : Option ((Int × Int × Int × Int × (List UInt8) × Int × Int × Int × Int × Int × Int × Int × Int × Int × Int × Int × Int × Int × Int × Int × Int × (List (List UInt8)) × Int × Int × (List UInt8) × Int × Int × Int × Int × Int × Int × Int × Int × Int × Int × Int × Int × Int × Int × Int × Int × (List (List UInt8)) × Unit) ⊕ ((Int × Int × (List UInt8) × Int × Int × Int × Int × Int × Int × Int × Int × Int × Int × Int × Int × Int × Int × Int × Int × (List (List UInt8)) × Int × Int × (List UInt8) × Int × Int × Int × Int × Int × Int × Int × Int × Int × Int × Int × Int × Int × Int × Int × Int × Unit) ⊕ (TEv × Int × Int × Unit))) :=
  cnd (decide (t26 < t25)) (
   chk ((0 : Int) ≤ t26 ∧ t26 < (↑x.length : Int)) <|
   chk (t26.toNat < x.length) <|
   ltO (!x.getD t26.toNat [] == []) fun (v2 : Bool) =>
   chk (v2 = true → v2 = true) <|
   chk (v2 = true → (0 : Int) ≤ (0 : Int) ∧ (0 : Int) < (↑f.length : Int)) <|
   chk (v2 = true → v2 = true) <|
   chk (v2 = true → (0 : Nat) < f.length) <|
   chk (v2 = true → v2 = true) <|
   chk (v2 = true → v2 = true) <|
   ltO (x.getD t26.toNat [] == f.getD (0 : Nat) []) fun (v3 : Bool) =>
   chk (v2 = true → v2 = true) <|
   ltO (v2 && v3) fun (v4 : Bool) =>
   cnd (v4) (
    ltO (IntKind.i64.wrap (t26 + (1 : Int))) fun (v5 : Int) =>
    some (.inl (t25, v5, x_0, x_1, x_2, x_3, x_4, x_5, x_6, x_7, x_8, x_9, x_10, x_11, x_12, x_13, x_14, x_15, x_16, x_17, x_18, f, t26, e_1, e_2, e_3, e_4, e_5, e_6, e_7, e_8, e_9, e_10, e_11, e_12, e_13, e_14, e_15, e_16, e_17, e_18, x, ()))) (
    ltO (IntKind.i64.wrap (t26 + (1 : Int))) fun (v6 : Int) =>
    some (.inl (t25, v6, x_0, x_1, x_2, x_3, x_4, x_5, x_6, x_7, x_8, x_9, x_10, x_11, x_12, x_13, x_14, x_15, x_16, x_17, x_18, f, e_0, e_1, e_2, e_3, e_4, e_5, e_6, e_7, e_8, e_9, e_10, e_11, e_12, e_13, e_14, e_15, e_16, e_17, e_18, x, ())))) (
   some (.inr (.inl (x_0, x_1, x_2, x_3, x_4, x_5, x_6, x_7, x_8, x_9, x_10, x_11, x_12, x_13, x_14, x_15, x_16, x_17, x_18, f, e_0, e_1, e_2, e_3, e_4, e_5, e_6, e_7, e_8, e_9, e_10, e_11, e_12, e_13, e_14, e_15, e_16, e_17, e_18, ()))))
noncomputable def terrierlaw17_parse_l0 (s : Int × Int × Int × Int × (List UInt8) × Int × Int × Int × Int × Int × Int × Int × Int × Int × Int × Int × Int × Int × Int × Int × Int × (List (List UInt8)) × Int × Int × (List UInt8) × Int × Int × Int × Int × Int × Int × Int × Int × Int × Int × Int × Int × Int × Int × Int × Int × (List (List UInt8)) × Unit) : Option ((Int × Int × (List UInt8) × Int × Int × Int × Int × Int × Int × Int × Int × Int × Int × Int × Int × Int × Int × Int × Int × (List (List UInt8)) × Int × Int × (List UInt8) × Int × Int × Int × Int × Int × Int × Int × Int × Int × Int × Int × Int × Int × Int × Int × Int × Unit) ⊕ (TEv × Int × Int × Unit)) := loopM (fun s : Int × Int × Int × Int × (List UInt8) × Int × Int × Int × Int × Int × Int × Int × Int × Int × Int × Int × Int × Int × Int × Int × Int × (List (List UInt8)) × Int × Int × (List UInt8) × Int × Int × Int × Int × Int × Int × Int × Int × Int × Int × Int × Int × Int × Int × Int × Int × (List (List UInt8)) × Unit => terrierlaw17_parse_b0 s.1 s.2.1 s.2.2.1 s.2.2.2.1 s.2.2.2.2.1 s.2.2.2.2.2.1 s.2.2.2.2.2.2.1 s.2.2.2.2.2.2.2.1 s.2.2.2.2.2.2.2.2.1 s.2.2.2.2.2.2.2.2.2.1 s.2.2.2.2.2.2.2.2.2.2.1 s.2.2.2.2.2.2.2.2.2.2.2.1 s.2.2.2.2.2.2.2.2.2.2.2.2.1 s.2.2.2.2.2.2.2.2.2.2.2.2.2.1 s.2.2.2.2.2.2.2.2.2.2.2.2.2.2.1 s.2.2.2.2.2.2.2.2.2.2.2.2.2.2.2.1 s.2.2.2.2.2.2.2.2.2.2.2.2.2.2.2.2.1 s.2.2.2.2.2.2.2.2.2.2.2.2.2.2.2.2.2.1 s.2.2.2.2.2.2.2.2.2.2.2.2.2.2.2.2.2.2.1 s.2.2.2.2.2.2.2.2.2.2.2.2.2.2.2.2.2.2.2.1 s.2.2.2.2.2.2.2.2.2.2.2.2.2.2.2.2.2.2.2.2.1 s.2.2.2.2.2.2.2.2.2.2.2.2.2.2.2.2.2.2.2.2.2.1 s.2.2.2.2.2.2.2.2.2.2.2.2.2.2.2.2.2.2.2.2.2.2.1 s.2.2.2.2.2.2.2.2.2.2.2.2.2.2.2.2.2.2.2.2.2.2.2.1 s.2.2.2.2.2.2.2.2.2.2.2.2.2.2.2.2.2.2.2.2.2.2.2.2.1 s.2.2.2.2.2.2.2.2.2.2.2.2.2.2.2.2.2.2.2.2.2.2.2.2.2.1 s.2.2.2.2.2.2.2.2.2.2.2.2.2.2.2.2.2.2.2.2.2.2.2.2.2.2.1 s.2.2.2.2.2.2.2.2.2.2.2.2.2.2.2.2.2.2.2.2.2.2.2.2.2.2.2.1 s.2.2.2.2.2.2.2.2.2.2.2.2.2.2.2.2.2.2.2.2.2.2.2.2.2.2.2.2.1 s.2.2.2.2.2.2.2.2.2.2.2.2.2.2.2.2.2.2.2.2.2.2.2.2.2.2.2.2.2.1 s.2.2.2.2.2.2.2.2.2.2.2.2.2.2.2.2.2.2.2.2.2.2.2.2.2.2.2.2.2.2.1 s.2.2.2.2.2.2.2.2.2.2.2.2.2.2.2.2.2.2.2.2.2.2.2.2.2.2.2.2.2.2.2.1 s.2.2.2.2.2.2.2.2.2.2.2.2.2.2.2.2.2.2.2.2.2.2.2.2.2.2.2.2.2.2.2.2.1 s.2.2.2.2.2.2.2.2.2.2.2.2.2.2.2.2.2.2.2.2.2.2.2.2.2.2.2.2.2.2.2.2.2.1 s.2.2.2.2.2.2.2.2.2.2.2.2.2.2.2.2.2.2.2.2.2.2.2.2.2.2.2.2.2.2.2.2.2.2.1 s.2.2.2.2.2.2.2.2.2.2.2.2.2.2.2.2.2.2.2.2.2.2.2.2.2.2.2.2.2.2.2.2.2.2.2.1 s.2.2.2.2.2.2.2.2.2.2.2.2.2.2.2.2.2.2.2.2.2.2.2.2.2.2.2.2.2.2.2.2.2.2.2.2.1 s.2.2.2.2.2.2.2.2.2.2.2.2.2.2.2.2.2.2.2.2.2.2.2.2.2.2.2.2.2.2.2.2.2.2.2.2.2.1 s.2.2.2.2.2.2.2.2.2.2.2.2.2.2.2.2.2.2.2.2.2.2.2.2.2.2.2.2.2.2.2.2.2.2.2.2.2.2.1 s.2.2.2.2.2.2.2.2.2.2.2.2.2.2.2.2.2.2.2.2.2.2.2.2.2.2.2.2.2.2.2.2.2.2.2.2.2.2.2.1 s.2.2.2.2.2.2.2.2.2.2.2.2.2.2.2.2.2.2.2.2.2.2.2.2.2.2.2.2.2.2.2.2.2.2.2.2.2.2.2.2.1 s.2.2.2.2.2.2.2.2.2.2.2.2.2.2.2.2.2.2.2.2.2.2.2.2.2.2.2.2.2.2.2.2.2.2.2.2.2.2.2.2.2.1) s
noncomputable def terrierlaw17_parse (s' : List UInt8) : Option (TEv × Int × Int × Unit) :=
  cnd (decide ((↑s'.length : Int) > (200 : Int))) (
   some (zEv, (-1 : Int), (3 : Int), ())) (
   bnd (terrierlaw17_cut (s')) fun y0 =>
   bnd (terrierlaw17_words) fun y1 =>
   bnd (terrierlaw17_parse_l0 ((↑y1.fst.length : Int), (0 : Int), (0 : Int), (0 : Int), [], (0 : Int), (0 : Int), (0 : Int), (0 : Int), (0 : Int), (0 : Int), (0 : Int), (0 : Int), (0 : Int), (0 : Int), (0 : Int), (0 : Int), (0 : Int), (0 : Int), (0 : Int), (0 : Int), y0.fst, (0 : Int), (0 : Int), [], (0 : Int), (0 : Int), (0 : Int), (0 : Int), (0 : Int), (0 : Int), (0 : Int), (0 : Int), (0 : Int), (0 : Int), (0 : Int), (0 : Int), (0 : Int), (0 : Int), (0 : Int), (0 : Int), y1.fst, ())) fun y7 =>
   sumO y7 (fun t8 =>
    ltO (t8.snd.snd.snd.snd.snd.snd.snd.snd.snd.snd.snd.snd.snd.snd.snd.snd.snd.snd.snd.snd.fst == (0 : Int)) fun (v10 : Bool) =>
    cnd (v10) (
     some (zEv, (0 : Int), (1 : Int), ())) (
     ltO (t8.snd.snd.snd.snd.snd.snd.snd.snd.snd.snd.snd.snd.snd.snd.snd.snd.snd.snd.snd.snd.fst == (1 : Int)) fun (v11 : Bool) =>
     cnd (v11) (
      cnd (decide ((↑t8.snd.snd.snd.snd.snd.snd.snd.snd.snd.snd.snd.snd.snd.snd.snd.snd.snd.snd.snd.fst.length : Int) < (3 : Int))) (
       some (zEv, (↑t8.snd.snd.snd.snd.snd.snd.snd.snd.snd.snd.snd.snd.snd.snd.snd.snd.snd.snd.snd.fst.length : Int), (1 : Int), ())) (
       cnd (decide ((↑t8.snd.snd.snd.snd.snd.snd.snd.snd.snd.snd.snd.snd.snd.snd.snd.snd.snd.snd.snd.fst.length : Int) > (4 : Int))) (
        some (zEv, (4 : Int), (1 : Int), ())) (
        ltO (t8.snd.snd.snd.snd.snd.snd.snd.snd.snd.snd.snd.snd.snd.snd.snd.snd.snd.snd.snd.snd.fst == (3 : Int)) fun (v12 : Bool) =>
        chk ((!v12) = true → (!v12) = true) <|
        chk ((!v12) = true → (!v12) = true) <|
        ltO (t8.snd.snd.snd.snd.snd.snd.snd.snd.snd.snd.snd.snd.snd.snd.snd.snd.snd.snd.snd.snd.fst == (4 : Int)) fun (v13 : Bool) =>
        chk (v12 = false → (!v12) = true) <|
        ltO (v12 || v13) fun (v14 : Bool) =>
        cnd (v14) (
         chk ((0 : Int) ≤ (1 : Int) ∧ (1 : Int) < (↑t8.snd.snd.snd.snd.snd.snd.snd.snd.snd.snd.snd.snd.snd.snd.snd.snd.snd.snd.snd.fst.length : Int)) <|
         chk ((1 : Nat) < t8.snd.snd.snd.snd.snd.snd.snd.snd.snd.snd.snd.snd.snd.snd.snd.snd.snd.snd.snd.fst.length) <|
         bnd (addr_ParseBlock (t8.snd.snd.snd.snd.snd.snd.snd.snd.snd.snd.snd.snd.snd.snd.snd.snd.snd.snd.snd.fst.getD (1 : Nat) [])) fun y15 =>
         cnd (!y15.snd.fst) (
          some (zEv, (1 : Int), (1 : Int), ())) (
          some ((t8.snd.snd.snd.snd.snd.snd.snd.snd.snd.snd.snd.snd.snd.snd.snd.snd.snd.snd.snd.snd.fst, (t8.snd.snd.snd.snd.snd.snd.snd.snd.snd.snd.snd.snd.snd.snd.snd.snd.snd.snd.snd.snd.snd.fst, t8.snd.snd.snd.snd.snd.snd.snd.snd.snd.snd.snd.snd.snd.snd.snd.snd.snd.snd.snd.snd.snd.snd.fst, t8.snd.snd.snd.snd.snd.snd.snd.snd.snd.snd.snd.snd.snd.snd.snd.snd.snd.snd.snd.snd.snd.snd.snd.fst, t8.snd.snd.snd.snd.snd.snd.snd.snd.snd.snd.snd.snd.snd.snd.snd.snd.snd.snd.snd.snd.snd.snd.snd.snd.fst, t8.snd.snd.snd.snd.snd.snd.snd.snd.snd.snd.snd.snd.snd.snd.snd.snd.snd.snd.snd.snd.snd.snd.snd.snd.snd.fst, t8.snd.snd.snd.snd.snd.snd.snd.snd.snd.snd.snd.snd.snd.snd.snd.snd.snd.snd.snd.snd.snd.snd.snd.snd.snd.snd.fst, t8.snd.snd.snd.snd.snd.snd.snd.snd.snd.snd.snd.snd.snd.snd.snd.snd.snd.snd.snd.snd.snd.snd.snd.snd.snd.snd.snd.fst, t8.snd.snd.snd.snd.snd.snd.snd.snd.snd.snd.snd.snd.snd.snd.snd.snd.snd.snd.snd.snd.snd.snd.snd.snd.snd.snd.snd.snd.fst), y15.fst, t8.snd.snd.snd.snd.snd.snd.snd.snd.snd.snd.snd.snd.snd.snd.snd.snd.snd.snd.snd.snd.snd.snd.snd.snd.snd.snd.snd.snd.snd.snd.snd.fst, (t8.snd.snd.snd.snd.snd.snd.snd.snd.snd.snd.snd.snd.snd.snd.snd.snd.snd.snd.snd.snd.snd.snd.snd.snd.snd.snd.snd.snd.snd.snd.snd.snd.fst, t8.snd.snd.snd.snd.snd.snd.snd.snd.snd.snd.snd.snd.snd.snd.snd.snd.snd.snd.snd.snd.snd.snd.snd.snd.snd.snd.snd.snd.snd.snd.snd.snd.snd.fst, t8.snd.snd.snd.snd.snd.snd.snd.snd.snd.snd.snd.snd.snd.snd.snd.snd.snd.snd.snd.snd.snd.snd.snd.snd.snd.snd.snd.snd.snd.snd.snd.snd.snd.snd.fst, t8.snd.snd.snd.snd.snd.snd.snd.snd.snd.snd.snd.snd.snd.snd.snd.snd.snd.snd.snd.snd.snd.snd.snd.snd.snd.snd.snd.snd.snd.snd.snd.snd.snd.snd.snd.fst, t8.snd.snd.snd.snd.snd.snd.snd.snd.snd.snd.snd.snd.snd.snd.snd.snd.snd.snd.snd.snd.snd.snd.snd.snd.snd.snd.snd.snd.snd.snd.snd.snd.snd.snd.snd.snd.fst, t8.snd.snd.snd.snd.snd.snd.snd.snd.snd.snd.snd.snd.snd.snd.snd.snd.snd.snd.snd.snd.snd.snd.snd.snd.snd.snd.snd.snd.snd.snd.snd.snd.snd.snd.snd.snd.snd.fst), t8.snd.snd.snd.snd.snd.snd.snd.snd.snd.snd.snd.snd.snd.snd.snd.snd.snd.snd.snd.snd.snd.snd.snd.snd.snd.snd.snd.snd.snd.snd.snd.snd.snd.snd.snd.snd.snd.snd.fst), (0 : Int), (0 : Int), ()))) (
         chk ((0 : Int) ≤ (1 : Int) ∧ (1 : Int) < (↑t8.snd.snd.snd.snd.snd.snd.snd.snd.snd.snd.snd.snd.snd.snd.snd.snd.snd.snd.snd.fst.length : Int)) <|
         chk ((1 : Nat) < t8.snd.snd.snd.snd.snd.snd.snd.snd.snd.snd.snd.snd.snd.snd.snd.snd.snd.snd.snd.fst.length) <|
         bnd (addr_Parse (t8.snd.snd.snd.snd.snd.snd.snd.snd.snd.snd.snd.snd.snd.snd.snd.snd.snd.snd.snd.fst.getD (1 : Nat) [])) fun y16 =>
         cnd (!y16.snd.fst) (
          some (zEv, (1 : Int), (1 : Int), ())) (
          ltO (t8.snd.snd.snd.snd.snd.snd.snd.snd.snd.snd.snd.snd.snd.snd.snd.snd.snd.snd.snd.snd.fst != (1 : Int)) fun (v17 : Bool) =>
          cnd (v17) (
           some ((t8.snd.snd.snd.snd.snd.snd.snd.snd.snd.snd.snd.snd.snd.snd.snd.snd.snd.snd.snd.snd.fst, (y16.fst, t8.snd.snd.snd.snd.snd.snd.snd.snd.snd.snd.snd.snd.snd.snd.snd.snd.snd.snd.snd.snd.snd.snd.fst, t8.snd.snd.snd.snd.snd.snd.snd.snd.snd.snd.snd.snd.snd.snd.snd.snd.snd.snd.snd.snd.snd.snd.snd.fst, t8.snd.snd.snd.snd.snd.snd.snd.snd.snd.snd.snd.snd.snd.snd.snd.snd.snd.snd.snd.snd.snd.snd.snd.snd.fst, t8.snd.snd.snd.snd.snd.snd.snd.snd.snd.snd.snd.snd.snd.snd.snd.snd.snd.snd.snd.snd.snd.snd.snd.snd.snd.fst, t8.snd.snd.snd.snd.snd.snd.snd.snd.snd.snd.snd.snd.snd.snd.snd.snd.snd.snd.snd.snd.snd.snd.snd.snd.snd.snd.fst, t8.snd.snd.snd.snd.snd.snd.snd.snd.snd.snd.snd.snd.snd.snd.snd.snd.snd.snd.snd.snd.snd.snd.snd.snd.snd.snd.snd.fst, t8.snd.snd.snd.snd.snd.snd.snd.snd.snd.snd.snd.snd.snd.snd.snd.snd.snd.snd.snd.snd.snd.snd.snd.snd.snd.snd.snd.snd.fst), (t8.snd.snd.snd.snd.snd.snd.snd.snd.snd.snd.snd.snd.snd.snd.snd.snd.snd.snd.snd.snd.snd.snd.snd.snd.snd.snd.snd.snd.snd.fst, t8.snd.snd.snd.snd.snd.snd.snd.snd.snd.snd.snd.snd.snd.snd.snd.snd.snd.snd.snd.snd.snd.snd.snd.snd.snd.snd.snd.snd.snd.snd.fst), t8.snd.snd.snd.snd.snd.snd.snd.snd.snd.snd.snd.snd.snd.snd.snd.snd.snd.snd.snd.snd.snd.snd.snd.snd.snd.snd.snd.snd.snd.snd.snd.fst, (t8.snd.snd.snd.snd.snd.snd.snd.snd.snd.snd.snd.snd.snd.snd.snd.snd.snd.snd.snd.snd.snd.snd.snd.snd.snd.snd.snd.snd.snd.snd.snd.snd.fst, t8.snd.snd.snd.snd.snd.snd.snd.snd.snd.snd.snd.snd.snd.snd.snd.snd.snd.snd.snd.snd.snd.snd.snd.snd.snd.snd.snd.snd.snd.snd.snd.snd.snd.fst, t8.snd.snd.snd.snd.snd.snd.snd.snd.snd.snd.snd.snd.snd.snd.snd.snd.snd.snd.snd.snd.snd.snd.snd.snd.snd.snd.snd.snd.snd.snd.snd.snd.snd.snd.fst, t8.snd.snd.snd.snd.snd.snd.snd.snd.snd.snd.snd.snd.snd.snd.snd.snd.snd.snd.snd.snd.snd.snd.snd.snd.snd.snd.snd.snd.snd.snd.snd.snd.snd.snd.snd.fst, t8.snd.snd.snd.snd.snd.snd.snd.snd.snd.snd.snd.snd.snd.snd.snd.snd.snd.snd.snd.snd.snd.snd.snd.snd.snd.snd.snd.snd.snd.snd.snd.snd.snd.snd.snd.snd.fst, t8.snd.snd.snd.snd.snd.snd.snd.snd.snd.snd.snd.snd.snd.snd.snd.snd.snd.snd.snd.snd.snd.snd.snd.snd.snd.snd.snd.snd.snd.snd.snd.snd.snd.snd.snd.snd.snd.fst), t8.snd.snd.snd.snd.snd.snd.snd.snd.snd.snd.snd.snd.snd.snd.snd.snd.snd.snd.snd.snd.snd.snd.snd.snd.snd.snd.snd.snd.snd.snd.snd.snd.snd.snd.snd.snd.snd.snd.fst), (0 : Int), (0 : Int), ())) (
           chk ((0 : Int) ≤ (2 : Int) ∧ (2 : Int) < (↑t8.snd.snd.snd.snd.snd.snd.snd.snd.snd.snd.snd.snd.snd.snd.snd.snd.snd.snd.snd.fst.length : Int)) <|
           chk ((2 : Nat) < t8.snd.snd.snd.snd.snd.snd.snd.snd.snd.snd.snd.snd.snd.snd.snd.snd.snd.snd.snd.fst.length) <|
           bnd (held_May (t8.snd.snd.snd.snd.snd.snd.snd.snd.snd.snd.snd.snd.snd.snd.snd.snd.snd.snd.snd.fst.getD (2 : Nat) [])) fun y18 =>
           cnd (!y18.fst) (
            some (zEv, (2 : Int), (3 : Int), ())) (
            chk ((0 : Int) ≤ (2 : Int) ∧ (2 : Int) < (↑t8.snd.snd.snd.snd.snd.snd.snd.snd.snd.snd.snd.snd.snd.snd.snd.snd.snd.snd.snd.fst.length : Int)) <|
            chk ((2 : Nat) < t8.snd.snd.snd.snd.snd.snd.snd.snd.snd.snd.snd.snd.snd.snd.snd.snd.snd.snd.snd.fst.length) <|
            ltO ((↑t8.snd.snd.snd.snd.snd.snd.snd.snd.snd.snd.snd.snd.snd.snd.snd.snd.snd.snd.snd.fst.length : Int) == (4 : Int)) fun (v19 : Bool) =>
            cnd (v19) (
             chk ((0 : Int) ≤ (3 : Int) ∧ (3 : Int) < (↑t8.snd.snd.snd.snd.snd.snd.snd.snd.snd.snd.snd.snd.snd.snd.snd.snd.snd.snd.snd.fst.length : Int)) <|
             chk ((3 : Nat) < t8.snd.snd.snd.snd.snd.snd.snd.snd.snd.snd.snd.snd.snd.snd.snd.snd.snd.snd.snd.fst.length) <|
             bnd (mac_Parse (t8.snd.snd.snd.snd.snd.snd.snd.snd.snd.snd.snd.snd.snd.snd.snd.snd.snd.snd.snd.fst.getD (3 : Nat) [])) fun y20 =>
             chk ((!!y20.snd.fst) = true → (!!y20.snd.fst) = true) <|
             bndG (!!y20.snd.fst) (mac_None (y20.fst)) (false, ()) fun y21 =>
             chk ((!y20.snd.fst) = false → (!!y20.snd.fst) = true) <|
             ltO (!y20.snd.fst || y21.fst) fun (v22 : Bool) =>
             chk ((!v22) = true → (!v22) = true) <|
             bndG (!v22) (mac_Group (y20.fst)) (false, ()) fun y23 =>
             chk (v22 = false → (!v22) = true) <|
             ltO (v22 || y23.fst) fun (v24 : Bool) =>
             cnd (v24) (
              some (zEv, (3 : Int), (1 : Int), ())) (
              some ((t8.snd.snd.snd.snd.snd.snd.snd.snd.snd.snd.snd.snd.snd.snd.snd.snd.snd.snd.snd.snd.fst, (y16.fst, t8.snd.snd.snd.snd.snd.snd.snd.snd.snd.snd.snd.snd.snd.snd.snd.snd.snd.snd.snd.fst.getD (2 : Nat) [], y20.fst), (t8.snd.snd.snd.snd.snd.snd.snd.snd.snd.snd.snd.snd.snd.snd.snd.snd.snd.snd.snd.snd.snd.snd.snd.snd.snd.snd.snd.snd.snd.fst, t8.snd.snd.snd.snd.snd.snd.snd.snd.snd.snd.snd.snd.snd.snd.snd.snd.snd.snd.snd.snd.snd.snd.snd.snd.snd.snd.snd.snd.snd.snd.fst), t8.snd.snd.snd.snd.snd.snd.snd.snd.snd.snd.snd.snd.snd.snd.snd.snd.snd.snd.snd.snd.snd.snd.snd.snd.snd.snd.snd.snd.snd.snd.snd.fst, (t8.snd.snd.snd.snd.snd.snd.snd.snd.snd.snd.snd.snd.snd.snd.snd.snd.snd.snd.snd.snd.snd.snd.snd.snd.snd.snd.snd.snd.snd.snd.snd.snd.fst, t8.snd.snd.snd.snd.snd.snd.snd.snd.snd.snd.snd.snd.snd.snd.snd.snd.snd.snd.snd.snd.snd.snd.snd.snd.snd.snd.snd.snd.snd.snd.snd.snd.snd.fst, t8.snd.snd.snd.snd.snd.snd.snd.snd.snd.snd.snd.snd.snd.snd.snd.snd.snd.snd.snd.snd.snd.snd.snd.snd.snd.snd.snd.snd.snd.snd.snd.snd.snd.snd.fst, t8.snd.snd.snd.snd.snd.snd.snd.snd.snd.snd.snd.snd.snd.snd.snd.snd.snd.snd.snd.snd.snd.snd.snd.snd.snd.snd.snd.snd.snd.snd.snd.snd.snd.snd.snd.fst, t8.snd.snd.snd.snd.snd.snd.snd.snd.snd.snd.snd.snd.snd.snd.snd.snd.snd.snd.snd.snd.snd.snd.snd.snd.snd.snd.snd.snd.snd.snd.snd.snd.snd.snd.snd.snd.fst, t8.snd.snd.snd.snd.snd.snd.snd.snd.snd.snd.snd.snd.snd.snd.snd.snd.snd.snd.snd.snd.snd.snd.snd.snd.snd.snd.snd.snd.snd.snd.snd.snd.snd.snd.snd.snd.snd.fst), t8.snd.snd.snd.snd.snd.snd.snd.snd.snd.snd.snd.snd.snd.snd.snd.snd.snd.snd.snd.snd.snd.snd.snd.snd.snd.snd.snd.snd.snd.snd.snd.snd.snd.snd.snd.snd.snd.snd.fst), (0 : Int), (0 : Int), ()))) (
             some ((t8.snd.snd.snd.snd.snd.snd.snd.snd.snd.snd.snd.snd.snd.snd.snd.snd.snd.snd.snd.snd.fst, (y16.fst, t8.snd.snd.snd.snd.snd.snd.snd.snd.snd.snd.snd.snd.snd.snd.snd.snd.snd.snd.snd.fst.getD (2 : Nat) [], t8.snd.snd.snd.snd.snd.snd.snd.snd.snd.snd.snd.snd.snd.snd.snd.snd.snd.snd.snd.snd.snd.snd.snd.fst, t8.snd.snd.snd.snd.snd.snd.snd.snd.snd.snd.snd.snd.snd.snd.snd.snd.snd.snd.snd.snd.snd.snd.snd.snd.fst, t8.snd.snd.snd.snd.snd.snd.snd.snd.snd.snd.snd.snd.snd.snd.snd.snd.snd.snd.snd.snd.snd.snd.snd.snd.snd.fst, t8.snd.snd.snd.snd.snd.snd.snd.snd.snd.snd.snd.snd.snd.snd.snd.snd.snd.snd.snd.snd.snd.snd.snd.snd.snd.snd.fst, t8.snd.snd.snd.snd.snd.snd.snd.snd.snd.snd.snd.snd.snd.snd.snd.snd.snd.snd.snd.snd.snd.snd.snd.snd.snd.snd.snd.fst, t8.snd.snd.snd.snd.snd.snd.snd.snd.snd.snd.snd.snd.snd.snd.snd.snd.snd.snd.snd.snd.snd.snd.snd.snd.snd.snd.snd.snd.fst), (t8.snd.snd.snd.snd.snd.snd.snd.snd.snd.snd.snd.snd.snd.snd.snd.snd.snd.snd.snd.snd.snd.snd.snd.snd.snd.snd.snd.snd.snd.fst, t8.snd.snd.snd.snd.snd.snd.snd.snd.snd.snd.snd.snd.snd.snd.snd.snd.snd.snd.snd.snd.snd.snd.snd.snd.snd.snd.snd.snd.snd.snd.fst), t8.snd.snd.snd.snd.snd.snd.snd.snd.snd.snd.snd.snd.snd.snd.snd.snd.snd.snd.snd.snd.snd.snd.snd.snd.snd.snd.snd.snd.snd.snd.snd.fst, (t8.snd.snd.snd.snd.snd.snd.snd.snd.snd.snd.snd.snd.snd.snd.snd.snd.snd.snd.snd.snd.snd.snd.snd.snd.snd.snd.snd.snd.snd.snd.snd.snd.fst, t8.snd.snd.snd.snd.snd.snd.snd.snd.snd.snd.snd.snd.snd.snd.snd.snd.snd.snd.snd.snd.snd.snd.snd.snd.snd.snd.snd.snd.snd.snd.snd.snd.snd.fst, t8.snd.snd.snd.snd.snd.snd.snd.snd.snd.snd.snd.snd.snd.snd.snd.snd.snd.snd.snd.snd.snd.snd.snd.snd.snd.snd.snd.snd.snd.snd.snd.snd.snd.snd.fst, t8.snd.snd.snd.snd.snd.snd.snd.snd.snd.snd.snd.snd.snd.snd.snd.snd.snd.snd.snd.snd.snd.snd.snd.snd.snd.snd.snd.snd.snd.snd.snd.snd.snd.snd.snd.fst, t8.snd.snd.snd.snd.snd.snd.snd.snd.snd.snd.snd.snd.snd.snd.snd.snd.snd.snd.snd.snd.snd.snd.snd.snd.snd.snd.snd.snd.snd.snd.snd.snd.snd.snd.snd.snd.fst, t8.snd.snd.snd.snd.snd.snd.snd.snd.snd.snd.snd.snd.snd.snd.snd.snd.snd.snd.snd.snd.snd.snd.snd.snd.snd.snd.snd.snd.snd.snd.snd.snd.snd.snd.snd.snd.snd.fst), t8.snd.snd.snd.snd.snd.snd.snd.snd.snd.snd.snd.snd.snd.snd.snd.snd.snd.snd.snd.snd.snd.snd.snd.snd.snd.snd.snd.snd.snd.snd.snd.snd.snd.snd.snd.snd.snd.snd.fst), (0 : Int), (0 : Int), ()))))))))) (
      cnd (decide ((↑t8.snd.snd.snd.snd.snd.snd.snd.snd.snd.snd.snd.snd.snd.snd.snd.snd.snd.snd.snd.fst.length : Int) < (2 : Int))) (
       some (zEv, (↑t8.snd.snd.snd.snd.snd.snd.snd.snd.snd.snd.snd.snd.snd.snd.snd.snd.snd.snd.snd.fst.length : Int), (1 : Int), ())) (
       cnd (decide ((↑t8.snd.snd.snd.snd.snd.snd.snd.snd.snd.snd.snd.snd.snd.snd.snd.snd.snd.snd.snd.fst.length : Int) > (2 : Int))) (
        some (zEv, (2 : Int), (1 : Int), ())) (
        ltO (t8.snd.snd.snd.snd.snd.snd.snd.snd.snd.snd.snd.snd.snd.snd.snd.snd.snd.snd.snd.snd.fst == (3 : Int)) fun (v25 : Bool) =>
        chk ((!v25) = true → (!v25) = true) <|
        chk ((!v25) = true → (!v25) = true) <|
        ltO (t8.snd.snd.snd.snd.snd.snd.snd.snd.snd.snd.snd.snd.snd.snd.snd.snd.snd.snd.snd.snd.fst == (4 : Int)) fun (v26 : Bool) =>
        chk (v25 = false → (!v25) = true) <|
        ltO (v25 || v26) fun (v27 : Bool) =>
        cnd (v27) (
         chk ((0 : Int) ≤ (1 : Int) ∧ (1 : Int) < (↑t8.snd.snd.snd.snd.snd.snd.snd.snd.snd.snd.snd.snd.snd.snd.snd.snd.snd.snd.snd.fst.length : Int)) <|
         chk ((1 : Nat) < t8.snd.snd.snd.snd.snd.snd.snd.snd.snd.snd.snd.snd.snd.snd.snd.snd.snd.snd.snd.fst.length) <|
         bnd (addr_ParseBlock (t8.snd.snd.snd.snd.snd.snd.snd.snd.snd.snd.snd.snd.snd.snd.snd.snd.snd.snd.snd.fst.getD (1 : Nat) [])) fun y28 =>
         cnd (!y28.snd.fst) (
          some (zEv, (1 : Int), (1 : Int), ())) (
          some ((t8.snd.snd.snd.snd.snd.snd.snd.snd.snd.snd.snd.snd.snd.snd.snd.snd.snd.snd.snd.snd.fst, (t8.snd.snd.snd.snd.snd.snd.snd.snd.snd.snd.snd.snd.snd.snd.snd.snd.snd.snd.snd.snd.snd.fst, t8.snd.snd.snd.snd.snd.snd.snd.snd.snd.snd.snd.snd.snd.snd.snd.snd.snd.snd.snd.snd.snd.snd.fst, t8.snd.snd.snd.snd.snd.snd.snd.snd.snd.snd.snd.snd.snd.snd.snd.snd.snd.snd.snd.snd.snd.snd.snd.fst, t8.snd.snd.snd.snd.snd.snd.snd.snd.snd.snd.snd.snd.snd.snd.snd.snd.snd.snd.snd.snd.snd.snd.snd.snd.fst, t8.snd.snd.snd.snd.snd.snd.snd.snd.snd.snd.snd.snd.snd.snd.snd.snd.snd.snd.snd.snd.snd.snd.snd.snd.snd.fst, t8.snd.snd.snd.snd.snd.snd.snd.snd.snd.snd.snd.snd.snd.snd.snd.snd.snd.snd.snd.snd.snd.snd.snd.snd.snd.snd.fst, t8.snd.snd.snd.snd.snd.snd.snd.snd.snd.snd.snd.snd.snd.snd.snd.snd.snd.snd.snd.snd.snd.snd.snd.snd.snd.snd.snd.fst, t8.snd.snd.snd.snd.snd.snd.snd.snd.snd.snd.snd.snd.snd.snd.snd.snd.snd.snd.snd.snd.snd.snd.snd.snd.snd.snd.snd.snd.fst), y28.fst, t8.snd.snd.snd.snd.snd.snd.snd.snd.snd.snd.snd.snd.snd.snd.snd.snd.snd.snd.snd.snd.snd.snd.snd.snd.snd.snd.snd.snd.snd.snd.snd.fst, (t8.snd.snd.snd.snd.snd.snd.snd.snd.snd.snd.snd.snd.snd.snd.snd.snd.snd.snd.snd.snd.snd.snd.snd.snd.snd.snd.snd.snd.snd.snd.snd.snd.fst, t8.snd.snd.snd.snd.snd.snd.snd.snd.snd.snd.snd.snd.snd.snd.snd.snd.snd.snd.snd.snd.snd.snd.snd.snd.snd.snd.snd.snd.snd.snd.snd.snd.snd.fst, t8.snd.snd.snd.snd.snd.snd.snd.snd.snd.snd.snd.snd.snd.snd.snd.snd.snd.snd.snd.snd.snd.snd.snd.snd.snd.snd.snd.snd.snd.snd.snd.snd.snd.snd.fst, t8.snd.snd.snd.snd.snd.snd.snd.snd.snd.snd.snd.snd.snd.snd.snd.snd.snd.snd.snd.snd.snd.snd.snd.snd.snd.snd.snd.snd.snd.snd.snd.snd.snd.snd.snd.fst, t8.snd.snd.snd.snd.snd.snd.snd.snd.snd.snd.snd.snd.snd.snd.snd.snd.snd.snd.snd.snd.snd.snd.snd.snd.snd.snd.snd.snd.snd.snd.snd.snd.snd.snd.snd.snd.fst, t8.snd.snd.snd.snd.snd.snd.snd.snd.snd.snd.snd.snd.snd.snd.snd.snd.snd.snd.snd.snd.snd.snd.snd.snd.snd.snd.snd.snd.snd.snd.snd.snd.snd.snd.snd.snd.snd.fst), t8.snd.snd.snd.snd.snd.snd.snd.snd.snd.snd.snd.snd.snd.snd.snd.snd.snd.snd.snd.snd.snd.snd.snd.snd.snd.snd.snd.snd.snd.snd.snd.snd.snd.snd.snd.snd.snd.snd.fst), (0 : Int), (0 : Int), ()))) (
         chk ((0 : Int) ≤ (1 : Int) ∧ (1 : Int) < (↑t8.snd.snd.snd.snd.snd.snd.snd.snd.snd.snd.snd.snd.snd.snd.snd.snd.snd.snd.snd.fst.length : Int)) <|
         chk ((1 : Nat) < t8.snd.snd.snd.snd.snd.snd.snd.snd.snd.snd.snd.snd.snd.snd.snd.snd.snd.snd.snd.fst.length) <|
         bnd (addr_Parse (t8.snd.snd.snd.snd.snd.snd.snd.snd.snd.snd.snd.snd.snd.snd.snd.snd.snd.snd.snd.fst.getD (1 : Nat) [])) fun y29 =>
         cnd (!y29.snd.fst) (
          some (zEv, (1 : Int), (1 : Int), ())) (
          ltO (t8.snd.snd.snd.snd.snd.snd.snd.snd.snd.snd.snd.snd.snd.snd.snd.snd.snd.snd.snd.snd.fst != (1 : Int)) fun (v30 : Bool) =>
          cnd (v30) (
           some ((t8.snd.snd.snd.snd.snd.snd.snd.snd.snd.snd.snd.snd.snd.snd.snd.snd.snd.snd.snd.snd.fst, (y29.fst, t8.snd.snd.snd.snd.snd.snd.snd.snd.snd.snd.snd.snd.snd.snd.snd.snd.snd.snd.snd.snd.snd.snd.fst, t8.snd.snd.snd.snd.snd.snd.snd.snd.snd.snd.snd.snd.snd.snd.snd.snd.snd.snd.snd.snd.snd.snd.snd.fst, t8.snd.snd.snd.snd.snd.snd.snd.snd.snd.snd.snd.snd.snd.snd.snd.snd.snd.snd.snd.snd.snd.snd.snd.snd.fst, t8.snd.snd.snd.snd.snd.snd.snd.snd.snd.snd.snd.snd.snd.snd.snd.snd.snd.snd.snd.snd.snd.snd.snd.snd.snd.fst, t8.snd.snd.snd.snd.snd.snd.snd.snd.snd.snd.snd.snd.snd.snd.snd.snd.snd.snd.snd.snd.snd.snd.snd.snd.snd.snd.fst, t8.snd.snd.snd.snd.snd.snd.snd.snd.snd.snd.snd.snd.snd.snd.snd.snd.snd.snd.snd.snd.snd.snd.snd.snd.snd.snd.snd.fst, t8.snd.snd.snd.snd.snd.snd.snd.snd.snd.snd.snd.snd.snd.snd.snd.snd.snd.snd.snd.snd.snd.snd.snd.snd.snd.snd.snd.snd.fst), (t8.snd.snd.snd.snd.snd.snd.snd.snd.snd.snd.snd.snd.snd.snd.snd.snd.snd.snd.snd.snd.snd.snd.snd.snd.snd.snd.snd.snd.snd.fst, t8.snd.snd.snd.snd.snd.snd.snd.snd.snd.snd.snd.snd.snd.snd.snd.snd.snd.snd.snd.snd.snd.snd.snd.snd.snd.snd.snd.snd.snd.snd.fst), t8.snd.snd.snd.snd.snd.snd.snd.snd.snd.snd.snd.snd.snd.snd.snd.snd.snd.snd.snd.snd.snd.snd.snd.snd.snd.snd.snd.snd.snd.snd.snd.fst, (t8.snd.snd.snd.snd.snd.snd.snd.snd.snd.snd.snd.snd.snd.snd.snd.snd.snd.snd.snd.snd.snd.snd.snd.snd.snd.snd.snd.snd.snd.snd.snd.snd.fst, t8.snd.snd.snd.snd.snd.snd.snd.snd.snd.snd.snd.snd.snd.snd.snd.snd.snd.snd.snd.snd.snd.snd.snd.snd.snd.snd.snd.snd.snd.snd.snd.snd.snd.fst, t8.snd.snd.snd.snd.snd.snd.snd.snd.snd.snd.snd.snd.snd.snd.snd.snd.snd.snd.snd.snd.snd.snd.snd.snd.snd.snd.snd.snd.snd.snd.snd.snd.snd.snd.fst, t8.snd.snd.snd.snd.snd.snd.snd.snd.snd.snd.snd.snd.snd.snd.snd.snd.snd.snd.snd.snd.snd.snd.snd.snd.snd.snd.snd.snd.snd.snd.snd.snd.snd.snd.snd.fst, t8.snd.snd.snd.snd.snd.snd.snd.snd.snd.snd.snd.snd.snd.snd.snd.snd.snd.snd.snd.snd.snd.snd.snd.snd.snd.snd.snd.snd.snd.snd.snd.snd.snd.snd.snd.snd.fst, t8.snd.snd.snd.snd.snd.snd.snd.snd.snd.snd.snd.snd.snd.snd.snd.snd.snd.snd.snd.snd.snd.snd.snd.snd.snd.snd.snd.snd.snd.snd.snd.snd.snd.snd.snd.snd.snd.fst), t8.snd.snd.snd.snd.snd.snd.snd.snd.snd.snd.snd.snd.snd.snd.snd.snd.snd.snd.snd.snd.snd.snd.snd.snd.snd.snd.snd.snd.snd.snd.snd.snd.snd.snd.snd.snd.snd.snd.fst), (0 : Int), (0 : Int), ())) (
           chk ((0 : Int) ≤ (2 : Int) ∧ (2 : Int) < (↑t8.snd.snd.snd.snd.snd.snd.snd.snd.snd.snd.snd.snd.snd.snd.snd.snd.snd.snd.snd.fst.length : Int)) <|
           chk ((2 : Nat) < t8.snd.snd.snd.snd.snd.snd.snd.snd.snd.snd.snd.snd.snd.snd.snd.snd.snd.snd.snd.fst.length) <|
           bnd (held_May (t8.snd.snd.snd.snd.snd.snd.snd.snd.snd.snd.snd.snd.snd.snd.snd.snd.snd.snd.snd.fst.getD (2 : Nat) [])) fun y31 =>
           cnd (!y31.fst) (
            some (zEv, (2 : Int), (3 : Int), ())) (
            chk ((0 : Int) ≤ (2 : Int) ∧ (2 : Int) < (↑t8.snd.snd.snd.snd.snd.snd.snd.snd.snd.snd.snd.snd.snd.snd.snd.snd.snd.snd.snd.fst.length : Int)) <|
            chk ((2 : Nat) < t8.snd.snd.snd.snd.snd.snd.snd.snd.snd.snd.snd.snd.snd.snd.snd.snd.snd.snd.snd.fst.length) <|
            ltO ((↑t8.snd.snd.snd.snd.snd.snd.snd.snd.snd.snd.snd.snd.snd.snd.snd.snd.snd.snd.snd.fst.length : Int) == (4 : Int)) fun (v32 : Bool) =>
            cnd (v32) (
             chk ((0 : Int) ≤ (3 : Int) ∧ (3 : Int) < (↑t8.snd.snd.snd.snd.snd.snd.snd.snd.snd.snd.snd.snd.snd.snd.snd.snd.snd.snd.snd.fst.length : Int)) <|
             chk ((3 : Nat) < t8.snd.snd.snd.snd.snd.snd.snd.snd.snd.snd.snd.snd.snd.snd.snd.snd.snd.snd.snd.fst.length) <|
             bnd (mac_Parse (t8.snd.snd.snd.snd.snd.snd.snd.snd.snd.snd.snd.snd.snd.snd.snd.snd.snd.snd.snd.fst.getD (3 : Nat) [])) fun y33 =>
             chk ((!!y33.snd.fst) = true → (!!y33.snd.fst) = true) <|
             bndG (!!y33.snd.fst) (mac_None (y33.fst)) (false, ()) fun y34 =>
             chk ((!y33.snd.fst) = false → (!!y33.snd.fst) = true) <|
             ltO (!y33.snd.fst || y34.fst) fun (v35 : Bool) =>
             chk ((!v35) = true → (!v35) = true) <|
             bndG (!v35) (mac_Group (y33.fst)) (false, ()) fun y36 =>
             chk (v35 = false → (!v35) = true) <|
             ltO (v35 || y36.fst) fun (v37 : Bool) =>
             cnd (v37) (
              some (zEv, (3 : Int), (1 : Int), ())) (
              some ((t8.snd.snd.snd.snd.snd.snd.snd.snd.snd.snd.snd.snd.snd.snd.snd.snd.snd.snd.snd.snd.fst, (y29.fst, t8.snd.snd.snd.snd.snd.snd.snd.snd.snd.snd.snd.snd.snd.snd.snd.snd.snd.snd.snd.fst.getD (2 : Nat) [], y33.fst), (t8.snd.snd.snd.snd.snd.snd.snd.snd.snd.snd.snd.snd.snd.snd.snd.snd.snd.snd.snd.snd.snd.snd.snd.snd.snd.snd.snd.snd.snd.fst, t8.snd.snd.snd.snd.snd.snd.snd.snd.snd.snd.snd.snd.snd.snd.snd.snd.snd.snd.snd.snd.snd.snd.snd.snd.snd.snd.snd.snd.snd.snd.fst), t8.snd.snd.snd.snd.snd.snd.snd.snd.snd.snd.snd.snd.snd.snd.snd.snd.snd.snd.snd.snd.snd.snd.snd.snd.snd.snd.snd.snd.snd.snd.snd.fst, (t8.snd.snd.snd.snd.snd.snd.snd.snd.snd.snd.snd.snd.snd.snd.snd.snd.snd.snd.snd.snd.snd.snd.snd.snd.snd.snd.snd.snd.snd.snd.snd.snd.fst, t8.snd.snd.snd.snd.snd.snd.snd.snd.snd.snd.snd.snd.snd.snd.snd.snd.snd.snd.snd.snd.snd.snd.snd.snd.snd.snd.snd.snd.snd.snd.snd.snd.snd.fst, t8.snd.snd.snd.snd.snd.snd.snd.snd.snd.snd.snd.snd.snd.snd.snd.snd.snd.snd.snd.snd.snd.snd.snd.snd.snd.snd.snd.snd.snd.snd.snd.snd.snd.snd.fst, t8.snd.snd.snd.snd.snd.snd.snd.snd.snd.snd.snd.snd.snd.snd.snd.snd.snd.snd.snd.snd.snd.snd.snd.snd.snd.snd.snd.snd.snd.snd.snd.snd.snd.snd.snd.fst, t8.snd.snd.snd.snd.snd.snd.snd.snd.snd.snd.snd.snd.snd.snd.snd.snd.snd.snd.snd.snd.snd.snd.snd.snd.snd.snd.snd.snd.snd.snd.snd.snd.snd.snd.snd.snd.fst, t8.snd.snd.snd.snd.snd.snd.snd.snd.snd.snd.snd.snd.snd.snd.snd.snd.snd.snd.snd.snd.snd.snd.snd.snd.snd.snd.snd.snd.snd.snd.snd.snd.snd.snd.snd.snd.snd.fst), t8.snd.snd.snd.snd.snd.snd.snd.snd.snd.snd.snd.snd.snd.snd.snd.snd.snd.snd.snd.snd.snd.snd.snd.snd.snd.snd.snd.snd.snd.snd.snd.snd.snd.snd.snd.snd.snd.snd.fst), (0 : Int), (0 : Int), ()))) (
             some ((t8.snd.snd.snd.snd.snd.snd.snd.snd.snd.snd.snd.snd.snd.snd.snd.snd.snd.snd.snd.snd.fst, (y29.fst, t8.snd.snd.snd.snd.snd.snd.snd.snd.snd.snd.snd.snd.snd.snd.snd.snd.snd.snd.snd.fst.getD (2 : Nat) [], t8.snd.snd.snd.snd.snd.snd.snd.snd.snd.snd.snd.snd.snd.snd.snd.snd.snd.snd.snd.snd.snd.snd.snd.fst, t8.snd.snd.snd.snd.snd.snd.snd.snd.snd.snd.snd.snd.snd.snd.snd.snd.snd.snd.snd.snd.snd.snd.snd.snd.fst, t8.snd.snd.snd.snd.snd.snd.snd.snd.snd.snd.snd.snd.snd.snd.snd.snd.snd.snd.snd.snd.snd.snd.snd.snd.snd.fst, t8.snd.snd.snd.snd.snd.snd.snd.snd.snd.snd.snd.snd.snd.snd.snd.snd.snd.snd.snd.snd.snd.snd.snd.snd.snd.snd.fst, t8.snd.snd.snd.snd.snd.snd.snd.snd.snd.snd.snd.snd.snd.snd.snd.snd.snd.snd.snd.snd.snd.snd.snd.snd.snd.snd.snd.fst, t8.snd.snd.snd.snd.snd.snd.snd.snd.snd.snd.snd.snd.snd.snd.snd.snd.snd.snd.snd.snd.snd.snd.snd.snd.snd.snd.snd.snd.fst), (t8.snd.snd.snd.snd.snd.snd.snd.snd.snd.snd.snd.snd.snd.snd.snd.snd.snd.snd.snd.snd.snd.snd.snd.snd.snd.snd.snd.snd.snd.fst, t8.snd.snd.snd.snd.snd.snd.snd.snd.snd.snd.snd.snd.snd.snd.snd.snd.snd.snd.snd.snd.snd.snd.snd.snd.snd.snd.snd.snd.snd.snd.fst), t8.snd.snd.snd.snd.snd.snd.snd.snd.snd.snd.snd.snd.snd.snd.snd.snd.snd.snd.snd.snd.snd.snd.snd.snd.snd.snd.snd.snd.snd.snd.snd.fst, (t8.snd.snd.snd.snd.snd.snd.snd.snd.snd.snd.snd.snd.snd.snd.snd.snd.snd.snd.snd.snd.snd.snd.snd.snd.snd.snd.snd.snd.snd.snd.snd.snd.fst, t8.snd.snd.snd.snd.snd.snd.snd.snd.snd.snd.snd.snd.snd.snd.snd.snd.snd.snd.snd.snd.snd.snd.snd.snd.snd.snd.snd.snd.snd.snd.snd.snd.snd.fst, t8.snd.snd.snd.snd.snd.snd.snd.snd.snd.snd.snd.snd.snd.snd.snd.snd.snd.snd.snd.snd.snd.snd.snd.snd.snd.snd.snd.snd.snd.snd.snd.snd.snd.snd.fst, t8.snd.snd.snd.snd.snd.snd.snd.snd.snd.snd.snd.snd.snd.snd.snd.snd.snd.snd.snd.snd.snd.snd.snd.snd.snd.snd.snd.snd.snd.snd.snd.snd.snd.snd.snd.fst, t8.snd.snd.snd.snd.snd.snd.snd.snd.snd.snd.snd.snd.snd.snd.snd.snd.snd.snd.snd.snd.snd.snd.snd.snd.snd.snd.snd.snd.snd.snd.snd.snd.snd.snd.snd.snd.fst, t8.snd.snd.snd.snd.snd.snd.snd.snd.snd.snd.snd.snd.snd.snd.snd.snd.snd.snd.snd.snd.snd.snd.snd.snd.snd.snd.snd.snd.snd.snd.snd.snd.snd.snd.snd.snd.snd.fst), t8.snd.snd.snd.snd.snd.snd.snd.snd.snd.snd.snd.snd.snd.snd.snd.snd.snd.snd.snd.snd.snd.snd.snd.snd.snd.snd.snd.snd.snd.snd.snd.snd.snd.snd.snd.snd.snd.snd.fst), (0 : Int), (0 : Int), ()))))))))))) (fun r9 =>
    some (r9)))
noncomputable def terrierlaw17_CommandParse_b0 (t29 : Int) (t30 : Int) (x : List (List UInt8)) : Option ((Int × Int × (List (List UInt8)) × Unit) ⊕ (Unit ⊕ (Bool × Unit))) :=
  cnd (decide (t30 < t29)) (
   chk ((0 : Int) ≤ t30 ∧ t30 < (↑x.length : Int)) <|
   chk (t30.toNat < x.length) <|
   bnd (command_Parse (x.getD t30.toNat [])) fun y6 =>
   bnd (terrierlaw17_parse (x.getD t30.toNat [])) fun y7 =>
   ltO (!(y6.fst == y7.fst)) fun (v8 : Bool) =>
   chk ((!v8) = true → (!v8) = true) <|
   ltO (errN y6.snd.fst) fun (v9 : Bool) =>
   chk ((!v8) = true → (!v8) = true) <|
   ltO (y7.snd.snd.fst == (0 : Int)) fun (v10 : Bool) =>
   chk ((!v8) = true → (!v8) = true) <|
   chk ((!v8) = true → (!v8) = true) <|
   ltO (!v9 == v10) fun (v11 : Bool) =>
   chk (v8 = false → (!v8) = true) <|
   ltO (v8 || v11) fun (v12 : Bool) =>
   cnd (v12) (
    some (.inr (.inr (false, ())))) (
    bnd (command_Where (y6.snd.fst)) fun y13 =>
    ltO (y13.snd.fst != y7.snd.snd.fst) fun (v14 : Bool) =>
    chk ((!v14) = true → (!v14) = true) <|
    ltO (y7.snd.snd.fst != (0 : Int)) fun (v15 : Bool) =>
    chk ((!v14) = true → (!v14) = true) <|
    chk ((!v14 && v15) = true → (!v14 && v15) = true) <|
    chk ((!v14) = true → (!v14) = true) <|
    chk ((!v14) = true → v15 = true → (!v14 && v15) = true) <|
    ltO (v15 && decide (y7.snd.fst ≥ (0 : Int))) fun (v16 : Bool) =>
    chk ((!v14) = true → (!v14) = true) <|
    chk ((!v14) = true → (!v14) = true) <|
    ltO (!y13.snd.snd.fst == v16) fun (v17 : Bool) =>
    chk (v14 = false → (!v14) = true) <|
    ltO (v14 || v17) fun (v18 : Bool) =>
    chk ((!v18) = true → (!v18) = true) <|
    chk ((!v18 && y13.snd.snd.fst) = true → (!v18 && y13.snd.snd.fst) = true) <|
    chk ((!v18 && y13.snd.snd.fst) = true → (!v18 && y13.snd.snd.fst) = true) <|
    ltO (y13.fst != y7.snd.fst) fun (v19 : Bool) =>
    chk ((!v18) = true → (!v18) = true) <|
    chk ((!v18) = true → y13.snd.snd.fst = true → (!v18 && y13.snd.snd.fst) = true) <|
    ltO (y13.snd.snd.fst && v19) fun (v20 : Bool) =>
    chk (v18 = false → (!v18) = true) <|
    ltO (v18 || v20) fun (v21 : Bool) =>
    chk ((!v21) = true → (!v21) = true) <|
    chk ((!v21) = true → (!v21) = true) <|
    chk ((!v21 && !y13.snd.snd.fst) = true → (!v21 && !y13.snd.snd.fst) = true) <|
    ltO (y13.fst != (0 : Int)) fun (v22 : Bool) =>
    chk ((!v21) = true → (!v21) = true) <|
    chk ((!v21) = true → (!y13.snd.snd.fst) = true → (!v21 && !y13.snd.snd.fst) = true) <|
    ltO (!y13.snd.snd.fst && v22) fun (v23 : Bool) =>
    chk (v21 = false → (!v21) = true) <|
    ltO (v21 || v23) fun (v24 : Bool) =>
    cnd (v24) (
     some (.inr (.inr (false, ())))) (
     ltO (IntKind.i64.wrap (t30 + (1 : Int))) fun (v25 : Int) =>
     some (.inl (t29, v25, x, ()))))) (
   some (.inr (.inl ())))
noncomputable def terrierlaw17_CommandParse_l0 (s : Int × Int × (List (List UInt8)) × Unit) : Option (Unit ⊕ (Bool × Unit)) := loopM (fun s : Int × Int × (List (List UInt8)) × Unit => terrierlaw17_CommandParse_b0 s.1 s.2.1 s.2.2.1) s
noncomputable def terrierlaw17_CommandParse (s' : Int × Int × Int × Int × Int × Int × List UInt8) (raw : List UInt8) (more : List UInt8) : Option (Bool × Unit) :=
  bnd (terrierlaw17_awake) fun y0 =>
  cnd (!y0.fst) (
   some (false, ())) (
   bnd (terrierlaw17_Say_split (s')) fun y1 =>
   bnd (terrierlaw17_line (y1.fst)) fun y2 =>
   bnd (terrierlaw17_Say_split (s')) fun y3 =>
   bnd (terrierlaw17_line (y3.fst)) fun y4 =>
   chk ((↑(y4.fst.length + more.length) : Int) ≤ (9223372036854775807 : Int)) <|
   ltO (y4.fst ++ more) fun (v5 : List UInt8) =>
   bnd (terrierlaw17_CommandParse_l0 ((↑[y2.fst, raw, v5].length : Int), (0 : Int), [y2.fst, raw, v5], ())) fun y26 =>
   sumO y26 (fun t27 =>
    some (true, ())) (fun r28 =>
    some (r28)))
end Go.Tr
