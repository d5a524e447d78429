/- The functions that these laws reach, as Lean functions: printed by a program of this session's. Conditions: none. -/
import Derived.Test.YtfaaeeabiikhbaaDoorBD
import Derived.Test.YtfaaeeabiikhbaaDoorBE
import Derived.Test.YtfaaeeabiikhbaaDoorErrT
import Derived.Test.YtfaaeeabiikhbaaDoorAddrD
import Derived.Test.YtfaaeeabiikhbaaDoorCodec1D
import Derived.Test.YtfaaeeabiikhbaaDoorMacD
import Derived.Test.YtfaaeeabiikhbaaDoorScriptD
namespace Go.Tr
open Go
set_option linter.unusedVariables false
set_option maxRecDepth 100000
noncomputable def command_what_b0 (s' : List UInt8) (t5 : Int) : Option (((List UInt8) × Int × Unit) ⊕ (Unit ⊕ (Int × Bool × Unit))) :=
  cnd (decide (t5 < (8 : Int))) (
   ltO (!s' == []) fun (v0 : Bool) =>
   chk (v0 = true → v0 = true) <|
   bndG (v0) (command_word (t5)) ([], ()) fun y1 =>
   chk (v0 = true → v0 = true) <|
   chk (v0 = true → v0 = true) <|
   ltO (y1.fst == s') fun (v2 : Bool) =>
   chk (v0 = true → v0 = true) <|
   ltO (v0 && v2) fun (v3 : Bool) =>
   cnd (v3) (
    some (.inr (.inr (t5, true, ())))) (
    ltO (IntKind.i64.wrap (t5 + (1 : Int))) fun (v4 : Int) =>
    some (.inl (s', v4, ())))) (
   some (.inr (.inl ())))
noncomputable def command_what_l0 (s : (List UInt8) × Int × Unit) : Option (Unit ⊕ (Int × Bool × Unit)) := loopM (fun s : (List UInt8) × Int × Unit => command_what_b0 s.1 s.2.1) s
noncomputable def command_what (s' : List UInt8) : Option (Int × Bool × Unit) :=
  bnd (command_what_l0 (s', (0 : Int), ())) fun y5 =>
  sumO y5 (fun t6 =>
   some ((0 : Int), false, ())) (fun r7 =>
   some (r7))
noncomputable def command_fault (at' : Int) (s' : List UInt8) (e : Int) : Option (TErr × Unit) :=
  bnd (strconv_Quote (s')) fun y0 =>
  some (eAt at' (eCmd y0.fst (eNum e)), ())
noncomputable def command_hold (e : Int × THold × (Int × Int) × Int × TMac × Int) (f : List (List UInt8)) : Option (TEv × TErr × Unit) :=
  chk ((0 : Int) ≤ (2 : Int) ∧ (2 : Int) < (↑f.length : Int)) <|
  ltO (f.getD (2 : Nat) []) fun (v0 : List UInt8) =>
  bnd (held_May (v0)) fun y1 =>
  cnd (!y1.fst) (
   chk ((0 : Int) ≤ (2 : Int) ∧ (2 : Int) < (↑f.length : Int)) <|
   ltO (f.getD (2 : Nat) []) fun (v2 : List UInt8) =>
   bnd (command_fault ((2 : Int)) (v2) ((3 : Int))) fun y3 =>
   some (zEv, y3.fst, ())) (
   chk ((0 : Int) ≤ (2 : Int) ∧ (2 : Int) < (↑f.length : Int)) <|
   ltO (f.getD (2 : Nat) []) fun (v4 : List UInt8) =>
   ltO ((↑f.length : Int) == (4 : Int)) fun (v5 : Bool) =>
   cnd (v5) (
    chk ((0 : Int) ≤ (3 : Int) ∧ (3 : Int) < (↑f.length : Int)) <|
    ltO (f.getD (3 : Nat) []) fun (v6 : List UInt8) =>
    bnd (mac_Parse (v6)) fun y7 =>
    chk ((!!y7.snd.fst) = true → (!!y7.snd.fst) = true) <|
    bndG (!!y7.snd.fst) (mac_None (y7.fst)) (false, ()) fun y8 =>
    chk ((!y7.snd.fst) = false → (!!y7.snd.fst) = true) <|
    ltO (!y7.snd.fst || y8.fst) fun (v9 : Bool) =>
    chk ((!v9) = true → (!v9) = true) <|
    bndG (!v9) (mac_Group (y7.fst)) (false, ()) fun y10 =>
    chk (v9 = false → (!v9) = true) <|
    ltO (v9 || y10.fst) fun (v11 : Bool) =>
    cnd (v11) (
     chk ((0 : Int) ≤ (3 : Int) ∧ (3 : Int) < (↑f.length : Int)) <|
     ltO (f.getD (3 : Nat) []) fun (v12 : List UInt8) =>
     bnd (command_fault ((3 : Int)) (v12) ((1 : Int))) fun y13 =>
     some (zEv, y13.fst, ())) (
     some ((e.fst, (e.snd.fst.fst, v4, y7.fst), e.snd.snd), TErr.nil, ()))) (
    some ((e.fst, (e.snd.fst.fst, v4, e.snd.fst.snd.snd), e.snd.snd), TErr.nil, ())))
noncomputable def command_Parse (s' : List UInt8) : Option (TEv × TErr × Unit) :=
  cnd (decide ((↑s'.length : Int) > (200 : Int))) (
   bnd (strconv_Itoa ((↑s'.length : Int))) fun y0 =>
   chk ((↑(y0.fst.length + (6 : Nat)) : Int) ≤ (9223372036854775807 : Int)) <|
   ltO (y0.fst ++ [(32 : UInt8), (98 : UInt8), (121 : UInt8), (116 : UInt8), (101 : UInt8), (115 : UInt8)]) fun (v1 : List UInt8) =>
   some (zEv, eCmd v1 (eNum (3 : Int)), ())) (
   bnd (strings_Split (s') ([(32 : UInt8)])) fun y2 =>
   chk ((0 : Int) ≤ (0 : Int) ∧ (0 : Int) < (↑y2.fst.length : Int)) <|
   ltO (y2.fst.getD (0 : Nat) []) fun (v3 : List UInt8) =>
   bnd (command_what (v3)) fun y4 =>
   cnd (!y4.snd.fst) (
    chk ((0 : Int) ≤ (0 : Int) ∧ (0 : Int) < (↑y2.fst.length : Int)) <|
    ltO (y2.fst.getD (0 : Nat) []) fun (v5 : List UInt8) =>
    bnd (command_fault ((0 : Int)) (v5) ((1 : Int))) fun y6 =>
    some (zEv, y6.fst, ())) (
    ltO (y4.fst == (1 : Int)) fun (v7 : Bool) =>
    cnd (v7) (
     ltO ((3 : Int)) fun (v8 : Int) =>
     chk ((!decide ((↑y2.fst.length : Int) < if (if v8 > (2 : Int) then v8 else (2 : Int)) < (3 : Int) then if v8 > (2 : Int) then v8 else (2 : Int) else (3 : Int))) = true → (!decide ((↑y2.fst.length : Int) < if (if v8 > (2 : Int) then v8 else (2 : Int)) < (3 : Int) then if v8 > (2 : Int) then v8 else (2 : Int) else (3 : Int))) = true) <|
     chk ((!decide ((↑y2.fst.length : Int) < if (if v8 > (2 : Int) then v8 else (2 : Int)) < (3 : Int) then if v8 > (2 : Int) then v8 else (2 : Int) else (3 : Int))) = true → (!decide ((↑y2.fst.length : Int) < if (if v8 > (2 : Int) then v8 else (2 : Int)) < (3 : Int) then if v8 > (2 : Int) then v8 else (2 : Int) else (3 : Int))) = true) <|
     chk ((!decide ((↑y2.fst.length : Int) < if (if v8 > (2 : Int) then v8 else (2 : Int)) < (3 : Int) then if v8 > (2 : Int) then v8 else (2 : Int) else (3 : Int))) = true → (!decide ((↑y2.fst.length : Int) < if (if v8 > (2 : Int) then v8 else (2 : Int)) < (3 : Int) then if v8 > (2 : Int) then v8 else (2 : Int) else (3 : Int))) = true) <|
     chk (decide ((↑y2.fst.length : Int) < if (if v8 > (2 : Int) then v8 else (2 : Int)) < (3 : Int) then if v8 > (2 : Int) then v8 else (2 : Int) else (3 : Int)) = false → (!decide ((↑y2.fst.length : Int) < if (if v8 > (2 : Int) then v8 else (2 : Int)) < (3 : Int) then if v8 > (2 : Int) then v8 else (2 : Int) else (3 : Int))) = true) <|
     ltO (decide ((↑y2.fst.length : Int) < if (if v8 > (2 : Int) then v8 else (2 : Int)) < (3 : Int) then if v8 > (2 : Int) then v8 else (2 : Int) else (3 : Int)) || decide ((↑y2.fst.length : Int) > (4 : Int))) fun (v9 : Bool) =>
     cnd (v9) (
      bnd (command_fault (if (4 : Int) < (↑y2.fst.length : Int) then (4 : Int) else (↑y2.fst.length : Int)) ([]) ((1 : Int))) fun y10 =>
      some (zEv, y10.fst, ())) (
      ltO (y4.fst == (3 : Int)) fun (v11 : Bool) =>
      cnd (v11) (
       chk ((0 : Int) ≤ (1 : Int) ∧ (1 : Int) < (↑y2.fst.length : Int)) <|
       ltO (y2.fst.getD (1 : Nat) []) fun (v12 : List UInt8) =>
       bnd (addr_ParseBlock (v12)) fun y13 =>
       cnd (!y13.snd.fst) (
        chk ((0 : Int) ≤ (1 : Int) ∧ (1 : Int) < (↑y2.fst.length : Int)) <|
        ltO (y2.fst.getD (1 : Nat) []) fun (v14 : List UInt8) =>
        bnd (command_fault ((1 : Int)) (v14) ((1 : Int))) fun y15 =>
        some (zEv, y15.fst, ())) (
        some ((y4.fst, zHold, y13.fst, (0 : Int), zMac, (0 : Int)), TErr.nil, ()))) (
       ltO (y4.fst == (4 : Int)) fun (v16 : Bool) =>
       cnd (v16) (
        chk ((0 : Int) ≤ (1 : Int) ∧ (1 : Int) < (↑y2.fst.length : Int)) <|
        ltO (y2.fst.getD (1 : Nat) []) fun (v17 : List UInt8) =>
        bnd (addr_ParseBlock (v17)) fun y18 =>
        cnd (!y18.snd.fst) (
         chk ((0 : Int) ≤ (1 : Int) ∧ (1 : Int) < (↑y2.fst.length : Int)) <|
         ltO (y2.fst.getD (1 : Nat) []) fun (v19 : List UInt8) =>
         bnd (command_fault ((1 : Int)) (v19) ((1 : Int))) fun y20 =>
         some (zEv, y20.fst, ())) (
         some ((y4.fst, zHold, y18.fst, (0 : Int), zMac, (0 : Int)), TErr.nil, ()))) (
        chk ((0 : Int) ≤ (1 : Int) ∧ (1 : Int) < (↑y2.fst.length : Int)) <|
        ltO (y2.fst.getD (1 : Nat) []) fun (v21 : List UInt8) =>
        bnd (addr_Parse (v21)) fun y22 =>
        cnd (!y22.snd.fst) (
         chk ((0 : Int) ≤ (1 : Int) ∧ (1 : Int) < (↑y2.fst.length : Int)) <|
         ltO (y2.fst.getD (1 : Nat) []) fun (v23 : List UInt8) =>
         bnd (command_fault ((1 : Int)) (v23) ((1 : Int))) fun y24 =>
         some (zEv, y24.fst, ())) (
         ltO (y4.fst == (1 : Int)) fun (v25 : Bool) =>
         cnd (v25) (
          bnd (command_hold ((y4.fst, (y22.fst, [], (0 : Int), (0 : Int), (0 : Int), (0 : Int), (0 : Int), (0 : Int)), ((0 : Int), (0 : Int)), (0 : Int), zMac, (0 : Int))) (y2.fst)) fun y26 =>
          some (y26.fst, y26.snd.fst, ())) (
          some ((y4.fst, (y22.fst, [], (0 : Int), (0 : Int), (0 : Int), (0 : Int), (0 : Int), (0 : Int)), ((0 : Int), (0 : Int)), (0 : Int), zMac, (0 : Int)), TErr.nil, ()))))))) (
     ltO ((1 : Int)) fun (v27 : Int) =>
     chk ((!decide ((↑y2.fst.length : Int) < if (if v27 > (2 : Int) then v27 else (2 : Int)) < (3 : Int) then if v27 > (2 : Int) then v27 else (2 : Int) else (3 : Int))) = true → (!decide ((↑y2.fst.length : Int) < if (if v27 > (2 : Int) then v27 else (2 : Int)) < (3 : Int) then if v27 > (2 : Int) then v27 else (2 : Int) else (3 : Int))) = true) <|
     chk ((!decide ((↑y2.fst.length : Int) < if (if v27 > (2 : Int) then v27 else (2 : Int)) < (3 : Int) then if v27 > (2 : Int) then v27 else (2 : Int) else (3 : Int))) = true → (!decide ((↑y2.fst.length : Int) < if (if v27 > (2 : Int) then v27 else (2 : Int)) < (3 : Int) then if v27 > (2 : Int) then v27 else (2 : Int) else (3 : Int))) = true) <|
     chk ((!decide ((↑y2.fst.length : Int) < if (if v27 > (2 : Int) then v27 else (2 : Int)) < (3 : Int) then if v27 > (2 : Int) then v27 else (2 : Int) else (3 : Int))) = true → (!decide ((↑y2.fst.length : Int) < if (if v27 > (2 : Int) then v27 else (2 : Int)) < (3 : Int) then if v27 > (2 : Int) then v27 else (2 : Int) else (3 : Int))) = true) <|
     chk (decide ((↑y2.fst.length : Int) < if (if v27 > (2 : Int) then v27 else (2 : Int)) < (3 : Int) then if v27 > (2 : Int) then v27 else (2 : Int) else (3 : Int)) = false → (!decide ((↑y2.fst.length : Int) < if (if v27 > (2 : Int) then v27 else (2 : Int)) < (3 : Int) then if v27 > (2 : Int) then v27 else (2 : Int) else (3 : Int))) = true) <|
     ltO (decide ((↑y2.fst.length : Int) < if (if v27 > (2 : Int) then v27 else (2 : Int)) < (3 : Int) then if v27 > (2 : Int) then v27 else (2 : Int) else (3 : Int)) || decide ((↑y2.fst.length : Int) > (2 : Int))) fun (v28 : Bool) =>
     cnd (v28) (
      bnd (command_fault (if (2 : Int) < (↑y2.fst.length : Int) then (2 : Int) else (↑y2.fst.length : Int)) ([]) ((1 : Int))) fun y29 =>
      some (zEv, y29.fst, ())) (
      ltO (y4.fst == (3 : Int)) fun (v30 : Bool) =>
      cnd (v30) (
       chk ((0 : Int) ≤ (1 : Int) ∧ (1 : Int) < (↑y2.fst.length : Int)) <|
       ltO (y2.fst.getD (1 : Nat) []) fun (v31 : List UInt8) =>
       bnd (addr_ParseBlock (v31)) fun y32 =>
       cnd (!y32.snd.fst) (
        chk ((0 : Int) ≤ (1 : Int) ∧ (1 : Int) < (↑y2.fst.length : Int)) <|
        ltO (y2.fst.getD (1 : Nat) []) fun (v33 : List UInt8) =>
        bnd (command_fault ((1 : Int)) (v33) ((1 : Int))) fun y34 =>
        some (zEv, y34.fst, ())) (
        some ((y4.fst, zHold, y32.fst, (0 : Int), zMac, (0 : Int)), TErr.nil, ()))) (
       ltO (y4.fst == (4 : Int)) fun (v35 : Bool) =>
       cnd (v35) (
        chk ((0 : Int) ≤ (1 : Int) ∧ (1 : Int) < (↑y2.fst.length : Int)) <|
        ltO (y2.fst.getD (1 : Nat) []) fun (v36 : List UInt8) =>
        bnd (addr_ParseBlock (v36)) fun y37 =>
        cnd (!y37.snd.fst) (
         chk ((0 : Int) ≤ (1 : Int) ∧ (1 : Int) < (↑y2.fst.length : Int)) <|
         ltO (y2.fst.getD (1 : Nat) []) fun (v38 : List UInt8) =>
         bnd (command_fault ((1 : Int)) (v38) ((1 : Int))) fun y39 =>
         some (zEv, y39.fst, ())) (
         some ((y4.fst, zHold, y37.fst, (0 : Int), zMac, (0 : Int)), TErr.nil, ()))) (
        chk ((0 : Int) ≤ (1 : Int) ∧ (1 : Int) < (↑y2.fst.length : Int)) <|
        ltO (y2.fst.getD (1 : Nat) []) fun (v40 : List UInt8) =>
        bnd (addr_Parse (v40)) fun y41 =>
        cnd (!y41.snd.fst) (
         chk ((0 : Int) ≤ (1 : Int) ∧ (1 : Int) < (↑y2.fst.length : Int)) <|
         ltO (y2.fst.getD (1 : Nat) []) fun (v42 : List UInt8) =>
         bnd (command_fault ((1 : Int)) (v42) ((1 : Int))) fun y43 =>
         some (zEv, y43.fst, ())) (
         ltO (y4.fst == (1 : Int)) fun (v44 : Bool) =>
         cnd (v44) (
          bnd (command_hold ((y4.fst, (y41.fst, [], (0 : Int), (0 : Int), (0 : Int), (0 : Int), (0 : Int), (0 : Int)), ((0 : Int), (0 : Int)), (0 : Int), zMac, (0 : Int))) (y2.fst)) fun y45 =>
          some (y45.fst, y45.snd.fst, ())) (
          some ((y4.fst, (y41.fst, [], (0 : Int), (0 : Int), (0 : Int), (0 : Int), (0 : Int), (0 : Int)), ((0 : Int), (0 : Int)), (0 : Int), zMac, (0 : Int)), TErr.nil, ())))))))))
end Go.Tr
