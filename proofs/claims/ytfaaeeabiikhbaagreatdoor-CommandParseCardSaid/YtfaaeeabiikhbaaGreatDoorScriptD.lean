/- The functions that these laws reach, as Lean functions: printed by a program of this session's. Conditions: none. -/
import Derived.Test.YtfaaeeabiikhbaaGreatDoorBD
import Derived.Test.YtfaaeeabiikhbaaGreatDoorBE
import Derived.Test.YtfaaeeabiikhbaaGreatDoorAddrD
import Derived.Test.YtfaaeeabiikhbaaGreatDoorMacD
namespace Go.Tr
open Go
set_option linter.unusedVariables false
set_option maxRecDepth 100000
noncomputable def command_word (w : Int) : Option ((List UInt8) × Unit) :=
  chk ((!decide (w < (0 : Int))) = true → (!decide (w < (0 : Int))) = true) <|
  chk ((!decide (w < (0 : Int))) = true → (!decide (w < (0 : Int))) = true) <|
  chk ((!decide (w < (0 : Int))) = true → (!decide (w < (0 : Int))) = true) <|
  chk (decide (w < (0 : Int)) = false → (!decide (w < (0 : Int))) = true) <|
  ltO (decide (w < (0 : Int)) || decide (w ≥ (8 : Int))) fun (v0 : Bool) =>
  cnd (v0) (
   some ([], ())) (
   chk ((0 : Int) ≤ w ∧ w < (8 : Int)) <|
   chk (w.toNat < (8 : Nat)) <|
   some ([[], [(104 : UInt8), (111 : UInt8), (108 : UInt8), (100 : UInt8)], [(100 : UInt8), (114 : UInt8), (111 : UInt8), (112 : UInt8)], [(119 : UInt8), (97 : UInt8), (116 : UInt8), (99 : UInt8), (104 : UInt8)], [(105 : UInt8), (103 : UInt8), (110 : UInt8), (111 : UInt8), (114 : UInt8), (101 : UInt8)], [], [(97 : UInt8), (112 : UInt8), (112 : UInt8), (114 : UInt8), (111 : UInt8), (118 : UInt8), (101 : UInt8)], [(114 : UInt8), (101 : UInt8), (106 : UInt8), (101 : UInt8), (99 : UInt8), (116 : UInt8)]].getD w.toNat [], ()))
noncomputable def command_Text (e : Int × THold × (Int × Int) × Int × TMac × Int) : Option ((List UInt8) × Unit) :=
  ltO (e.fst == (3 : Int)) fun (v0 : Bool) =>
  cnd (v0) (
   bnd (command_word (e.fst)) fun y1 =>
   chk ((↑(y1.fst.length + (1 : Nat)) : Int) ≤ (9223372036854775807 : Int)) <|
   ltO (y1.fst ++ [(32 : UInt8)]) fun (v2 : List UInt8) =>
   bnd (addr_BlockText (e.snd.snd.fst)) fun y3 =>
   chk ((↑(v2.length + y3.fst.length) : Int) ≤ (9223372036854775807 : Int)) <|
   ltO (v2 ++ y3.fst) fun (v4 : List UInt8) =>
   some (v4, ())) (
   ltO (e.fst == (4 : Int)) fun (v5 : Bool) =>
   cnd (v5) (
    bnd (command_word (e.fst)) fun y6 =>
    chk ((↑(y6.fst.length + (1 : Nat)) : Int) ≤ (9223372036854775807 : Int)) <|
    ltO (y6.fst ++ [(32 : UInt8)]) fun (v7 : List UInt8) =>
    bnd (addr_BlockText (e.snd.snd.fst)) fun y8 =>
    chk ((↑(v7.length + y8.fst.length) : Int) ≤ (9223372036854775807 : Int)) <|
    ltO (v7 ++ y8.fst) fun (v9 : List UInt8) =>
    some (v9, ())) (
    ltO (e.fst == (1 : Int)) fun (v10 : Bool) =>
    cnd (v10) (
     bnd (addr_Text (e.snd.fst.fst)) fun y11 =>
     chk ((↑((5 : Nat) + y11.fst.length) : Int) ≤ (9223372036854775807 : Int)) <|
     ltO ([(104 : UInt8), (111 : UInt8), (108 : UInt8), (100 : UInt8), (32 : UInt8)] ++ y11.fst) fun (v12 : List UInt8) =>
     chk ((↑(v12.length + (1 : Nat)) : Int) ≤ (9223372036854775807 : Int)) <|
     ltO (v12 ++ [(32 : UInt8)]) fun (v13 : List UInt8) =>
     chk ((↑(v13.length + e.snd.fst.snd.fst.length) : Int) ≤ (9223372036854775807 : Int)) <|
     ltO (v13 ++ e.snd.fst.snd.fst) fun (v14 : List UInt8) =>
     bnd (mac_None (e.snd.fst.snd.snd)) fun y15 =>
     cnd (y15.fst) (
      some (v14, ())) (
      chk ((↑(v14.length + (1 : Nat)) : Int) ≤ (9223372036854775807 : Int)) <|
      ltO (v14 ++ [(32 : UInt8)]) fun (v16 : List UInt8) =>
      bnd (mac_Text (e.snd.fst.snd.snd)) fun y17 =>
      chk ((↑(v16.length + y17.fst.length) : Int) ≤ (9223372036854775807 : Int)) <|
      ltO (v16 ++ y17.fst) fun (v18 : List UInt8) =>
      some (v18, ()))) (
     ltO (e.fst == (2 : Int)) fun (v19 : Bool) =>
     cnd (v19) (
      bnd (command_word (e.fst)) fun y20 =>
      chk ((↑(y20.fst.length + (1 : Nat)) : Int) ≤ (9223372036854775807 : Int)) <|
      ltO (y20.fst ++ [(32 : UInt8)]) fun (v21 : List UInt8) =>
      bnd (addr_Text (e.snd.fst.fst)) fun y22 =>
      chk ((↑(v21.length + y22.fst.length) : Int) ≤ (9223372036854775807 : Int)) <|
      ltO (v21 ++ y22.fst) fun (v23 : List UInt8) =>
      some (v23, ())) (
      ltO (e.fst == (6 : Int)) fun (v24 : Bool) =>
      cnd (v24) (
       bnd (command_word (e.fst)) fun y25 =>
       chk ((↑(y25.fst.length + (1 : Nat)) : Int) ≤ (9223372036854775807 : Int)) <|
       ltO (y25.fst ++ [(32 : UInt8)]) fun (v26 : List UInt8) =>
       bnd (addr_Text (e.snd.fst.fst)) fun y27 =>
       chk ((↑(v26.length + y27.fst.length) : Int) ≤ (9223372036854775807 : Int)) <|
       ltO (v26 ++ y27.fst) fun (v28 : List UInt8) =>
       some (v28, ())) (
       ltO (e.fst == (7 : Int)) fun (v29 : Bool) =>
       cnd (v29) (
        bnd (command_word (e.fst)) fun y30 =>
        chk ((↑(y30.fst.length + (1 : Nat)) : Int) ≤ (9223372036854775807 : Int)) <|
        ltO (y30.fst ++ [(32 : UInt8)]) fun (v31 : List UInt8) =>
        bnd (addr_Text (e.snd.fst.fst)) fun y32 =>
        chk ((↑(v31.length + y32.fst.length) : Int) ≤ (9223372036854775807 : Int)) <|
        ltO (v31 ++ y32.fst) fun (v33 : List UInt8) =>
        some (v33, ())) (
        some ([], ())))))))
end Go.Tr
