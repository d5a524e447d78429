/- The functions that these laws reach, as Lean functions: printed by a program of this session's. Conditions: none. -/
import Derived.Test.YtfaaeeabiikhbaaDoorBD
import Derived.Test.YtfaaeeabiikhbaaDoorBE
import Derived.Test.YtfaaeeabiikhbaaDoorErrT
import Derived.Test.YtfaaeeabiikhbaaDoorAddrD
import Derived.Test.YtfaaeeabiikhbaaDoorCmdD
import Derived.Test.YtfaaeeabiikhbaaDoorCodec1D
import Derived.Test.YtfaaeeabiikhbaaDoorMacD
import Derived.Test.YtfaaeeabiikhbaaDoorScriptD
namespace Go.Tr
open Go
set_option linter.unusedVariables false
set_option maxRecDepth 100000
noncomputable def terrierlaw22_ScriptLines (x : Int) (y : Int) (z : Int) : Option (Bool × Unit) :=
  bnd (terrierlaw22_awake) fun y0 =>
  cnd (!y0.fst) (
   some (false, ())) (
   bnd (script_Acts ([(5 : Int), x, y, z, (0 : Int), x, y, z])) fun y1 =>
   ltO ((↑y1.fst.length : Int) != (2 : Int)) fun (v2 : Bool) =>
   chk ((!v2) = true → (!v2) = true) <|
   chk ((!v2) = true → (0 : Int) ≤ (0 : Int) ∧ (0 : Int) < (↑y1.fst.length : Int)) <|
   chk ((!v2) = true → (!v2) = true) <|
   chk ((!v2) = true → (!v2) = true) <|
   chk ((!v2) = true → (0 : Nat) < y1.fst.length) <|
   chk ((!v2) = true → (!v2) = true) <|
   ltO ((y1.fst.getD (0 : Nat) zAct).fst != (2 : Int)) fun (v3 : Bool) =>
   chk (v2 = false → (!v2) = true) <|
   ltO (v2 || v3) fun (v4 : Bool) =>
   chk ((!v4) = true → (!v4) = true) <|
   chk ((!v4) = true → (0 : Int) ≤ (1 : Int) ∧ (1 : Int) < (↑y1.fst.length : Int)) <|
   chk ((!v4) = true → (!v4) = true) <|
   chk ((!v4) = true → (!v4) = true) <|
   chk ((!v4) = true → (1 : Nat) < y1.fst.length) <|
   chk ((!v4) = true → (!v4) = true) <|
   ltO ((y1.fst.getD (1 : Nat) zAct).fst != (0 : Int)) fun (v5 : Bool) =>
   chk (v4 = false → (!v4) = true) <|
   ltO (v4 || v5) fun (v6 : Bool) =>
   cnd (v6) (
    some (false, ())) (
    chk ((0 : Int) ≤ (0 : Int) ∧ (0 : Int) < (↑y1.fst.length : Int)) <|
    chk ((0 : Nat) < y1.fst.length) <|
    bnd (command_Parse ((y1.fst.getD (0 : Nat) zAct).snd.snd.fst)) fun y7 =>
    chk ((0 : Int) ≤ (1 : Int) ∧ (1 : Int) < (↑y1.fst.length : Int)) <|
    chk ((1 : Nat) < y1.fst.length) <|
    ltO ((y1.fst.getD (1 : Nat) zAct).snd.fst.fst == (5 : Int)) fun (v8 : Bool) =>
    cnd (v8) (
     ltO (!errN y7.snd.fst) fun (v9 : Bool) =>
     chk ((!v9) = true → (!v9) = true) <|
     chk ((!v9) = true → (!v9) = true) <|
     ltO (y7.fst.fst != (5 : Int)) fun (v10 : Bool) =>
     chk (v9 = false → (!v9) = true) <|
     ltO (v9 || v10) fun (v11 : Bool) =>
     some (v11, ())) (
     ltO (errN y7.snd.fst) fun (v12 : Bool) =>
     chk (v12 = true → v12 = true) <|
     chk (v12 = true → (0 : Int) ≤ (1 : Int) ∧ (1 : Int) < (↑y1.fst.length : Int)) <|
     chk (v12 = true → v12 = true) <|
     chk (v12 = true → v12 = true) <|
     chk (v12 = true → (1 : Nat) < y1.fst.length) <|
     chk (v12 = true → v12 = true) <|
     chk (v12 = true → v12 = true) <|
     ltO (y7.fst == (y1.fst.getD (1 : Nat) zAct).snd.fst) fun (v13 : Bool) =>
     chk (v12 = true → v12 = true) <|
     ltO (v12 && v13) fun (v14 : Bool) =>
     some (v14, ()))))
end Go.Tr
