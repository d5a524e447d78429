/- The functions that these laws reach, as Lean functions: printed by a program of this session's. Conditions: none. -/
import Derived.Test.YtfaaeeabiikhbaaDoorBD
import Derived.Test.YtfaaeeabiikhbaaDoorBE
import Derived.Test.YtfaaeeabiikhbaaDoorAddrD
import Derived.Test.YtfaaeeabiikhbaaDoorMacD
namespace Go.Tr
open Go
set_option linter.unusedVariables false
set_option maxRecDepth 100000
noncomputable def script_near (b : Int) : Option (Int × Unit) :=
  chk (¬(24 : Int) = (0 : Int)) <|
  ltO (b.tmod (24 : Int)) fun (v0 : Int) =>
  ltO (IntKind.u32.wrap v0) fun (v1 : Int) =>
  ltO (IntKind.u32.wrap ((167772160 : Int) + v1)) fun (v2 : Int) =>
  some (v2, ())
noncomputable def script_station (b : Int) : Option (TMac × Unit) :=
  chk (¬(3 : Int) = (0 : Int)) <|
  ltO (b.tmod (3 : Int)) fun (v0 : Int) =>
  ltO (IntKind.u8.wrap ((1 : Int) + v0)) fun (v1 : Int) =>
  some (((2 : Int), (0 : Int), (0 : Int), (0 : Int), (0 : Int), v1), ())
noncomputable def script_event (a' : Int) (b : Int) (c : Int) : Option (TEv × Unit) :=
  ltO (IntKind.i64.wrap a') fun (v0 : Int) =>
  chk (¬(7 : Int) = (0 : Int)) <|
  ltO (v0.tmod (7 : Int)) fun (v1 : Int) =>
  ltO (IntKind.i64.wrap (v1 + (1 : Int))) fun (v2 : Int) =>
  bnd (script_near (b)) fun y3 =>
  ltO (v2 == (1 : Int)) fun (v4 : Bool) =>
  cnd (v4) (
   chk (¬(3 : Int) = (0 : Int)) <|
   ltO (c.tmod (3 : Int)) fun (v5 : Int) =>
   ltO (IntKind.u8.wrap ((97 : Int) + v5)) fun (v6 : Int) =>
   ltO (toBytes [v6]) fun (v7 : List UInt8) =>
   cnd (decide (c ≥ (128 : Int))) (
    bnd (script_station (c)) fun y8 =>
    some ((v2, (y3.fst, v7, y8.fst), ((0 : Int), (0 : Int)), (0 : Int), zMac, (0 : Int)), ())) (
    some ((v2, (y3.fst, v7, (0 : Int), (0 : Int), (0 : Int), (0 : Int), (0 : Int), (0 : Int)), ((0 : Int), (0 : Int)), (0 : Int), zMac, (0 : Int)), ()))) (
   ltO (v2 == (3 : Int)) fun (v9 : Bool) =>
   cnd (v9) (
    chk (¬(4 : Int) = (0 : Int)) <|
    ltO (c.tmod (4 : Int)) fun (v10 : Int) =>
    ltO (IntKind.i64.wrap v10) fun (v11 : Int) =>
    ltO (IntKind.i64.wrap ((29 : Int) + v11)) fun (v12 : Int) =>
    bnd (script_near (b)) fun y13 =>
    ltO (IntKind.i64.wrap ((32 : Int) - v12)) fun (v14 : Int) =>
    chk ((0 : Int) ≤ v14) <|
    ltO (shlI IntKind.u32 (1 : Int) v14) fun (v15 : Int) =>
    ltO (IntKind.u32.wrap (v15 - (1 : Int))) fun (v16 : Int) =>
    ltO (IntKind.u32.wrap (bandnI IntKind.u32 y13.fst v16)) fun (v17 : Int) =>
    some ((v2, zHold, (v17, v12), (0 : Int), zMac, (0 : Int)), ())) (
    ltO (v2 == (4 : Int)) fun (v18 : Bool) =>
    cnd (v18) (
     chk (¬(4 : Int) = (0 : Int)) <|
     ltO (c.tmod (4 : Int)) fun (v19 : Int) =>
     ltO (IntKind.i64.wrap v19) fun (v20 : Int) =>
     ltO (IntKind.i64.wrap ((29 : Int) + v20)) fun (v21 : Int) =>
     bnd (script_near (b)) fun y22 =>
     ltO (IntKind.i64.wrap ((32 : Int) - v21)) fun (v23 : Int) =>
     chk ((0 : Int) ≤ v23) <|
     ltO (shlI IntKind.u32 (1 : Int) v23) fun (v24 : Int) =>
     ltO (IntKind.u32.wrap (v24 - (1 : Int))) fun (v25 : Int) =>
     ltO (IntKind.u32.wrap (bandnI IntKind.u32 y22.fst v25)) fun (v26 : Int) =>
     some ((v2, zHold, (v26, v21), (0 : Int), zMac, (0 : Int)), ())) (
     ltO (v2 == (5 : Int)) fun (v27 : Bool) =>
     cnd (v27) (
      ltO (IntKind.i64.wrap c) fun (v28 : Int) =>
      chk (¬(4 : Int) = (0 : Int)) <|
      ltO (v28.tmod (4 : Int)) fun (v29 : Int) =>
      chk (¬(4 : Int) = (0 : Int)) <|
      ltO (IntKind.u8.wrap (c.tdiv (4 : Int))) fun (v30 : Int) =>
      bnd (script_station (v30)) fun y31 =>
      some ((v2, (y3.fst, [], (0 : Int), (0 : Int), (0 : Int), (0 : Int), (0 : Int), (0 : Int)), ((0 : Int), (0 : Int)), v29, y31.fst, (0 : Int)), ())) (
      some ((v2, (y3.fst, [], (0 : Int), (0 : Int), (0 : Int), (0 : Int), (0 : Int), (0 : Int)), ((0 : Int), (0 : Int)), (0 : Int), zMac, (0 : Int)), ())))))
noncomputable def command_word (w : Int) : Option ((List UInt8) × Unit) :=
  chk ((!decide (w < (0 : Int))) = true → (!decide (w < (0 : Int))) = true) <|
  chk ((!decide (w < (0 : Int))) = true → (!decide (w < (0 : Int))) = true) <|
  chk ((!decide (w < (0 : Int))) = true → (!decide (w < (0 : Int))) = true) <|
  chk (decide (w < (0 : Int)) = false → (!decide (w < (0 : Int))) = true) <|
  ltO (decide (w < (0 : Int)) || decide (w ≥ (8 : Int))) fun (v0 : Bool) =>
  cnd (v0) (
   some ([], ())) (
   chk ((0 : Int) ≤ w ∧ w < (8 : Int)) <|
   chk (w.toNat < (8 : Nat)) <|
   some ([[], [(104 : UInt8), (111 : UInt8), (108 : UInt8), (100 : UInt8)], [(100 : UInt8), (114 : UInt8), (111 : UInt8), (112 : UInt8)], [(119 : UInt8), (97 : UInt8), (116 : UInt8), (99 : UInt8), (104 : UInt8)], [(105 : UInt8), (103 : UInt8), (110 : UInt8), (111 : UInt8), (114 : UInt8), (101 : UInt8)], [], [(97 : UInt8), (112 : UInt8), (112 : UInt8), (114 : UInt8), (111 : UInt8), (118 : UInt8), (101 : UInt8)], [(114 : UInt8), (101 : UInt8), (106 : UInt8), (101 : UInt8), (99 : UInt8), (116 : UInt8)]].getD w.toNat [], ()))
noncomputable def command_Text (e : Int × THold × (Int × Int) × Int × TMac × Int) : Option ((List UInt8) × Unit) :=
  ltO (e.fst == (3 : Int)) fun (v0 : Bool) =>
  cnd (v0) (
   bnd (command_word (e.fst)) fun y1 =>
   chk ((↑(y1.fst.length + (1 : Nat)) : Int) ≤ (9223372036854775807 : Int)) <|
   ltO (y1.fst ++ [(32 : UInt8)]) fun (v2 : List UInt8) =>
   bnd (addr_BlockText (e.snd.snd.fst)) fun y3 =>
   chk ((↑(v2.length + y3.fst.length) : Int) ≤ (9223372036854775807 : Int)) <|
   ltO (v2 ++ y3.fst) fun (v4 : List UInt8) =>
   some (v4, ())) (
   ltO (e.fst == (4 : Int)) fun (v5 : Bool) =>
   cnd (v5) (
    bnd (command_word (e.fst)) fun y6 =>
    chk ((↑(y6.fst.length + (1 : Nat)) : Int) ≤ (9223372036854775807 : Int)) <|
    ltO (y6.fst ++ [(32 : UInt8)]) fun (v7 : List UInt8) =>
    bnd (addr_BlockText (e.snd.snd.fst)) fun y8 =>
    chk ((↑(v7.length + y8.fst.length) : Int) ≤ (9223372036854775807 : Int)) <|
    ltO (v7 ++ y8.fst) fun (v9 : List UInt8) =>
    some (v9, ())) (
    ltO (e.fst == (1 : Int)) fun (v10 : Bool) =>
    cnd (v10) (
     bnd (addr_Text (e.snd.fst.fst)) fun y11 =>
     chk ((↑((5 : Nat) + y11.fst.length) : Int) ≤ (9223372036854775807 : Int)) <|
     ltO ([(104 : UInt8), (111 : UInt8), (108 : UInt8), (100 : UInt8), (32 : UInt8)] ++ y11.fst) fun (v12 : List UInt8) =>
     chk ((↑(v12.length + (1 : Nat)) : Int) ≤ (9223372036854775807 : Int)) <|
     ltO (v12 ++ [(32 : UInt8)]) fun (v13 : List UInt8) =>
     chk ((↑(v13.length + e.snd.fst.snd.fst.length) : Int) ≤ (9223372036854775807 : Int)) <|
     ltO (v13 ++ e.snd.fst.snd.fst) fun (v14 : List UInt8) =>
     bnd (mac_None (e.snd.fst.snd.snd)) fun y15 =>
     cnd (y15.fst) (
      some (v14, ())) (
      chk ((↑(v14.length + (1 : Nat)) : Int) ≤ (9223372036854775807 : Int)) <|
      ltO (v14 ++ [(32 : UInt8)]) fun (v16 : List UInt8) =>
      bnd (mac_Text (e.snd.fst.snd.snd)) fun y17 =>
      chk ((↑(v16.length + y17.fst.length) : Int) ≤ (9223372036854775807 : Int)) <|
      ltO (v16 ++ y17.fst) fun (v18 : List UInt8) =>
      some (v18, ()))) (
     ltO (e.fst == (2 : Int)) fun (v19 : Bool) =>
     cnd (v19) (
      bnd (command_word (e.fst)) fun y20 =>
      chk ((↑(y20.fst.length + (1 : Nat)) : Int) ≤ (9223372036854775807 : Int)) <|
      ltO (y20.fst ++ [(32 : UInt8)]) fun (v21 : List UInt8) =>
      bnd (addr_Text (e.snd.fst.fst)) fun y22 =>
      chk ((↑(v21.length + y22.fst.length) : Int) ≤ (9223372036854775807 : Int)) <|
      ltO (v21 ++ y22.fst) fun (v23 : List UInt8) =>
      some (v23, ())) (
      ltO (e.fst == (6 : Int)) fun (v24 : Bool) =>
      cnd (v24) (
       bnd (command_word (e.fst)) fun y25 =>
       chk ((↑(y25.fst.length + (1 : Nat)) : Int) ≤ (9223372036854775807 : Int)) <|
       ltO (y25.fst ++ [(32 : UInt8)]) fun (v26 : List UInt8) =>
       bnd (addr_Text (e.snd.fst.fst)) fun y27 =>
       chk ((↑(v26.length + y27.fst.length) : Int) ≤ (9223372036854775807 : Int)) <|
       ltO (v26 ++ y27.fst) fun (v28 : List UInt8) =>
       some (v28, ())) (
       ltO (e.fst == (7 : Int)) fun (v29 : Bool) =>
       cnd (v29) (
        bnd (command_word (e.fst)) fun y30 =>
        chk ((↑(y30.fst.length + (1 : Nat)) : Int) ≤ (9223372036854775807 : Int)) <|
        ltO (y30.fst ++ [(32 : UInt8)]) fun (v31 : List UInt8) =>
        bnd (addr_Text (e.snd.fst.fst)) fun y32 =>
        chk ((↑(v31.length + y32.fst.length) : Int) ≤ (9223372036854775807 : Int)) <|
        ltO (v31 ++ y32.fst) fun (v33 : List UInt8) =>
        some (v33, ())) (
        some ([], ())))))))
noncomputable def script_one (b : List Int) : Option (TAct × Unit) :=
  chk ((0 : Int) ≤ (0 : Int) ∧ (0 : Int) < (↑b.length : Int)) <|
  ltO (b.getD (0 : Nat) (0 : Int)) fun (v0 : Int) =>
  chk (¬(12 : Int) = (0 : Int)) <|
  ltO (Int.tmod v0 (12 : Int)) fun (v1 : Int) =>
  ltO (v1 == (0 : Int)) fun (v2 : Bool) =>
  cnd (v2) (
   chk ((0 : Int) ≤ (1 : Int) ∧ (1 : Int) < (↑b.length : Int)) <|
   ltO (b.getD (1 : Nat) (0 : Int)) fun (v3 : Int) =>
   chk ((0 : Int) ≤ (2 : Int) ∧ (2 : Int) < (↑b.length : Int)) <|
   ltO (b.getD (2 : Nat) (0 : Int)) fun (v4 : Int) =>
   chk ((0 : Int) ≤ (3 : Int) ∧ (3 : Int) < (↑b.length : Int)) <|
   ltO (b.getD (3 : Nat) (0 : Int)) fun (v5 : Int) =>
   bnd (script_event (v3) (v4) (v5)) fun y6 =>
   some (((0 : Int), y6.fst, [], (0 : Int), (0 : Int)), ())) (
   ltO (v1 == (1 : Int)) fun (v7 : Bool) =>
   cnd (v7) (
    chk ((0 : Int) ≤ (1 : Int) ∧ (1 : Int) < (↑b.length : Int)) <|
    ltO (b.getD (1 : Nat) (0 : Int)) fun (v8 : Int) =>
    chk ((0 : Int) ≤ (2 : Int) ∧ (2 : Int) < (↑b.length : Int)) <|
    ltO (b.getD (2 : Nat) (0 : Int)) fun (v9 : Int) =>
    chk ((0 : Int) ≤ (3 : Int) ∧ (3 : Int) < (↑b.length : Int)) <|
    ltO (b.getD (3 : Nat) (0 : Int)) fun (v10 : Int) =>
    bnd (script_event (v8) (v9) (v10)) fun y11 =>
    some (((0 : Int), y11.fst, [], (0 : Int), (0 : Int)), ())) (
    ltO (v1 == (2 : Int)) fun (v12 : Bool) =>
    cnd (v12) (
     chk ((0 : Int) ≤ (1 : Int) ∧ (1 : Int) < (↑b.length : Int)) <|
     ltO (b.getD (1 : Nat) (0 : Int)) fun (v13 : Int) =>
     chk ((0 : Int) ≤ (2 : Int) ∧ (2 : Int) < (↑b.length : Int)) <|
     ltO (b.getD (2 : Nat) (0 : Int)) fun (v14 : Int) =>
     chk ((0 : Int) ≤ (3 : Int) ∧ (3 : Int) < (↑b.length : Int)) <|
     ltO (b.getD (3 : Nat) (0 : Int)) fun (v15 : Int) =>
     bnd (script_event (v13) (v14) (v15)) fun y16 =>
     some (((0 : Int), y16.fst, [], (0 : Int), (0 : Int)), ())) (
     ltO (v1 == (3 : Int)) fun (v17 : Bool) =>
     cnd (v17) (
      chk ((0 : Int) ≤ (1 : Int) ∧ (1 : Int) < (↑b.length : Int)) <|
      ltO (b.getD (1 : Nat) (0 : Int)) fun (v18 : Int) =>
      chk ((0 : Int) ≤ (2 : Int) ∧ (2 : Int) < (↑b.length : Int)) <|
      ltO (b.getD (2 : Nat) (0 : Int)) fun (v19 : Int) =>
      chk ((0 : Int) ≤ (3 : Int) ∧ (3 : Int) < (↑b.length : Int)) <|
      ltO (b.getD (3 : Nat) (0 : Int)) fun (v20 : Int) =>
      bnd (script_event (v18) (v19) (v20)) fun y21 =>
      some (((0 : Int), y21.fst, [], (0 : Int), (0 : Int)), ())) (
      ltO (v1 == (4 : Int)) fun (v22 : Bool) =>
      cnd (v22) (
       chk ((0 : Int) ≤ (1 : Int) ∧ (1 : Int) < (↑b.length : Int)) <|
       ltO (b.getD (1 : Nat) (0 : Int)) fun (v23 : Int) =>
       ltO (IntKind.i64.wrap v23) fun (v24 : Int) =>
       chk ((0 : Int) ≤ (2 : Int) ∧ (2 : Int) < (↑b.length : Int)) <|
       ltO (b.getD (2 : Nat) (0 : Int)) fun (v25 : Int) =>
       ltO (IntKind.i64.wrap v25) fun (v26 : Int) =>
       some (((1 : Int), zEv, [], v24, v26), ())) (
       ltO (v1 == (5 : Int)) fun (v27 : Bool) =>
       cnd (v27) (
        chk ((0 : Int) ≤ (1 : Int) ∧ (1 : Int) < (↑b.length : Int)) <|
        ltO (b.getD (1 : Nat) (0 : Int)) fun (v28 : Int) =>
        chk ((0 : Int) ≤ (2 : Int) ∧ (2 : Int) < (↑b.length : Int)) <|
        ltO (b.getD (2 : Nat) (0 : Int)) fun (v29 : Int) =>
        chk ((0 : Int) ≤ (3 : Int) ∧ (3 : Int) < (↑b.length : Int)) <|
        ltO (b.getD (3 : Nat) (0 : Int)) fun (v30 : Int) =>
        bnd (script_event (v28) (v29) (v30)) fun y31 =>
        bnd (command_Text (y31.fst)) fun y32 =>
        ltO (!y32.fst == []) fun (v33 : Bool) =>
        cnd (v33) (
         some (((2 : Int), zEv, y32.fst, (0 : Int), (0 : Int)), ())) (
         chk ((0 : Int) ≤ (1 : Int) ∧ (1 : Int) ≤ (↑b.length : Int) ∧ (↑b.length : Int) ≤ (↑b.length : Int)) <|
         ltO (toBytes (sliceA (1 : Nat) (↑b.length : Int).toNat b)) fun (v34 : List UInt8) =>
         some (((2 : Int), zEv, v34, (0 : Int), (0 : Int)), ()))) (
        ltO (v1 == (6 : Int)) fun (v35 : Bool) =>
        cnd (v35) (
         chk ((0 : Int) ≤ (1 : Int) ∧ (1 : Int) < (↑b.length : Int)) <|
         ltO (b.getD (1 : Nat) (0 : Int)) fun (v36 : Int) =>
         ltO (IntKind.i64.wrap v36) fun (v37 : Int) =>
         chk (¬(30 : Int) = (0 : Int)) <|
         ltO (v37.tmod (30 : Int)) fun (v38 : Int) =>
         ltO (IntKind.i64.wrap ((1 : Int) + v38)) fun (v39 : Int) =>
         some (((3 : Int), zEv, [], v39, (0 : Int)), ())) (
         ltO (v1 == (7 : Int)) fun (v40 : Bool) =>
         cnd (v40) (
          chk ((0 : Int) ≤ (1 : Int) ∧ (1 : Int) < (↑b.length : Int)) <|
          ltO (b.getD (1 : Nat) (0 : Int)) fun (v41 : Int) =>
          ltO (IntKind.i64.wrap v41) fun (v42 : Int) =>
          chk (¬(30 : Int) = (0 : Int)) <|
          ltO (v42.tmod (30 : Int)) fun (v43 : Int) =>
          ltO (IntKind.i64.wrap ((1 : Int) + v43)) fun (v44 : Int) =>
          some (((3 : Int), zEv, [], v44, (0 : Int)), ())) (
          ltO (v1 == (8 : Int)) fun (v45 : Bool) =>
          cnd (v45) (
           chk ((0 : Int) ≤ (1 : Int) ∧ (1 : Int) < (↑b.length : Int)) <|
           ltO (b.getD (1 : Nat) (0 : Int)) fun (v46 : Int) =>
           ltO (IntKind.i64.wrap v46) fun (v47 : Int) =>
           chk (¬(30 : Int) = (0 : Int)) <|
           ltO (v47.tmod (30 : Int)) fun (v48 : Int) =>
           ltO (IntKind.i64.wrap ((1 : Int) + v48)) fun (v49 : Int) =>
           some (((3 : Int), zEv, [], v49, (0 : Int)), ())) (
           ltO (v1 == (9 : Int)) fun (v50 : Bool) =>
           cnd (v50) (
            some (((4 : Int), zEv, [], (0 : Int), (0 : Int)), ())) (
            ltO (v1 == (10 : Int)) fun (v51 : Bool) =>
            cnd (v51) (
             chk ((0 : Int) ≤ (1 : Int) ∧ (1 : Int) < (↑b.length : Int)) <|
             ltO (b.getD (1 : Nat) (0 : Int)) fun (v52 : Int) =>
             ltO (IntKind.i64.wrap v52) fun (v53 : Int) =>
             chk (¬(32 : Int) = (0 : Int)) <|
             ltO (v53.tmod (32 : Int)) fun (v54 : Int) =>
             chk ((0 : Int) ≤ (2 : Int) ∧ (2 : Int) < (↑b.length : Int)) <|
             ltO (b.getD (2 : Nat) (0 : Int)) fun (v55 : Int) =>
             ltO (IntKind.i64.wrap v55) fun (v56 : Int) =>
             some (((5 : Int), zEv, [], v54, v56), ())) (
             chk ((0 : Int) ≤ (1 : Int) ∧ (1 : Int) < (↑b.length : Int)) <|
             ltO (b.getD (1 : Nat) (0 : Int)) fun (v57 : Int) =>
             ltO (IntKind.i64.wrap v57) fun (v58 : Int) =>
             chk (¬(32 : Int) = (0 : Int)) <|
             ltO (v58.tmod (32 : Int)) fun (v59 : Int) =>
             some (((6 : Int), zEv, [], v59, (0 : Int)), ()))))))))))))
noncomputable def script_Acts_b0 (b : List Int) (out : List TAct) : Option (((List Int) × (List TAct) × Unit) ⊕ (((List TAct) × Unit) ⊕ ((List TAct) × Unit))) :=
  cnd (decide ((↑b.length : Int) ≥ (4 : Int))) (
   chk ((0 : Int) ≤ (0 : Int) ∧ (0 : Int) ≤ (4 : Int) ∧ (4 : Int) ≤ (↑b.length : Int)) <|
   bnd (script_one (sliceA (0 : Nat) (4 : Nat) b)) fun y0 =>
   chk (room (120 : Nat) (out.length + [(y0.fst)].length)) <|
   chk ((0 : Int) ≤ (4 : Int) ∧ (4 : Int) ≤ (↑b.length : Int) ∧ (↑b.length : Int) ≤ (↑b.length : Int)) <|
   some (.inl (sliceA (4 : Nat) (↑b.length : Int).toNat b, out ++ [(y0.fst)], ()))) (
   some (.inr (.inl (out, ()))))
noncomputable def script_Acts_l0 (s : (List Int) × (List TAct) × Unit) : Option (((List TAct) × Unit) ⊕ ((List TAct) × Unit)) := loopM (fun s : (List Int) × (List TAct) × Unit => script_Acts_b0 s.1 s.2.1) s
noncomputable def script_Acts (b : List Int) : Option ((List TAct) × Unit) :=
  bnd (script_Acts_l0 (b, [], ())) fun y1 =>
  sumO y1 (fun t2 =>
   some (t2.fst, ())) (fun r3 =>
   some (r3))
noncomputable def terrierlaw22_awake : Option (Bool × Unit) :=
  bnd (script_Acts ([(6 : Int), (9 : Int), (0 : Int), (0 : Int), (0 : Int), (1 : Int), (5 : Int), (0 : Int), (1 : Int)])) fun y0 =>
  ltO ((↑y0.fst.length : Int) == (2 : Int)) fun (v1 : Bool) =>
  chk (v1 = true → v1 = true) <|
  chk (v1 = true → (0 : Int) ≤ (0 : Int) ∧ (0 : Int) < (↑y0.fst.length : Int)) <|
  chk (v1 = true → v1 = true) <|
  chk (v1 = true → v1 = true) <|
  chk (v1 = true → (0 : Nat) < y0.fst.length) <|
  chk (v1 = true → v1 = true) <|
  ltO ((y0.fst.getD (0 : Nat) zAct).fst == (3 : Int)) fun (v2 : Bool) =>
  chk (v1 = true → v1 = true) <|
  ltO (v1 && v2) fun (v3 : Bool) =>
  chk (v3 = true → v3 = true) <|
  chk (v3 = true → (0 : Int) ≤ (0 : Int) ∧ (0 : Int) < (↑y0.fst.length : Int)) <|
  chk (v3 = true → v3 = true) <|
  chk (v3 = true → v3 = true) <|
  chk (v3 = true → (0 : Nat) < y0.fst.length) <|
  chk (v3 = true → v3 = true) <|
  ltO ((y0.fst.getD (0 : Nat) zAct).snd.snd.snd.fst == (10 : Int)) fun (v4 : Bool) =>
  chk (v3 = true → v3 = true) <|
  ltO (v3 && v4) fun (v5 : Bool) =>
  chk (v5 = true → v5 = true) <|
  chk (v5 = true → (0 : Int) ≤ (1 : Int) ∧ (1 : Int) < (↑y0.fst.length : Int)) <|
  chk (v5 = true → v5 = true) <|
  chk (v5 = true → v5 = true) <|
  chk (v5 = true → v5 = true) <|
  chk (v5 = true → (1 : Nat) < y0.fst.length) <|
  chk (v5 = true → v5 = true) <|
  ltO ((y0.fst.getD (1 : Nat) zAct).snd.fst.fst == (2 : Int)) fun (v6 : Bool) =>
  chk (v5 = true → v5 = true) <|
  ltO (v5 && v6) fun (v7 : Bool) =>
  chk (v7 = true → v7 = true) <|
  chk (v7 = true → (0 : Int) ≤ (1 : Int) ∧ (1 : Int) < (↑y0.fst.length : Int)) <|
  chk (v7 = true → v7 = true) <|
  chk (v7 = true → v7 = true) <|
  chk (v7 = true → v7 = true) <|
  chk (v7 = true → v7 = true) <|
  chk (v7 = true → (1 : Nat) < y0.fst.length) <|
  chk (v7 = true → v7 = true) <|
  ltO ((y0.fst.getD (1 : Nat) zAct).snd.fst.snd.fst.fst == (167772165 : Int)) fun (v8 : Bool) =>
  chk (v7 = true → v7 = true) <|
  ltO (v7 && v8) fun (v9 : Bool) =>
  some (v9, ())
end Go.Tr
