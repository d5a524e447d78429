/- The functions that these laws reach, as Lean functions: printed by a program of this session's. Conditions: none. -/
import Derived.Test.YtdbpknejbpiebaaBD
import Derived.Test.YtdbpknejbpiebaaBE
import Derived.Test.YtdbpknejbpiebaaAddrD
import Derived.Test.YtdbpknejbpiebaaMacD
namespace Go.Tr
open Go
set_option linter.unusedVariables false
set_option maxRecDepth 100000

noncomputable def script_near (b : Int) : Option (Int × Unit) :=
  chk (¬(24 : Int) = (0 : Int)) <|
  ltO (b.tmod (24 : Int)) fun (v0 : Int) =>
  ltO (IntKind.u32.wrap v0) fun (v1 : Int) =>
  ltO (IntKind.u32.wrap ((167772160 : Int) + v1)) fun (v2 : Int) =>
  some (v2, ())

noncomputable def script_station (b : Int) : Option (TMac × Unit) :=
  chk (¬(3 : Int) = (0 : Int)) <|
  ltO (b.tmod (3 : Int)) fun (v0 : Int) =>
  ltO (IntKind.u8.wrap ((1 : Int) + v0)) fun (v1 : Int) =>
  some (((2 : Int), (0 : Int), (0 : Int), (0 : Int), (0 : Int), v1), ())

noncomputable def script_event (a' : Int) (b : Int) (c : Int) : Option (TEv × Unit) :=
  ltO (IntKind.i64.wrap a') fun (v0 : Int) =>
  chk (¬(7 : Int) = (0 : Int)) <|
  ltO (v0.tmod (7 : Int)) fun (v1 : Int) =>
  ltO (IntKind.i64.wrap (v1 + (1 : Int))) fun (v2 : Int) =>
  bnd (script_near (b)) fun y3 =>
  ltO (v2 == (1 : Int)) fun (v4 : Bool) =>
  cnd (v4) (
   chk (¬(3 : Int) = (0 : Int)) <|
   ltO (c.tmod (3 : Int)) fun (v5 : Int) =>
   ltO (IntKind.u8.wrap ((97 : Int) + v5)) fun (v6 : Int) =>
   ltO (toBytes [v6]) fun (v7 : List UInt8) =>
   cnd (decide (c ≥ (128 : Int))) (
    bnd (script_station (c)) fun y8 =>
    some ((v2, (y3.fst, v7, y8.fst), ((0 : Int), (0 : Int)), (0 : Int), zMac, (0 : Int)), ())) (
    some ((v2, (y3.fst, v7, (0 : Int), (0 : Int), (0 : Int), (0 : Int), (0 : Int), (0 : Int)), ((0 : Int), (0 : Int)), (0 : Int), zMac, (0 : Int)), ()))) (
   ltO (v2 == (3 : Int)) fun (v9 : Bool) =>
   cnd (v9) (
    chk (¬(4 : Int) = (0 : Int)) <|
    ltO (c.tmod (4 : Int)) fun (v10 : Int) =>
    ltO (IntKind.i64.wrap v10) fun (v11 : Int) =>
    ltO (IntKind.i64.wrap ((29 : Int) + v11)) fun (v12 : Int) =>
    bnd (script_near (b)) fun y13 =>
    ltO (IntKind.i64.wrap ((32 : Int) - v12)) fun (v14 : Int) =>
    chk ((0 : Int) ≤ v14) <|
    ltO (shlI IntKind.u32 (1 : Int) v14) fun (v15 : Int) =>
    ltO (IntKind.u32.wrap (v15 - (1 : Int))) fun (v16 : Int) =>
    ltO (IntKind.u32.wrap (bandnI IntKind.u32 y13.fst v16)) fun (v17 : Int) =>
    some ((v2, zHold, (v17, v12), (0 : Int), zMac, (0 : Int)), ())) (
    ltO (v2 == (4 : Int)) fun (v18 : Bool) =>
    cnd (v18) (
     chk (¬(4 : Int) = (0 : Int)) <|
     ltO (c.tmod (4 : Int)) fun (v19 : Int) =>
     ltO (IntKind.i64.wrap v19) fun (v20 : Int) =>
     ltO (IntKind.i64.wrap ((29 : Int) + v20)) fun (v21 : Int) =>
     bnd (script_near (b)) fun y22 =>
     ltO (IntKind.i64.wrap ((32 : Int) - v21)) fun (v23 : Int) =>
     chk ((0 : Int) ≤ v23) <|
     ltO (shlI IntKind.u32 (1 : Int) v23) fun (v24 : Int) =>
     ltO (IntKind.u32.wrap (v24 - (1 : Int))) fun (v25 : Int) =>
     ltO (IntKind.u32.wrap (bandnI IntKind.u32 y22.fst v25)) fun (v26 : Int) =>
     some ((v2, zHold, (v26, v21), (0 : Int), zMac, (0 : Int)), ())) (
     ltO (v2 == (5 : Int)) fun (v27 : Bool) =>
     cnd (v27) (
      ltO (IntKind.i64.wrap c) fun (v28 : Int) =>
      chk (¬(4 : Int) = (0 : Int)) <|
      ltO (v28.tmod (4 : Int)) fun (v29 : Int) =>
      chk (¬(4 : Int) = (0 : Int)) <|
      ltO (IntKind.u8.wrap (c.tdiv (4 : Int))) fun (v30 : Int) =>
      bnd (script_station (v30)) fun y31 =>
      some ((v2, (y3.fst, [], (0 : Int), (0 : Int), (0 : Int), (0 : Int), (0 : Int), (0 : Int)), ((0 : Int), (0 : Int)), v29, y31.fst, (0 : Int)), ())) (
      some ((v2, (y3.fst, [], (0 : Int), (0 : Int), (0 : Int), (0 : Int), (0 : Int), (0 : Int)), ((0 : Int), (0 : Int)), (0 : Int), zMac, (0 : Int)), ())))))

noncomputable def command_word (w : Int) : Option ((List UInt8) × Unit) :=
  chk ((!decide (w < (0 : Int))) = true → (!decide (w < (0 : Int))) = true) <|
  chk ((!decide (w < (0 : Int))) = true → (!decide (w < (0 : Int))) = true) <|
  chk ((!decide (w < (0 : Int))) = true → (!decide (w < (0 : Int))) = true) <|
  chk (decide (w < (0 : Int)) = false → (!decide (w < (0 : Int))) = true) <|
  ltO (decide (w < (0 : Int)) || decide (w ≥ (8 : Int))) fun (v0 : Bool) =>
  cnd (v0) (
   some ([], ())) (
   chk ((0 : Int) ≤ w ∧ w < (8 : Int)) <|
   chk (w.toNat < (8 : Nat)) <|
   some ([[], [(104 : UInt8), (111 : UInt8), (108 : UInt8), (100 : UInt8)], [(100 : UInt8), (114 : UInt8), (111 : UInt8), (112 : UInt8)], [(119 : UInt8), (97 : UInt8), (116 : UInt8), (99 : UInt8), (104 : UInt8)], [(105 : UInt8), (103 : UInt8), (110 : UInt8), (111 : UInt8), (114 : UInt8), (101 : UInt8)], [], [(97 : UInt8), (112 : UInt8), (112 : UInt8), (114 : UInt8), (111 : UInt8), (118 : UInt8), (101 : UInt8)], [(114 : UInt8), (101 : UInt8), (106 : UInt8), (101 : UInt8), (99 : UInt8), (116 : UInt8)]].getD w.toNat [], ()))

noncomputable def command_Text (e : Int × THold × (Int × Int) × Int × TMac × Int) : Option ((List UInt8) × Unit) :=
  ltO (e.fst == (3 : Int)) fun (v0 : Bool) =>
  cnd (v0) (
   bnd (command_word (e.fst)) fun y1 =>
   chk ((↑(y1.fst.length + (1 : Nat)) : Int) ≤ (9223372036854775807 : Int)) <|
   ltO (y1.fst ++ [(32 : UInt8)]) fun (v2 : List UInt8) =>
   bnd (addr_BlockText (e.snd.snd.fst)) fun y3 =>
   chk ((↑(v2.length + y3.fst.length) : Int) ≤ (9223372036854775807 : Int)) <|
   ltO (v2 ++ y3.fst) fun (v4 : List UInt8) =>
   some (v4, ())) (
   ltO (e.fst == (4 : Int)) fun (v5 : Bool) =>
   cnd (v5) (
    bnd (command_word (e.fst)) fun y6 =>
    chk ((↑(y6.fst.length + (1 : Nat)) : Int) ≤ (9223372036854775807 : Int)) <|
    ltO (y6.fst ++ [(32 : UInt8)]) fun (v7 : List UInt8) =>
    bnd (addr_BlockText (e.snd.snd.fst)) fun y8 =>
    chk ((↑(v7.length + y8.fst.length) : Int) ≤ (9223372036854775807 : Int)) <|
    ltO (v7 ++ y8.fst) fun (v9 : List UInt8) =>
    some (v9, ())) (
    ltO (e.fst == (1 : Int)) fun (v10 : Bool) =>
    cnd (v10) (
     bnd (addr_Text (e.snd.fst.fst)) fun y11 =>
     chk ((↑((5 : Nat) + y11.fst.length) : Int) ≤ (9223372036854775807 : Int)) <|
     ltO ([(104 : UInt8), (111 : UInt8), (108 : UInt8), (100 : UInt8), (32 : UInt8)] ++ y11.fst) fun (v12 : List UInt8) =>
     chk ((↑(v12.length + (1 : Nat)) : Int) ≤ (9223372036854775807 : Int)) <|
     ltO (v12 ++ [(32 : UInt8)]) fun (v13 : List UInt8) =>
     chk ((↑(v13.length + e.snd.fst.snd.fst.length) : Int) ≤ (9223372036854775807 : Int)) <|
     ltO (v13 ++ e.snd.fst.snd.fst) fun (v14 : List UInt8) =>
     bnd (mac_None (e.snd.fst.snd.snd)) fun y15 =>
     cnd (y15.fst) (
      some (v14, ())) (
      chk ((↑(v14.length + (1 : Nat)) : Int) ≤ (9223372036854775807 : Int)) <|
      ltO (v14 ++ [(32 : UInt8)]) fun (v16 : List UInt8) =>
      bnd (mac_Text (e.snd.fst.snd.snd)) fun y17 =>
      chk ((↑(v16.length + y17.fst.length) : Int) ≤ (9223372036854775807 : Int)) <|
      ltO (v16 ++ y17.fst) fun (v18 : List UInt8) =>
      some (v18, ()))) (
     ltO (e.fst == (2 : Int)) fun (v19 : Bool) =>
     cnd (v19) (
      bnd (command_word (e.fst)) fun y20 =>
      chk ((↑(y20.fst.length + (1 : Nat)) : Int) ≤ (9223372036854775807 : Int)) <|
      ltO (y20.fst ++ [(32 : UInt8)]) fun (v21 : List UInt8) =>
      bnd (addr_Text (e.snd.fst.fst)) fun y22 =>
      chk ((↑(v21.length + y22.fst.length) : Int) ≤ (9223372036854775807 : Int)) <|
      ltO (v21 ++ y22.fst) fun (v23 : List UInt8) =>
      some (v23, ())) (
      ltO (e.fst == (6 : Int)) fun (v24 : Bool) =>
      cnd (v24) (
       bnd (command_word (e.fst)) fun y25 =>
       chk ((↑(y25.fst.length + (1 : Nat)) : Int) ≤ (9223372036854775807 : Int)) <|
       ltO (y25.fst ++ [(32 : UInt8)]) fun (v26 : List UInt8) =>
       bnd (addr_Text (e.snd.fst.fst)) fun y27 =>
       chk ((↑(v26.length + y27.fst.length) : Int) ≤ (9223372036854775807 : Int)) <|
       ltO (v26 ++ y27.fst) fun (v28 : List UInt8) =>
       some (v28, ())) (
       ltO (e.fst == (7 : Int)) fun (v29 : Bool) =>
       cnd (v29) (
        bnd (command_word (e.fst)) fun y30 =>
        chk ((↑(y30.fst.length + (1 : Nat)) : Int) ≤ (9223372036854775807 : Int)) <|
        ltO (y30.fst ++ [(32 : UInt8)]) fun (v31 : List UInt8) =>
        bnd (addr_Text (e.snd.fst.fst)) fun y32 =>
        chk ((↑(v31.length + y32.fst.length) : Int) ≤ (9223372036854775807 : Int)) <|
        ltO (v31 ++ y32.fst) fun (v33 : List UInt8) =>
        some (v33, ())) (
        some ([], ())))))))

noncomputable def script_one (b : List Int) : Option (TAct × Unit) :=
  chk ((0 : Int) ≤ (0 : Int) ∧ (0 : Int) < (↑b.length : Int)) <|
  ltO (b.getD (0 : Nat) (0 : Int)) fun (v0 : Int) =>
  chk (¬(12 : Int) = (0 : Int)) <|
  ltO (Int.tmod v0 (12 : Int)) fun (v1 : Int) =>
  ltO (v1 == (0 : Int)) fun (v2 : Bool) =>
  cnd (v2) (
   chk ((0 : Int) ≤ (1 : Int) ∧ (1 : Int) < (↑b.length : Int)) <|
   ltO (b.getD (1 : Nat) (0 : Int)) fun (v3 : Int) =>
   chk ((0 : Int) ≤ (2 : Int) ∧ (2 : Int) < (↑b.length : Int)) <|
   ltO (b.getD (2 : Nat) (0 : Int)) fun (v4 : Int) =>
   chk ((0 : Int) ≤ (3 : Int) ∧ (3 : Int) < (↑b.length : Int)) <|
   ltO (b.getD (3 : Nat) (0 : Int)) fun (v5 : Int) =>
   bnd (script_event (v3) (v4) (v5)) fun y6 =>
   some (((0 : Int), y6.fst, [], (0 : Int), (0 : Int)), ())) (
   ltO (v1 == (1 : Int)) fun (v7 : Bool) =>
   cnd (v7) (
    chk ((0 : Int) ≤ (1 : Int) ∧ (1 : Int) < (↑b.length : Int)) <|
    ltO (b.getD (1 : Nat) (0 : Int)) fun (v8 : Int) =>
    chk ((0 : Int) ≤ (2 : Int) ∧ (2 : Int) < (↑b.length : Int)) <|
    ltO (b.getD (2 : Nat) (0 : Int)) fun (v9 : Int) =>
    chk ((0 : Int) ≤ (3 : Int) ∧ (3 : Int) < (↑b.length : Int)) <|
    ltO (b.getD (3 : Nat) (0 : Int)) fun (v10 : Int) =>
    bnd (script_event (v8) (v9) (v10)) fun y11 =>
    some (((0 : Int), y11.fst, [], (0 : Int), (0 : Int)), ())) (
    ltO (v1 == (2 : Int)) fun (v12 : Bool) =>
    cnd (v12) (
     chk ((0 : Int) ≤ (1 : Int) ∧ (1 : Int) < (↑b.length : Int)) <|
     ltO (b.getD (1 : Nat) (0 : Int)) fun (v13 : Int) =>
     chk ((0 : Int) ≤ (2 : Int) ∧ (2 : Int) < (↑b.length : Int)) <|
     ltO (b.getD (2 : Nat) (0 : Int)) fun (v14 : Int) =>
     chk ((0 : Int) ≤ (3 : Int) ∧ (3 : Int) < (↑b.length : Int)) <|
     ltO (b.getD (3 : Nat) (0 : Int)) fun (v15 : Int) =>
     bnd (script_event (v13) (v14) (v15)) fun y16 =>
     some (((0 : Int), y16.fst, [], (0 : Int), (0 : Int)), ())) (
     ltO (v1 == (3 : Int)) fun (v17 : Bool) =>
     cnd (v17) (
      chk ((0 : Int) ≤ (1 : Int) ∧ (1 : Int) < (↑b.length : Int)) <|
      ltO (b.getD (1 : Nat) (0 : Int)) fun (v18 : Int) =>
      chk ((0 : Int) ≤ (2 : Int) ∧ (2 : Int) < (↑b.length : Int)) <|
      ltO (b.getD (2 : Nat) (0 : Int)) fun (v19 : Int) =>
      chk ((0 : Int) ≤ (3 : Int) ∧ (3 : Int) < (↑b.length : Int)) <|
      ltO (b.getD (3 : Nat) (0 : Int)) fun (v20 : Int) =>
      bnd (script_event (v18) (v19) (v20)) fun y21 =>
      some (((0 : Int), y21.fst, [], (0 : Int), (0 : Int)), ())) (
      ltO (v1 == (4 : Int)) fun (v22 : Bool) =>
      cnd (v22) (
       chk ((0 : Int) ≤ (1 : Int) ∧ (1 : Int) < (↑b.length : Int)) <|
       ltO (b.getD (1 : Nat) (0 : Int)) fun (v23 : Int) =>
       ltO (IntKind.i64.wrap v23) fun (v24 : Int) =>
       chk ((0 : Int) ≤ (2 : Int) ∧ (2 : Int) < (↑b.length : Int)) <|
       ltO (b.getD (2 : Nat) (0 : Int)) fun (v25 : Int) =>
       ltO (IntKind.i64.wrap v25) fun (v26 : Int) =>
       some (((1 : Int), zEv, [], v24, v26), ())) (
       ltO (v1 == (5 : Int)) fun (v27 : Bool) =>
       cnd (v27) (
        chk ((0 : Int) ≤ (1 : Int) ∧ (1 : Int) < (↑b.length : Int)) <|
        ltO (b.getD (1 : Nat) (0 : Int)) fun (v28 : Int) =>
        chk ((0 : Int) ≤ (2 : Int) ∧ (2 : Int) < (↑b.length : Int)) <|
        ltO (b.getD (2 : Nat) (0 : Int)) fun (v29 : Int) =>
        chk ((0 : Int) ≤ (3 : Int) ∧ (3 : Int) < (↑b.length : Int)) <|
        ltO (b.getD (3 : Nat) (0 : Int)) fun (v30 : Int) =>
        bnd (script_event (v28) (v29) (v30)) fun y31 =>
        bnd (command_Text (y31.fst)) fun y32 =>
        ltO (!y32.fst == []) fun (v33 : Bool) =>
        cnd (v33) (
         some (((2 : Int), zEv, y32.fst, (0 : Int), (0 : Int)), ())) (
         chk ((0 : Int) ≤ (1 : Int) ∧ (1 : Int) ≤ (↑b.length : Int) ∧ (↑b.length : Int) ≤ (↑b.length : Int)) <|
         ltO (toBytes (sliceA (1 : Nat) (↑b.length : Int).toNat b)) fun (v34 : List UInt8) =>
         some (((2 : Int), zEv, v34, (0 : Int), (0 : Int)), ()))) (
        ltO (v1 == (6 : Int)) fun (v35 : Bool) =>
        cnd (v35) (
         chk ((0 : Int) ≤ (1 : Int) ∧ (1 : Int) < (↑b.length : Int)) <|
         ltO (b.getD (1 : Nat) (0 : Int)) fun (v36 : Int) =>
         ltO (IntKind.i64.wrap v36) fun (v37 : Int) =>
         chk (¬(30 : Int) = (0 : Int)) <|
         ltO (v37.tmod (30 : Int)) fun (v38 : Int) =>
         ltO (IntKind.i64.wrap ((1 : Int) + v38)) fun (v39 : Int) =>
         some (((3 : Int), zEv, [], v39, (0 : Int)), ())) (
         ltO (v1 == (7 : Int)) fun (v40 : Bool) =>
         cnd (v40) (
          chk ((0 : Int) ≤ (1 : Int) ∧ (1 : Int) < (↑b.length : Int)) <|
          ltO (b.getD (1 : Nat) (0 : Int)) fun (v41 : Int) =>
          ltO (IntKind.i64.wrap v41) fun (v42 : Int) =>
          chk (¬(30 : Int) = (0 : Int)) <|
          ltO (v42.tmod (30 : Int)) fun (v43 : Int) =>
          ltO (IntKind.i64.wrap ((1 : Int) + v43)) fun (v44 : Int) =>
          some (((3 : Int), zEv, [], v44, (0 : Int)), ())) (
          ltO (v1 == (8 : Int)) fun (v45 : Bool) =>
          cnd (v45) (
           chk ((0 : Int) ≤ (1 : Int) ∧ (1 : Int) < (↑b.length : Int)) <|
           ltO (b.getD (1 : Nat) (0 : Int)) fun (v46 : Int) =>
           ltO (IntKind.i64.wrap v46) fun (v47 : Int) =>
           chk (¬(30 : Int) = (0 : Int)) <|
           ltO (v47.tmod (30 : Int)) fun (v48 : Int) =>
           ltO (IntKind.i64.wrap ((1 : Int) + v48)) fun (v49 : Int) =>
           some (((3 : Int), zEv, [], v49, (0 : Int)), ())) (
           ltO (v1 == (9 : Int)) fun (v50 : Bool) =>
           cnd (v50) (
            some (((4 : Int), zEv, [], (0 : Int), (0 : Int)), ())) (
            ltO (v1 == (10 : Int)) fun (v51 : Bool) =>
            cnd (v51) (
             chk ((0 : Int) ≤ (1 : Int) ∧ (1 : Int) < (↑b.length : Int)) <|
             ltO (b.getD (1 : Nat) (0 : Int)) fun (v52 : Int) =>
             ltO (IntKind.i64.wrap v52) fun (v53 : Int) =>
             chk (¬(32 : Int) = (0 : Int)) <|
             ltO (v53.tmod (32 : Int)) fun (v54 : Int) =>
             chk ((0 : Int) ≤ (2 : Int) ∧ (2 : Int) < (↑b.length : Int)) <|
             ltO (b.getD (2 : Nat) (0 : Int)) fun (v55 : Int) =>
             ltO (IntKind.i64.wrap v55) fun (v56 : Int) =>
             some (((5 : Int), zEv, [], v54, v56), ())) (
             chk ((0 : Int) ≤ (1 : Int) ∧ (1 : Int) < (↑b.length : Int)) <|
             ltO (b.getD (1 : Nat) (0 : Int)) fun (v57 : Int) =>
             ltO (IntKind.i64.wrap v57) fun (v58 : Int) =>
             chk (¬(32 : Int) = (0 : Int)) <|
             ltO (v58.tmod (32 : Int)) fun (v59 : Int) =>
             some (((6 : Int), zEv, [], v59, (0 : Int)), ()))))))))))))

noncomputable def script_Acts_b0 (b : List Int) (out : List TAct) : Option (((List Int) × (List TAct) × Unit) ⊕ (((List TAct) × Unit) ⊕ ((List TAct) × Unit))) :=
  cnd (decide ((↑b.length : Int) ≥ (4 : Int))) (
   chk ((0 : Int) ≤ (0 : Int) ∧ (0 : Int) ≤ (4 : Int) ∧ (4 : Int) ≤ (↑b.length : Int)) <|
   bnd (script_one (sliceA (0 : Nat) (4 : Nat) b)) fun y0 =>
   chk (room (120 : Nat) (out.length + [(y0.fst)].length)) <|
   chk ((0 : Int) ≤ (4 : Int) ∧ (4 : Int) ≤ (↑b.length : Int) ∧ (↑b.length : Int) ≤ (↑b.length : Int)) <|
   some (.inl (sliceA (4 : Nat) (↑b.length : Int).toNat b, out ++ [(y0.fst)], ()))) (
   some (.inr (.inl (out, ()))))

noncomputable def script_Acts_l0 (s : (List Int) × (List TAct) × Unit) : Option (((List TAct) × Unit) ⊕ ((List TAct) × Unit)) := loopM (fun s : (List Int) × (List TAct) × Unit => script_Acts_b0 s.1 s.2.1) s

noncomputable def script_Acts (b : List Int) : Option ((List TAct) × Unit) :=
  bnd (script_Acts_l0 (b, [], ())) fun y1 =>
  sumO y1 (fun t2 =>
   some (t2.fst, ())) (fun r3 =>
   some (r3))

noncomputable def terrierlaw22_awake : Option (Bool × Unit) :=
  bnd (script_Acts ([(6 : Int), (9 : Int), (0 : Int), (0 : Int), (0 : Int), (1 : Int), (5 : Int), (0 : Int), (1 : Int)])) fun y0 =>
  ltO ((↑y0.fst.length : Int) == (2 : Int)) fun (v1 : Bool) =>
  chk (v1 = true → v1 = true) <|
  chk (v1 = true → (0 : Int) ≤ (0 : Int) ∧ (0 : Int) < (↑y0.fst.length : Int)) <|
  chk (v1 = true → v1 = true) <|
  chk (v1 = true → v1 = true) <|
  chk (v1 = true → (0 : Nat) < y0.fst.length) <|
  chk (v1 = true → v1 = true) <|
  ltO ((y0.fst.getD (0 : Nat) zAct).fst == (3 : Int)) fun (v2 : Bool) =>
  chk (v1 = true → v1 = true) <|
  ltO (v1 && v2) fun (v3 : Bool) =>
  chk (v3 = true → v3 = true) <|
  chk (v3 = true → (0 : Int) ≤ (0 : Int) ∧ (0 : Int) < (↑y0.fst.length : Int)) <|
  chk (v3 = true → v3 = true) <|
  chk (v3 = true → v3 = true) <|
  chk (v3 = true → (0 : Nat) < y0.fst.length) <|
  chk (v3 = true → v3 = true) <|
  ltO ((y0.fst.getD (0 : Nat) zAct).snd.snd.snd.fst == (10 : Int)) fun (v4 : Bool) =>
  chk (v3 = true → v3 = true) <|
  ltO (v3 && v4) fun (v5 : Bool) =>
  chk (v5 = true → v5 = true) <|
  chk (v5 = true → (0 : Int) ≤ (1 : Int) ∧ (1 : Int) < (↑y0.fst.length : Int)) <|
  chk (v5 = true → v5 = true) <|
  chk (v5 = true → v5 = true) <|
  chk (v5 = true → v5 = true) <|
  chk (v5 = true → (1 : Nat) < y0.fst.length) <|
  chk (v5 = true → v5 = true) <|
  ltO ((y0.fst.getD (1 : Nat) zAct).snd.fst.fst == (2 : Int)) fun (v6 : Bool) =>
  chk (v5 = true → v5 = true) <|
  ltO (v5 && v6) fun (v7 : Bool) =>
  chk (v7 = true → v7 = true) <|
  chk (v7 = true → (0 : Int) ≤ (1 : Int) ∧ (1 : Int) < (↑y0.fst.length : Int)) <|
  chk (v7 = true → v7 = true) <|
  chk (v7 = true → v7 = true) <|
  chk (v7 = true → v7 = true) <|
  chk (v7 = true → v7 = true) <|
  chk (v7 = true → (1 : Nat) < y0.fst.length) <|
  chk (v7 = true → v7 = true) <|
  ltO ((y0.fst.getD (1 : Nat) zAct).snd.fst.snd.fst.fst == (167772165 : Int)) fun (v8 : Bool) =>
  chk (v7 = true → v7 = true) <|
  ltO (v7 && v8) fun (v9 : Bool) =>
  some (v9, ())

noncomputable def terrierlaw22_event (x : Int) (y : Int) (z : Int) : Option (TEv × Unit) :=
  chk (¬(24 : Int) = (0 : Int)) <|
  ltO (y.tmod (24 : Int)) fun (v0 : Int) =>
  ltO (IntKind.u32.wrap v0) fun (v1 : Int) =>
  ltO (IntKind.u32.wrap ((167772160 : Int) + v1)) fun (v2 : Int) =>
  chk (¬(7 : Int) = (0 : Int)) <|
  ltO (x.tmod (7 : Int)) fun (v3 : Int) =>
  ltO (IntKind.u8.wrap ((1 : Int) + v3)) fun (v4 : Int) =>
  ltO (IntKind.i64.wrap v4) fun (v5 : Int) =>
  ltO (v5 == (3 : Int)) fun (v6 : Bool) =>
  chk ((!v6) = true → (!v6) = true) <|
  ltO (v5 == (4 : Int)) fun (v7 : Bool) =>
  chk (v6 = false → (!v6) = true) <|
  ltO (v6 || v7) fun (v8 : Bool) =>
  cnd (v8) (
   chk (¬(4 : Int) = (0 : Int)) <|
   ltO (z.tmod (4 : Int)) fun (v9 : Int) =>
   ltO (IntKind.i64.wrap v9) fun (v10 : Int) =>
   ltO (IntKind.i64.wrap ((29 : Int) + v10)) fun (v11 : Int) =>
   ltO (IntKind.i64.wrap ((32 : Int) - v11)) fun (v12 : Int) =>
   chk ((0 : Int) ≤ v12) <|
   ltO (shrI IntKind.u32 v2 v12) fun (v13 : Int) =>
   ltO (IntKind.i64.wrap ((32 : Int) - v11)) fun (v14 : Int) =>
   chk ((0 : Int) ≤ v14) <|
   ltO (shlI IntKind.u32 v13 v14) fun (v15 : Int) =>
   some ((v5, zHold, (v15, v11), (0 : Int), zMac, (0 : Int)), ())) (
   ltO (v5 == (1 : Int)) fun (v16 : Bool) =>
   cnd (v16) (
    chk (¬(3 : Int) = (0 : Int)) <|
    ltO (z.tmod (3 : Int)) fun (v17 : Int) =>
    chk (¬(3 : Int) = (0 : Int)) <|
    ltO (z.tmod (3 : Int)) fun (v18 : Int) =>
    ltO (IntKind.u8.wrap (v18 + (1 : Int))) fun (v19 : Int) =>
    chk ((0 : Int) ≤ v17 ∧ v17 ≤ v19 ∧ v19 ≤ (3 : Int)) <|
    cnd (decide (z > (127 : Int))) (
     chk (¬(3 : Int) = (0 : Int)) <|
     ltO (z.tmod (3 : Int)) fun (v20 : Int) =>
     ltO (IntKind.u8.wrap ((1 : Int) + v20)) fun (v21 : Int) =>
     ltO (v5 == (5 : Int)) fun (v22 : Bool) =>
     cnd (v22) (
      chk (¬(4 : Int) = (0 : Int)) <|
      ltO (z.tmod (4 : Int)) fun (v23 : Int) =>
      ltO (IntKind.i64.wrap v23) fun (v24 : Int) =>
      chk (¬(4 : Int) = (0 : Int)) <|
      ltO (IntKind.u8.wrap (z.tdiv (4 : Int))) fun (v25 : Int) =>
      chk (¬(3 : Int) = (0 : Int)) <|
      ltO (v25.tmod (3 : Int)) fun (v26 : Int) =>
      ltO (IntKind.u8.wrap ((1 : Int) + v26)) fun (v27 : Int) =>
      some ((v5, (v2, sliceA v17.toNat v19.toNat [(97 : UInt8), (98 : UInt8), (99 : UInt8)], (2 : Int), (0 : Int), (0 : Int), (0 : Int), (0 : Int), v21), ((0 : Int), (0 : Int)), v24, ((2 : Int), (0 : Int), (0 : Int), (0 : Int), (0 : Int), v27), (0 : Int)), ())) (
      some ((v5, (v2, sliceA v17.toNat v19.toNat [(97 : UInt8), (98 : UInt8), (99 : UInt8)], (2 : Int), (0 : Int), (0 : Int), (0 : Int), (0 : Int), v21), ((0 : Int), (0 : Int)), (0 : Int), zMac, (0 : Int)), ()))) (
     ltO (v5 == (5 : Int)) fun (v28 : Bool) =>
     cnd (v28) (
      chk (¬(4 : Int) = (0 : Int)) <|
      ltO (z.tmod (4 : Int)) fun (v29 : Int) =>
      ltO (IntKind.i64.wrap v29) fun (v30 : Int) =>
      chk (¬(4 : Int) = (0 : Int)) <|
      ltO (IntKind.u8.wrap (z.tdiv (4 : Int))) fun (v31 : Int) =>
      chk (¬(3 : Int) = (0 : Int)) <|
      ltO (v31.tmod (3 : Int)) fun (v32 : Int) =>
      ltO (IntKind.u8.wrap ((1 : Int) + v32)) fun (v33 : Int) =>
      some ((v5, (v2, sliceA v17.toNat v19.toNat [(97 : UInt8), (98 : UInt8), (99 : UInt8)], (0 : Int), (0 : Int), (0 : Int), (0 : Int), (0 : Int), (0 : Int)), ((0 : Int), (0 : Int)), v30, ((2 : Int), (0 : Int), (0 : Int), (0 : Int), (0 : Int), v33), (0 : Int)), ())) (
      some ((v5, (v2, sliceA v17.toNat v19.toNat [(97 : UInt8), (98 : UInt8), (99 : UInt8)], (0 : Int), (0 : Int), (0 : Int), (0 : Int), (0 : Int), (0 : Int)), ((0 : Int), (0 : Int)), (0 : Int), zMac, (0 : Int)), ())))) (
    ltO (v5 == (5 : Int)) fun (v34 : Bool) =>
    cnd (v34) (
     chk (¬(4 : Int) = (0 : Int)) <|
     ltO (z.tmod (4 : Int)) fun (v35 : Int) =>
     ltO (IntKind.i64.wrap v35) fun (v36 : Int) =>
     chk (¬(4 : Int) = (0 : Int)) <|
     ltO (IntKind.u8.wrap (z.tdiv (4 : Int))) fun (v37 : Int) =>
     chk (¬(3 : Int) = (0 : Int)) <|
     ltO (v37.tmod (3 : Int)) fun (v38 : Int) =>
     ltO (IntKind.u8.wrap ((1 : Int) + v38)) fun (v39 : Int) =>
     some ((v5, (v2, [], (0 : Int), (0 : Int), (0 : Int), (0 : Int), (0 : Int), (0 : Int)), ((0 : Int), (0 : Int)), v36, ((2 : Int), (0 : Int), (0 : Int), (0 : Int), (0 : Int), v39), (0 : Int)), ())) (
     some ((v5, (v2, [], (0 : Int), (0 : Int), (0 : Int), (0 : Int), (0 : Int), (0 : Int)), ((0 : Int), (0 : Int)), (0 : Int), zMac, (0 : Int)), ()))))

noncomputable def terrierlaw22_act (b : List Int) : Option (TAct × Unit) :=
  chk ((0 : Int) ≤ (1 : Int) ∧ (1 : Int) < (↑b.length : Int)) <|
  ltO (b.getD (1 : Nat) (0 : Int)) fun (v0 : Int) =>
  chk ((0 : Int) ≤ (2 : Int) ∧ (2 : Int) < (↑b.length : Int)) <|
  ltO (b.getD (2 : Nat) (0 : Int)) fun (v1 : Int) =>
  chk ((0 : Int) ≤ (3 : Int) ∧ (3 : Int) < (↑b.length : Int)) <|
  ltO (b.getD (3 : Nat) (0 : Int)) fun (v2 : Int) =>
  chk ((0 : Int) ≤ (0 : Int) ∧ (0 : Int) < (↑b.length : Int)) <|
  ltO (b.getD (0 : Nat) (0 : Int)) fun (v3 : Int) =>
  chk (¬(12 : Int) = (0 : Int)) <|
  ltO (Int.tmod v3 (12 : Int)) fun (v4 : Int) =>
  ltO (v4 == (0 : Int)) fun (v5 : Bool) =>
  cnd (v5) (
   bnd (terrierlaw22_event (v0) (v1) (v2)) fun y6 =>
   some (((0 : Int), y6.fst, [], (0 : Int), (0 : Int)), ())) (
   ltO (v4 == (1 : Int)) fun (v7 : Bool) =>
   cnd (v7) (
    bnd (terrierlaw22_event (v0) (v1) (v2)) fun y8 =>
    some (((0 : Int), y8.fst, [], (0 : Int), (0 : Int)), ())) (
    ltO (v4 == (2 : Int)) fun (v9 : Bool) =>
    cnd (v9) (
     bnd (terrierlaw22_event (v0) (v1) (v2)) fun y10 =>
     some (((0 : Int), y10.fst, [], (0 : Int), (0 : Int)), ())) (
     ltO (v4 == (3 : Int)) fun (v11 : Bool) =>
     cnd (v11) (
      bnd (terrierlaw22_event (v0) (v1) (v2)) fun y12 =>
      some (((0 : Int), y12.fst, [], (0 : Int), (0 : Int)), ())) (
      ltO (v4 == (4 : Int)) fun (v13 : Bool) =>
      cnd (v13) (
       ltO (IntKind.i64.wrap v0) fun (v14 : Int) =>
       ltO (IntKind.i64.wrap v1) fun (v15 : Int) =>
       some (((1 : Int), zEv, [], v14, v15), ())) (
       ltO (v4 == (5 : Int)) fun (v16 : Bool) =>
       cnd (v16) (
        bnd (terrierlaw22_event (v0) (v1) (v2)) fun y17 =>
        bnd (command_Text (y17.fst)) fun y18 =>
        ltO (y18.fst == []) fun (v19 : Bool) =>
        cnd (v19) (
         ltO (toBytes [v0, v1, v2]) fun (v20 : List UInt8) =>
         some (((2 : Int), zEv, v20, (0 : Int), (0 : Int)), ())) (
         some (((2 : Int), zEv, y18.fst, (0 : Int), (0 : Int)), ()))) (
        ltO (v4 == (9 : Int)) fun (v21 : Bool) =>
        cnd (v21) (
         some (((4 : Int), zEv, [], (0 : Int), (0 : Int)), ())) (
         ltO (v4 == (10 : Int)) fun (v22 : Bool) =>
         cnd (v22) (
          chk (¬(32 : Int) = (0 : Int)) <|
          ltO (Int.tmod v0 (32 : Int)) fun (v23 : Int) =>
          ltO (IntKind.i64.wrap v23) fun (v24 : Int) =>
          ltO (IntKind.i64.wrap v1) fun (v25 : Int) =>
          some (((5 : Int), zEv, [], v24, v25), ())) (
          ltO (v4 == (11 : Int)) fun (v26 : Bool) =>
          cnd (v26) (
           chk (¬(32 : Int) = (0 : Int)) <|
           ltO (Int.tmod v0 (32 : Int)) fun (v27 : Int) =>
           ltO (IntKind.i64.wrap v27) fun (v28 : Int) =>
           some (((6 : Int), zEv, [], v28, (0 : Int)), ())) (
           ltO (IntKind.i64.wrap v0) fun (v29 : Int) =>
           chk (¬(30 : Int) = (0 : Int)) <|
           ltO (v29.tmod (30 : Int)) fun (v30 : Int) =>
           ltO (IntKind.i64.wrap (v30 + (1 : Int))) fun (v31 : Int) =>
           some (((3 : Int), zEv, [], v31, (0 : Int)), ()))))))))))

noncomputable def terrierlaw22_ScriptActs_b0 (b : List Int) (t17 : Int) (t18 : Int) (x : List TAct) : Option (((List Int) × Int × Int × (List TAct) × Unit) ⊕ (Unit ⊕ (Bool × Unit))) :=
  cnd (decide (t18 < t17)) (
   chk ((0 : Int) ≤ t18 ∧ t18 < (↑x.length : Int)) <|
   chk (t18.toNat < x.length) <|
   ltO (IntKind.i64.wrap ((4 : Int) * t18)) fun (v4 : Int) =>
   ltO (IntKind.i64.wrap ((4 : Int) * t18)) fun (v5 : Int) =>
   ltO (IntKind.i64.wrap (v5 + (4 : Int))) fun (v6 : Int) =>
   chk ((0 : Int) ≤ v4 ∧ v4 ≤ v6 ∧ v6 ≤ (↑b.length : Int)) <|
   bnd (terrierlaw22_act (sliceA v4.toNat v6.toNat b)) fun y7 =>
   ltO (!(x.getD t18.toNat zAct) == y7.fst) fun (v8 : Bool) =>
   cnd (v8) (
    some (.inr (.inr (false, ())))) (
    ltO (IntKind.i64.wrap (t18 + (1 : Int))) fun (v9 : Int) =>
    some (.inl (b, t17, v9, x, ())))) (
   some (.inr (.inl ())))

noncomputable def terrierlaw22_ScriptActs_l0 (s : (List Int) × Int × Int × (List TAct) × Unit) : Option (Unit ⊕ (Bool × Unit)) := loopM (fun s : (List Int) × Int × Int × (List TAct) × Unit => terrierlaw22_ScriptActs_b0 s.1 s.2.1 s.2.2.1 s.2.2.2.1) s

noncomputable def terrierlaw22_ScriptActs (b : List Int) : Option (Bool × Unit) :=
  bnd (terrierlaw22_awake) fun y0 =>
  cnd (!y0.fst) (
   some (false, ())) (
   bnd (script_Acts (b)) fun y1 =>
   chk (¬(4 : Int) = (0 : Int)) <|
   ltO (IntKind.i64.wrap ((↑b.length : Int).tdiv (4 : Int))) fun (v2 : Int) =>
   ltO ((↑y1.fst.length : Int) != v2) fun (v3 : Bool) =>
   cnd (v3) (
    some (false, ())) (
    bnd (terrierlaw22_ScriptActs_l0 (b, (↑y1.fst.length : Int), (0 : Int), y1.fst, ())) fun y10 =>
    sumO y10 (fun t11 =>
     some (true, ())) (fun r12 =>
     some (r12))))

noncomputable def terrierlaw22_ScriptParts_b0 (t35 : Int) (t36 : Int) (x : List TAct) (y : List TAct) (z : List TAct) : Option ((Int × Int × (List TAct) × (List TAct) × (List TAct) × Unit) ⊕ (Unit ⊕ (Bool × Unit))) :=
  cnd (decide (t36 < t35)) (
   chk (decide (t36 < (↑x.length : Int)) = true → decide (t36 < (↑x.length : Int)) = true) <|
   chk (decide (t36 < (↑x.length : Int)) = true → decide (t36 < (↑x.length : Int)) = true) <|
   chk (decide (t36 < (↑x.length : Int)) = true → (0 : Int) ≤ t36 ∧ t36 < (↑z.length : Int)) <|
   chk (decide (t36 < (↑x.length : Int)) = true → decide (t36 < (↑x.length : Int)) = true) <|
   chk (decide (t36 < (↑x.length : Int)) = true → t36.toNat < z.length) <|
   chk (decide (t36 < (↑x.length : Int)) = true → decide (t36 < (↑x.length : Int)) = true) <|
   chk (decide (t36 < (↑x.length : Int)) = true → decide (t36 < (↑x.length : Int)) = true) <|
   chk (decide (t36 < (↑x.length : Int)) = true → (0 : Int) ≤ t36 ∧ t36 < (↑x.length : Int)) <|
   chk (decide (t36 < (↑x.length : Int)) = true → decide (t36 < (↑x.length : Int)) = true) <|
   chk (decide (t36 < (↑x.length : Int)) = true → t36.toNat < x.length) <|
   chk (decide (t36 < (↑x.length : Int)) = true → decide (t36 < (↑x.length : Int)) = true) <|
   chk (decide (t36 < (↑x.length : Int)) = true → decide (t36 < (↑x.length : Int)) = true) <|
   ltO (!(z.getD t36.toNat zAct) == (x.getD t36.toNat zAct)) fun (v8 : Bool) =>
   chk (decide (t36 < (↑x.length : Int)) = true → decide (t36 < (↑x.length : Int)) = true) <|
   ltO (decide (t36 < (↑x.length : Int)) && v8) fun (v9 : Bool) =>
   chk ((!v9) = true → (!v9) = true) <|
   chk ((!v9) = true → (!v9) = true) <|
   chk ((!v9) = true → (!v9) = true) <|
   chk ((!v9) = true → (!v9) = true) <|
   chk ((!v9 && decide (t36 ≥ (↑x.length : Int))) = true → (!v9 && decide (t36 ≥ (↑x.length : Int))) = true) <|
   chk ((!v9 && decide (t36 ≥ (↑x.length : Int))) = true → (!v9 && decide (t36 ≥ (↑x.length : Int))) = true) <|
   chk ((!v9 && decide (t36 ≥ (↑x.length : Int))) = true → (0 : Int) ≤ t36 ∧ t36 < (↑z.length : Int)) <|
   chk ((!v9 && decide (t36 ≥ (↑x.length : Int))) = true → (!v9 && decide (t36 ≥ (↑x.length : Int))) = true) <|
   chk ((!v9 && decide (t36 ≥ (↑x.length : Int))) = true → t36.toNat < z.length) <|
   chk ((!v9 && decide (t36 ≥ (↑x.length : Int))) = true → (!v9 && decide (t36 ≥ (↑x.length : Int))) = true) <|
   chk ((!v9 && decide (t36 ≥ (↑x.length : Int))) = true → (!v9 && decide (t36 ≥ (↑x.length : Int))) = true) <|
   chk ((!v9 && decide (t36 ≥ (↑x.length : Int))) = true → (!v9 && decide (t36 ≥ (↑x.length : Int))) = true) <|
   ltO (IntKind.i64.wrap (t36 - (↑x.length : Int))) fun (v10 : Int) =>
   chk ((!v9 && decide (t36 ≥ (↑x.length : Int))) = true → (!v9 && decide (t36 ≥ (↑x.length : Int))) = true) <|
   chk ((!v9 && decide (t36 ≥ (↑x.length : Int))) = true → (!v9 && decide (t36 ≥ (↑x.length : Int))) = true) <|
   chk ((!v9 && decide (t36 ≥ (↑x.length : Int))) = true → (0 : Int) ≤ v10 ∧ v10 < (↑y.length : Int)) <|
   chk ((!v9 && decide (t36 ≥ (↑x.length : Int))) = true → (!v9 && decide (t36 ≥ (↑x.length : Int))) = true) <|
   chk ((!v9 && decide (t36 ≥ (↑x.length : Int))) = true → v10.toNat < y.length) <|
   chk ((!v9 && decide (t36 ≥ (↑x.length : Int))) = true → (!v9 && decide (t36 ≥ (↑x.length : Int))) = true) <|
   chk ((!v9 && decide (t36 ≥ (↑x.length : Int))) = true → (!v9 && decide (t36 ≥ (↑x.length : Int))) = true) <|
   ltO (!(z.getD t36.toNat zAct) == (y.getD v10.toNat zAct)) fun (v11 : Bool) =>
   chk ((!v9) = true → (!v9) = true) <|
   chk ((!v9) = true → decide (t36 ≥ (↑x.length : Int)) = true → (!v9 && decide (t36 ≥ (↑x.length : Int))) = true) <|
   ltO (decide (t36 ≥ (↑x.length : Int)) && v11) fun (v12 : Bool) =>
   chk (v9 = false → (!v9) = true) <|
   ltO (v9 || v12) fun (v13 : Bool) =>
   cnd (v13) (
    some (.inr (.inr (false, ())))) (
    ltO (IntKind.i64.wrap (t36 + (1 : Int))) fun (v14 : Int) =>
    some (.inl (t35, v14, x, y, z, ())))) (
   some (.inr (.inl ())))

noncomputable def terrierlaw22_ScriptParts_l0 (s : Int × Int × (List TAct) × (List TAct) × (List TAct) × Unit) : Option (Unit ⊕ (Bool × Unit)) := loopM (fun s : Int × Int × (List TAct) × (List TAct) × (List TAct) × Unit => terrierlaw22_ScriptParts_b0 s.1 s.2.1 s.2.2.1 s.2.2.2.1 s.2.2.2.2.1) s

noncomputable def terrierlaw22_ScriptParts (a' : List Int) (b : List Int) : Option (Bool × Unit) :=
  bnd (terrierlaw22_awake) fun y0 =>
  cnd (!y0.fst) (
   some (false, ())) (
   chk (¬(4 : Int) = (0 : Int)) <|
   ltO (IntKind.i64.wrap ((↑a'.length : Int).tdiv (4 : Int))) fun (v1 : Int) =>
   ltO (IntKind.i64.wrap (v1 * (4 : Int))) fun (v2 : Int) =>
   chk ((0 : Int) ≤ (0 : Int) ∧ (0 : Int) ≤ v2 ∧ v2 ≤ (↑a'.length : Int)) <|
   bnd (script_Acts (sliceA (0 : Nat) v2.toNat a')) fun y3 =>
   bnd (script_Acts (b)) fun y4 =>
   chk (room (1 : Nat) (sliceA (0 : Nat) v2.toNat a').length) <|
   chk (room (1 : Nat) ((sliceA (0 : Nat) v2.toNat a').length + b.length)) <|
   bnd (script_Acts (sliceA (0 : Nat) v2.toNat a' ++ b)) fun y5 =>
   ltO (IntKind.i64.wrap ((↑y3.fst.length : Int) + (↑y4.fst.length : Int))) fun (v6 : Int) =>
   ltO ((↑y5.fst.length : Int) != v6) fun (v7 : Bool) =>
   cnd (v7) (
    some (false, ())) (
    bnd (terrierlaw22_ScriptParts_l0 ((↑y5.fst.length : Int), (0 : Int), y3.fst, y4.fst, y5.fst, ())) fun y15 =>
    sumO y15 (fun t16 =>
     some (true, ())) (fun r17 =>
     some (r17))))

noncomputable def terrierlaw22_ScriptTail_b0 (t33 : Int) (t34 : Int) (x : List TAct) (y : List TAct) : Option ((Int × Int × (List TAct) × (List TAct) × Unit) ⊕ (Unit ⊕ (Bool × Unit))) :=
  cnd (decide (t34 < t33)) (
   chk ((0 : Int) ≤ t34 ∧ t34 < (↑x.length : Int)) <|
   chk (t34.toNat < x.length) <|
   chk ((0 : Int) ≤ t34 ∧ t34 < (↑y.length : Int)) <|
   chk (t34.toNat < y.length) <|
   ltO (!(x.getD t34.toNat zAct) == (y.getD t34.toNat zAct)) fun (v6 : Bool) =>
   cnd (v6) (
    some (.inr (.inr (false, ())))) (
    ltO (IntKind.i64.wrap (t34 + (1 : Int))) fun (v7 : Int) =>
    some (.inl (t33, v7, x, y, ())))) (
   some (.inr (.inl ())))

noncomputable def terrierlaw22_ScriptTail_l0 (s : Int × Int × (List TAct) × (List TAct) × Unit) : Option (Unit ⊕ (Bool × Unit)) := loopM (fun s : Int × Int × (List TAct) × (List TAct) × Unit => terrierlaw22_ScriptTail_b0 s.1 s.2.1 s.2.2.1 s.2.2.2.1) s

noncomputable def terrierlaw22_ScriptTail (b : List Int) (tail : List Int) : Option (Bool × Unit) :=
  bnd (terrierlaw22_awake) fun y0 =>
  cnd (!y0.fst) (
   some (false, ())) (
   chk (¬(4 : Int) = (0 : Int)) <|
   ltO (IntKind.i64.wrap ((↑b.length : Int).tdiv (4 : Int))) fun (v1 : Int) =>
   ltO (IntKind.i64.wrap (v1 * (4 : Int))) fun (v2 : Int) =>
   chk ((0 : Int) ≤ (0 : Int) ∧ (0 : Int) ≤ v2 ∧ v2 ≤ (↑b.length : Int)) <|
   bnd (script_Acts (sliceA (0 : Nat) v2.toNat b)) fun y3 =>
   chk (room (1 : Nat) (sliceA (0 : Nat) v2.toNat b).length) <|
   chk ((0 : Int) ≤ (0 : Int) ∧ ((0 : Int) ≤ if (3 : Int) < (↑tail.length : Int) then (3 : Int) else (↑tail.length : Int)) ∧ (if (3 : Int) < (↑tail.length : Int) then (3 : Int) else (↑tail.length : Int)) ≤ (↑tail.length : Int)) <|
   chk (room (1 : Nat) ((sliceA (0 : Nat) v2.toNat b).length + (sliceA (0 : Nat) (if (3 : Int) < (↑tail.length : Int) then (3 : Int) else (↑tail.length : Int)).toNat tail).length)) <|
   bnd (script_Acts (sliceA (0 : Nat) v2.toNat b ++ sliceA (0 : Nat) (if (3 : Int) < (↑tail.length : Int) then (3 : Int) else (↑tail.length : Int)).toNat tail)) fun y4 =>
   ltO ((↑y3.fst.length : Int) != (↑y4.fst.length : Int)) fun (v5 : Bool) =>
   cnd (v5) (
    some (false, ())) (
    bnd (terrierlaw22_ScriptTail_l0 ((↑y3.fst.length : Int), (0 : Int), y3.fst, y4.fst, ())) fun y8 =>
    sumO y8 (fun t9 =>
     some (true, ())) (fun r10 =>
     some (r10))))

noncomputable def terrierlaw22_ScriptKinds (n : Int) (x : Int) (y : Int) (z : Int) : Option (Bool × Unit) :=
  bnd (terrierlaw22_awake) fun y0 =>
  cnd (!y0.fst) (
   some (false, ())) (
   bnd (script_Acts ([n, x, y, z])) fun y1 =>
   ltO ((↑y1.fst.length : Int) != (1 : Int)) fun (v2 : Bool) =>
   cnd (v2) (
    some (false, ())) (
    chk ((0 : Int) ≤ (0 : Int) ∧ (0 : Int) < (↑y1.fst.length : Int)) <|
    chk ((0 : Nat) < y1.fst.length) <|
    chk (¬(12 : Int) = (0 : Int)) <|
    ltO (n.tmod (12 : Int)) fun (v3 : Int) =>
    chk ((0 : Int) ≤ v3 ∧ v3 < (12 : Int)) <|
    chk (v3.toNat < (12 : Nat)) <|
    ltO ((y1.fst.getD (0 : Nat) zAct).fst == [(0 : Int), (0 : Int), (0 : Int), (0 : Int), (1 : Int), (2 : Int), (3 : Int), (3 : Int), (3 : Int), (4 : Int), (5 : Int), (6 : Int)].getD v3.toNat (0 : Int)) fun (v4 : Bool) =>
    chk (v4 = true → v4 = true) <|
    chk (v4 = true → v4 = true) <|
    ltO ((y1.fst.getD (0 : Nat) zAct).fst == (0 : Int)) fun (v5 : Bool) =>
    chk (v4 = true → v4 = true) <|
    chk (v4 = true → v4 = true) <|
    chk (v4 = true → v4 = true) <|
    chk (v4 = true → v4 = true) <|
    chk (v4 = true → v4 = true) <|
    ltO (v5 == decide ((y1.fst.getD (0 : Nat) zAct).snd.fst.fst > (0 : Int))) fun (v6 : Bool) =>
    chk (v4 = true → v4 = true) <|
    ltO (v4 && v6) fun (v7 : Bool) =>
    chk (v7 = true → v7 = true) <|
    chk (v7 = true → v7 = true) <|
    ltO ((y1.fst.getD (0 : Nat) zAct).fst == (2 : Int)) fun (v8 : Bool) =>
    chk (v7 = true → v7 = true) <|
    chk (v7 = true → v7 = true) <|
    ltO (!(y1.fst.getD (0 : Nat) zAct).snd.snd.fst == []) fun (v9 : Bool) =>
    chk (v7 = true → v7 = true) <|
    chk (v7 = true → v7 = true) <|
    ltO (v8 == v9) fun (v10 : Bool) =>
    chk (v7 = true → v7 = true) <|
    ltO (v7 && v10) fun (v11 : Bool) =>
    chk (v11 = true → v11 = true) <|
    chk (v11 = true → v11 = true) <|
    ltO ((y1.fst.getD (0 : Nat) zAct).fst != (3 : Int)) fun (v12 : Bool) =>
    chk (v11 = true → v11 = true) <|
    chk ((v11 && !v12) = true → (v11 && !v12) = true) <|
    chk ((v11 && !v12) = true → (v11 && !v12) = true) <|
    chk ((v11 && !v12) = true → (v11 && !v12) = true) <|
    chk ((v11 && !v12 && decide ((y1.fst.getD (0 : Nat) zAct).snd.snd.snd.fst > (0 : Int))) = true → (v11 && !v12 && decide ((y1.fst.getD (0 : Nat) zAct).snd.snd.snd.fst > (0 : Int))) = true) <|
    chk ((v11 && !v12 && decide ((y1.fst.getD (0 : Nat) zAct).snd.snd.snd.fst > (0 : Int))) = true → (v11 && !v12 && decide ((y1.fst.getD (0 : Nat) zAct).snd.snd.snd.fst > (0 : Int))) = true) <|
    chk ((v11 && !v12) = true → (v11 && !v12) = true) <|
    chk ((v11 && !v12) = true → decide ((y1.fst.getD (0 : Nat) zAct).snd.snd.snd.fst > (0 : Int)) = true → (v11 && !v12 && decide ((y1.fst.getD (0 : Nat) zAct).snd.snd.snd.fst > (0 : Int))) = true) <|
    ltO (decide ((y1.fst.getD (0 : Nat) zAct).snd.snd.snd.fst > (0 : Int)) && decide ((y1.fst.getD (0 : Nat) zAct).snd.snd.snd.fst < (31 : Int))) fun (v13 : Bool) =>
    chk (v11 = true → v11 = true) <|
    chk (v11 = true → v12 = false → (v11 && !v12) = true) <|
    ltO (v12 || v13) fun (v14 : Bool) =>
    chk (v11 = true → v11 = true) <|
    ltO (v11 && v14) fun (v15 : Bool) =>
    some (v15, ())))

end Go.Tr
