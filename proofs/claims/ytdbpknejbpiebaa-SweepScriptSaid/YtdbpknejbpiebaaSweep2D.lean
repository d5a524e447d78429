/- The functions that these laws reach, as Lean functions: printed by a program of this session's. Conditions: none. -/
import Derived.Test.YtdbpknejbpiebaaBD
import Derived.Test.YtdbpknejbpiebaaBE
import Derived.Test.YtdbpknejbpiebaaAddrD
import Derived.Test.YtdbpknejbpiebaaCodec1D
import Derived.Test.YtdbpknejbpiebaaSweepD
namespace Go.Tr
open Go
set_option linter.unusedVariables false
set_option maxRecDepth 100000

noncomputable def slices_Delete_Sweep (i j : Int) (xs : List TSweep) : Option (List TSweep × Unit) :=
  deleteF xs i j

noncomputable def sweep_Take (ss : List TSweep) (b : Int × Int) : Option (Int × (List TSweep) × Unit) :=
  bnd (slices_IndexFunc_v1_w1 (ss) (b)) fun y0 =>
  cnd (decide (y0.fst < (0 : Int))) (
   some ((7 : Int), [], ())) (
   bnd (slices_Clone_Sweep (ss)) fun y1 =>
   ltO (IntKind.i64.wrap (y0.fst + (1 : Int))) fun (v2 : Int) =>
   bnd (slices_Delete_Sweep (y0.fst) (v2) (y1.fst)) fun y3 =>
   some ((0 : Int), y3.fst, ()))

noncomputable def terrierlaw14_SweepScript_b1 (now : Int) (at' : Int) (over : Bool) (t33 : List (Int × Int × Int)) (t34 : Int) (t35 : Int) (t42 : Int) (t43 : Int) (c_0 : Int) (c_1 : Int) (c_2 : Int) (c_3 : Int) (c_4 : Int) (c_5 : Int) (c_6 : Int) (c_7 : Int) (c_8 : Int) (ss : List TSweep) (a'_0 : Int) (a'_1 : Int) (a'_2 : Int) (b_0 : Int) (b_1 : Int) : Option ((Int × Int × Bool × (List (Int × Int × Int)) × Int × Int × Int × Int × Int × Int × Int × Int × Int × Int × Int × Int × Int × (List TSweep) × Int × Int × Int × Int × Int × Unit) ⊕ ((Int × Int × Bool × (List (Int × Int × Int)) × Int × Int × Int × Int × Int × Int × Int × Int × Int × Int × Int × (List TSweep) × Int × Int × Int × Int × Int × Unit) ⊕ (Bool × Unit))) :=
  cnd (decide (t43 < t42)) (
   chk ((0 : Int) ≤ t43 ∧ t43 < (↑ss.length : Int)) <|
   chk (t43.toNat < ss.length) <|
   ltO ((ss.getD t43.toNat zSweep).fst.fst == b_0 && (ss.getD t43.toNat zSweep).fst.snd == b_1) fun (v4 : Bool) =>
   cnd (v4) (
    chk ((!over) = true → (!over) = true) <|
    chk ((!over) = true → (!over) = true) <|
    chk ((!over) = true → (!over) = true) <|
    bndG (!over) (addr_Overlap (((ss.getD t43.toNat zSweep).fst.fst, (ss.getD t43.toNat zSweep).fst.snd)) ((b_0, b_1))) (false, ()) fun y5 =>
    chk (over = false → (!over) = true) <|
    ltO (over || y5.fst) fun (v6 : Bool) =>
    ltO (IntKind.i64.wrap (t43 + (1 : Int))) fun (v7 : Int) =>
    some (.inl (now, t43, v6, t33, t34, t35, t42, v7, c_0, c_1, c_2, c_3, c_4, c_5, c_6, c_7, c_8, ss, a'_0, a'_1, a'_2, b_0, b_1, ()))) (
    chk ((!over) = true → (!over) = true) <|
    chk ((!over) = true → (!over) = true) <|
    chk ((!over) = true → (!over) = true) <|
    bndG (!over) (addr_Overlap (((ss.getD t43.toNat zSweep).fst.fst, (ss.getD t43.toNat zSweep).fst.snd)) ((b_0, b_1))) (false, ()) fun y8 =>
    chk (over = false → (!over) = true) <|
    ltO (over || y8.fst) fun (v9 : Bool) =>
    ltO (IntKind.i64.wrap (t43 + (1 : Int))) fun (v10 : Int) =>
    some (.inl (now, at', v9, t33, t34, t35, t42, v10, c_0, c_1, c_2, c_3, c_4, c_5, c_6, c_7, c_8, ss, a'_0, a'_1, a'_2, b_0, b_1, ())))) (
   some (.inr (.inl (now, at', over, t33, t34, t35, c_0, c_1, c_2, c_3, c_4, c_5, c_6, c_7, c_8, ss, a'_0, a'_1, a'_2, b_0, b_1, ()))))

noncomputable def terrierlaw14_SweepScript_l1 (s : Int × Int × Bool × (List (Int × Int × Int)) × Int × Int × Int × Int × Int × Int × Int × Int × Int × Int × Int × Int × Int × (List TSweep) × Int × Int × Int × Int × Int × Unit) : Option ((Int × Int × Bool × (List (Int × Int × Int)) × Int × Int × Int × Int × Int × Int × Int × Int × Int × Int × Int × (List TSweep) × Int × Int × Int × Int × Int × Unit) ⊕ (Bool × Unit)) := loopM (fun s : Int × Int × Bool × (List (Int × Int × Int)) × Int × Int × Int × Int × Int × Int × Int × Int × Int × Int × Int × Int × Int × (List TSweep) × Int × Int × Int × Int × Int × Unit => terrierlaw14_SweepScript_b1 s.1 s.2.1 s.2.2.1 s.2.2.2.1 s.2.2.2.2.1 s.2.2.2.2.2.1 s.2.2.2.2.2.2.1 s.2.2.2.2.2.2.2.1 s.2.2.2.2.2.2.2.2.1 s.2.2.2.2.2.2.2.2.2.1 s.2.2.2.2.2.2.2.2.2.2.1 s.2.2.2.2.2.2.2.2.2.2.2.1 s.2.2.2.2.2.2.2.2.2.2.2.2.1 s.2.2.2.2.2.2.2.2.2.2.2.2.2.1 s.2.2.2.2.2.2.2.2.2.2.2.2.2.2.1 s.2.2.2.2.2.2.2.2.2.2.2.2.2.2.2.1 s.2.2.2.2.2.2.2.2.2.2.2.2.2.2.2.2.1 s.2.2.2.2.2.2.2.2.2.2.2.2.2.2.2.2.2.1 s.2.2.2.2.2.2.2.2.2.2.2.2.2.2.2.2.2.2.1 s.2.2.2.2.2.2.2.2.2.2.2.2.2.2.2.2.2.2.2.1 s.2.2.2.2.2.2.2.2.2.2.2.2.2.2.2.2.2.2.2.2.1 s.2.2.2.2.2.2.2.2.2.2.2.2.2.2.2.2.2.2.2.2.2.1 s.2.2.2.2.2.2.2.2.2.2.2.2.2.2.2.2.2.2.2.2.2.2.1) s

noncomputable def terrierlaw14_SweepScript_b2 (now : Int) (as : List Int) (want : List Int) (t33 : List (Int × Int × Int)) (t34 : Int) (t35 : Int) (t139 : Int) (t140 : Int) (c_0 : Int) (c_1 : Int) (c_2 : Int) (c_3 : Int) (c_4 : Int) (c_5 : Int) (c_6 : Int) (c_7 : Int) (c_8 : Int) (l : List TSweep) : Option ((Int × (List Int) × (List Int) × (List (Int × Int × Int)) × Int × Int × Int × Int × Int × Int × Int × Int × Int × Int × Int × Int × Int × (List TSweep) × Unit) ⊕ ((Int × (List (Int × Int × Int)) × Int × Int × Int × Int × Int × Int × Int × Int × Int × Int × Int × (List TSweep) × Unit) ⊕ (Bool × Unit))) :=
  cnd (decide (t140 < t139)) (
   chk ((0 : Int) ≤ t140 ∧ t140 < (↑«as».length : Int)) <|
   ltO («as».getD t140.toNat (0 : Int)) fun (v22 : Int) =>
   chk ((0 : Int) ≤ t140 ∧ t140 < (↑want.length : Int)) <|
   ltO (want.getD t140.toNat (0 : Int)) fun (v23 : Int) =>
   ltO (v22 != v23) fun (v24 : Bool) =>
   cnd (v24) (
    some (.inr (.inr (false, ())))) (
    ltO (IntKind.i64.wrap (t140 + (1 : Int))) fun (v25 : Int) =>
    some (.inl (now, «as», want, t33, t34, t35, t139, v25, c_0, c_1, c_2, c_3, c_4, c_5, c_6, c_7, c_8, l, ())))) (
   some (.inr (.inl (now, t33, t34, t35, c_0, c_1, c_2, c_3, c_4, c_5, c_6, c_7, c_8, l, ()))))

noncomputable def terrierlaw14_SweepScript_l2 (s : Int × (List Int) × (List Int) × (List (Int × Int × Int)) × Int × Int × Int × Int × Int × Int × Int × Int × Int × Int × Int × Int × Int × (List TSweep) × Unit) : Option ((Int × (List (Int × Int × Int)) × Int × Int × Int × Int × Int × Int × Int × Int × Int × Int × Int × (List TSweep) × Unit) ⊕ (Bool × Unit)) := loopM (fun s : Int × (List Int) × (List Int) × (List (Int × Int × Int)) × Int × Int × Int × Int × Int × Int × Int × Int × Int × Int × Int × Int × Int × (List TSweep) × Unit => terrierlaw14_SweepScript_b2 s.1 s.2.1 s.2.2.1 s.2.2.2.1 s.2.2.2.2.1 s.2.2.2.2.2.1 s.2.2.2.2.2.2.1 s.2.2.2.2.2.2.2.1 s.2.2.2.2.2.2.2.2.1 s.2.2.2.2.2.2.2.2.2.1 s.2.2.2.2.2.2.2.2.2.2.1 s.2.2.2.2.2.2.2.2.2.2.2.1 s.2.2.2.2.2.2.2.2.2.2.2.2.1 s.2.2.2.2.2.2.2.2.2.2.2.2.2.1 s.2.2.2.2.2.2.2.2.2.2.2.2.2.2.1 s.2.2.2.2.2.2.2.2.2.2.2.2.2.2.2.1 s.2.2.2.2.2.2.2.2.2.2.2.2.2.2.2.2.1 s.2.2.2.2.2.2.2.2.2.2.2.2.2.2.2.2.2.1) s

noncomputable def terrierlaw14_SweepScript_b0 (now : Int) (t33 : List (Int × Int × Int)) (t34 : Int) (t35 : Int) (ss : List TSweep) (c_0 : Int) (c_1 : Int) (c_2 : Int) (c_3 : Int) (c_4 : Int) (c_5 : Int) (c_6 : Int) (c_7 : Int) (c_8 : Int) : Option ((Int × (List (Int × Int × Int)) × Int × Int × (List TSweep) × Int × Int × Int × Int × Int × Int × Int × Int × Int × Unit) ⊕ (Unit ⊕ (Bool × Unit))) :=
  cnd (decide (t35 < t34)) (
   chk ((0 : Int) ≤ t35 ∧ t35 < (↑t33.length : Int)) <|
   ltO ((Option.rec ((0 : Int), (0 : Int), (0 : Int)) (fun val => val) t33[t35.toNat]?)) fun (v2 : Int × Int × Int) =>
   bnd (terrierlaw14_Act_block (v2)) fun y3 =>
   bnd (terrierlaw14_SweepScript_l1 (now, (-1 : Int), false, t33, t34, t35, (↑ss.length : Int), (0 : Int), c_0, c_1, c_2, c_3, c_4, c_5, c_6, c_7, c_8, ss, v2.fst, v2.snd.fst, v2.snd.snd, y3.fst.fst, y3.fst.snd, ())) fun y11 =>
   sumO y11 (fun t12 =>
    chk (¬(4 : Int) = (0 : Int)) <|
    ltO (t12.snd.snd.snd.snd.snd.snd.snd.snd.snd.snd.snd.snd.snd.snd.snd.snd.fst.tmod (4 : Int)) fun (v14 : Int) =>
    ltO (v14 == (0 : Int)) fun (v15 : Bool) =>
    cnd (v15) (
     ltO (IntKind.i64.wrap (t12.fst + (1 : Int))) fun (v16 : Int) =>
     bnd (sweep_Plan ((t12.snd.snd.snd.snd.snd.snd.fst, t12.snd.snd.snd.snd.snd.snd.snd.fst, t12.snd.snd.snd.snd.snd.snd.snd.snd.fst, t12.snd.snd.snd.snd.snd.snd.snd.snd.snd.fst, t12.snd.snd.snd.snd.snd.snd.snd.snd.snd.snd.fst, t12.snd.snd.snd.snd.snd.snd.snd.snd.snd.snd.snd.fst, t12.snd.snd.snd.snd.snd.snd.snd.snd.snd.snd.snd.snd.fst, t12.snd.snd.snd.snd.snd.snd.snd.snd.snd.snd.snd.snd.snd.fst, t12.snd.snd.snd.snd.snd.snd.snd.snd.snd.snd.snd.snd.snd.snd.fst)) (t12.snd.snd.snd.snd.snd.snd.snd.snd.snd.snd.snd.snd.snd.snd.snd.fst) (v16) (t12.snd.snd.snd.snd.snd.snd.snd.snd.snd.snd.fst)) fun y17 =>
     bnd (terrierlaw14_plan ((t12.snd.snd.snd.snd.snd.snd.fst, t12.snd.snd.snd.snd.snd.snd.snd.fst, t12.snd.snd.snd.snd.snd.snd.snd.snd.fst, t12.snd.snd.snd.snd.snd.snd.snd.snd.snd.fst, t12.snd.snd.snd.snd.snd.snd.snd.snd.snd.snd.fst, t12.snd.snd.snd.snd.snd.snd.snd.snd.snd.snd.snd.fst, t12.snd.snd.snd.snd.snd.snd.snd.snd.snd.snd.snd.snd.fst, t12.snd.snd.snd.snd.snd.snd.snd.snd.snd.snd.snd.snd.snd.fst, t12.snd.snd.snd.snd.snd.snd.snd.snd.snd.snd.snd.snd.snd.snd.fst)) (t12.snd.snd.snd.snd.snd.snd.snd.snd.snd.snd.snd.snd.snd.snd.snd.fst) (v16) (t12.snd.snd.snd.snd.snd.snd.snd.snd.snd.snd.fst)) fun y18 =>
     bnd (terrierlaw14_same (y17.snd.fst) (y18.snd.fst)) fun y19 =>
     chk ((!!y19.fst) = true → (!!y19.fst) = true) <|
     chk ((!!y19.fst) = true → (!!y19.fst) = true) <|
     chk ((!!y19.fst) = true → (!!y19.fst) = true) <|
     chk ((!!y19.fst) = true → (!!y19.fst) = true) <|
     ltO ((↑y17.fst.length : Int) != (↑y18.fst.length : Int)) fun (v20 : Bool) =>
     chk ((!y19.fst) = false → (!!y19.fst) = true) <|
     ltO (!y19.fst || v20) fun (v21 : Bool) =>
     cnd (v21) (
      some (.inr (.inr (false, ())))) (
      bnd (terrierlaw14_SweepScript_l2 (v16, y17.fst, y18.fst, t12.snd.snd.snd.fst, t12.snd.snd.snd.snd.fst, t12.snd.snd.snd.snd.snd.fst, (↑y17.fst.length : Int), (0 : Int), t12.snd.snd.snd.snd.snd.snd.fst, t12.snd.snd.snd.snd.snd.snd.snd.fst, t12.snd.snd.snd.snd.snd.snd.snd.snd.fst, t12.snd.snd.snd.snd.snd.snd.snd.snd.snd.fst, t12.snd.snd.snd.snd.snd.snd.snd.snd.snd.snd.fst, t12.snd.snd.snd.snd.snd.snd.snd.snd.snd.snd.snd.fst, t12.snd.snd.snd.snd.snd.snd.snd.snd.snd.snd.snd.snd.fst, t12.snd.snd.snd.snd.snd.snd.snd.snd.snd.snd.snd.snd.snd.fst, t12.snd.snd.snd.snd.snd.snd.snd.snd.snd.snd.snd.snd.snd.snd.fst, y17.snd.fst, ())) fun y26 =>
      sumO y26 (fun t27 =>
       bnd (terrierlaw14_right (t27.snd.snd.snd.snd.snd.snd.snd.snd.snd.snd.snd.snd.snd.fst)) fun y29 =>
       chk ((!!y29.fst) = true → (!!y29.fst) = true) <|
       bndG (!!y29.fst) (sweep_Right (t27.snd.snd.snd.snd.snd.snd.snd.snd.snd.snd.snd.snd.snd.fst)) (false, ()) fun y30 =>
       chk ((!!y29.fst) = true → (!!y29.fst) = true) <|
       chk ((!y29.fst) = false → (!!y29.fst) = true) <|
       ltO (!y29.fst || !y30.fst) fun (v31 : Bool) =>
       cnd (v31) (
        some (.inr (.inr (false, ())))) (
        ltO (IntKind.i64.wrap (t27.snd.snd.snd.fst + (1 : Int))) fun (v32 : Int) =>
        some (.inl (t27.fst, t27.snd.fst, t27.snd.snd.fst, v32, t27.snd.snd.snd.snd.snd.snd.snd.snd.snd.snd.snd.snd.snd.fst, t27.snd.snd.snd.snd.fst, t27.snd.snd.snd.snd.snd.fst, t27.snd.snd.snd.snd.snd.snd.fst, t27.snd.snd.snd.snd.snd.snd.snd.fst, t27.snd.snd.snd.snd.snd.snd.snd.snd.fst, t27.snd.snd.snd.snd.snd.snd.snd.snd.snd.fst, t27.snd.snd.snd.snd.snd.snd.snd.snd.snd.snd.fst, t27.snd.snd.snd.snd.snd.snd.snd.snd.snd.snd.snd.fst, t27.snd.snd.snd.snd.snd.snd.snd.snd.snd.snd.snd.snd.fst, ())))) (fun r28 =>
       some (.inr (.inr (r28)))))) (
     ltO (v14 == (1 : Int)) fun (v33 : Bool) =>
     cnd (v33) (
      bnd (sweep_Take (t12.snd.snd.snd.snd.snd.snd.snd.snd.snd.snd.snd.snd.snd.snd.snd.fst) ((t12.snd.snd.snd.snd.snd.snd.snd.snd.snd.snd.snd.snd.snd.snd.snd.snd.snd.snd.snd.fst, t12.snd.snd.snd.snd.snd.snd.snd.snd.snd.snd.snd.snd.snd.snd.snd.snd.snd.snd.snd.snd.fst))) fun y34 =>
      ltO (y34.fst == (0 : Int)) fun (v35 : Bool) =>
      ltO (!v35 == decide (t12.snd.fst ≥ (0 : Int))) fun (v36 : Bool) =>
      chk ((!v36) = true → (!v36) = true) <|
      ltO (y34.fst != (0 : Int)) fun (v37 : Bool) =>
      chk ((!v36) = true → (!v36) = true) <|
      chk ((!v36 && v37) = true → (!v36 && v37) = true) <|
      ltO (y34.fst != (7 : Int)) fun (v38 : Bool) =>
      chk ((!v36 && v37) = true → (!v36 && v37) = true) <|
      chk ((!v36 && v37 && !v38) = true → (!v36 && v37 && !v38) = true) <|
      chk ((!v36 && v37 && !v38) = true → (!v36 && v37 && !v38) = true) <|
      ltO ((↑y34.snd.fst.length : Int) != (0 : Int)) fun (v39 : Bool) =>
      chk ((!v36 && v37) = true → (!v36 && v37) = true) <|
      chk ((!v36 && v37) = true → v38 = false → (!v36 && v37 && !v38) = true) <|
      ltO (v38 || v39) fun (v40 : Bool) =>
      chk ((!v36) = true → (!v36) = true) <|
      chk ((!v36) = true → v37 = true → (!v36 && v37) = true) <|
      ltO (v37 && v40) fun (v41 : Bool) =>
      chk (v36 = false → (!v36) = true) <|
      ltO (v36 || v41) fun (v42 : Bool) =>
      cnd (v42) (
       some (.inr (.inr (false, ())))) (
       ltO (y34.fst == (0 : Int)) fun (v43 : Bool) =>
       cnd (v43) (
        ltO (IntKind.i64.wrap ((↑t12.snd.snd.snd.snd.snd.snd.snd.snd.snd.snd.snd.snd.snd.snd.snd.fst.length : Int) - (1 : Int))) fun (v44 : Int) =>
        ltO ((↑y34.snd.fst.length : Int) != v44) fun (v45 : Bool) =>
        cnd (v45) (
         some (.inr (.inr (false, ())))) (
         bnd (terrierlaw14_right (y34.snd.fst)) fun y46 =>
         chk ((!!y46.fst) = true → (!!y46.fst) = true) <|
         bndG (!!y46.fst) (sweep_Right (y34.snd.fst)) (false, ()) fun y47 =>
         chk ((!!y46.fst) = true → (!!y46.fst) = true) <|
         chk ((!y46.fst) = false → (!!y46.fst) = true) <|
         ltO (!y46.fst || !y47.fst) fun (v48 : Bool) =>
         cnd (v48) (
          some (.inr (.inr (false, ())))) (
          ltO (IntKind.i64.wrap (t12.snd.snd.snd.snd.snd.fst + (1 : Int))) fun (v49 : Int) =>
          some (.inl (t12.fst, t12.snd.snd.snd.fst, t12.snd.snd.snd.snd.fst, v49, y34.snd.fst, t12.snd.snd.snd.snd.snd.snd.fst, t12.snd.snd.snd.snd.snd.snd.snd.fst, t12.snd.snd.snd.snd.snd.snd.snd.snd.fst, t12.snd.snd.snd.snd.snd.snd.snd.snd.snd.fst, t12.snd.snd.snd.snd.snd.snd.snd.snd.snd.snd.fst, t12.snd.snd.snd.snd.snd.snd.snd.snd.snd.snd.snd.fst, t12.snd.snd.snd.snd.snd.snd.snd.snd.snd.snd.snd.snd.fst, t12.snd.snd.snd.snd.snd.snd.snd.snd.snd.snd.snd.snd.snd.fst, t12.snd.snd.snd.snd.snd.snd.snd.snd.snd.snd.snd.snd.snd.snd.fst, ()))))) (
        bnd (terrierlaw14_right (t12.snd.snd.snd.snd.snd.snd.snd.snd.snd.snd.snd.snd.snd.snd.snd.fst)) fun y50 =>
        chk ((!!y50.fst) = true → (!!y50.fst) = true) <|
        bndG (!!y50.fst) (sweep_Right (t12.snd.snd.snd.snd.snd.snd.snd.snd.snd.snd.snd.snd.snd.snd.snd.fst)) (false, ()) fun y51 =>
        chk ((!!y50.fst) = true → (!!y50.fst) = true) <|
        chk ((!y50.fst) = false → (!!y50.fst) = true) <|
        ltO (!y50.fst || !y51.fst) fun (v52 : Bool) =>
        cnd (v52) (
         some (.inr (.inr (false, ())))) (
         ltO (IntKind.i64.wrap (t12.snd.snd.snd.snd.snd.fst + (1 : Int))) fun (v53 : Int) =>
         some (.inl (t12.fst, t12.snd.snd.snd.fst, t12.snd.snd.snd.snd.fst, v53, t12.snd.snd.snd.snd.snd.snd.snd.snd.snd.snd.snd.snd.snd.snd.snd.fst, t12.snd.snd.snd.snd.snd.snd.fst, t12.snd.snd.snd.snd.snd.snd.snd.fst, t12.snd.snd.snd.snd.snd.snd.snd.snd.fst, t12.snd.snd.snd.snd.snd.snd.snd.snd.snd.fst, t12.snd.snd.snd.snd.snd.snd.snd.snd.snd.snd.fst, t12.snd.snd.snd.snd.snd.snd.snd.snd.snd.snd.snd.fst, t12.snd.snd.snd.snd.snd.snd.snd.snd.snd.snd.snd.snd.fst, t12.snd.snd.snd.snd.snd.snd.snd.snd.snd.snd.snd.snd.snd.fst, t12.snd.snd.snd.snd.snd.snd.snd.snd.snd.snd.snd.snd.snd.snd.fst, ())))))) (
      bnd (sweep_Put (t12.snd.snd.snd.snd.snd.snd.snd.snd.snd.snd.snd.snd.snd.snd.snd.fst) ((t12.snd.snd.snd.snd.snd.snd.snd.snd.snd.snd.snd.snd.snd.snd.snd.snd.snd.snd.snd.fst, t12.snd.snd.snd.snd.snd.snd.snd.snd.snd.snd.snd.snd.snd.snd.snd.snd.snd.snd.snd.snd.fst)) (t12.fst)) fun y54 =>
      cnd (decide (t12.snd.snd.snd.snd.snd.snd.snd.snd.snd.snd.snd.snd.snd.snd.snd.snd.snd.snd.snd.snd.fst < (24 : Int))) (
       ltO (y54.fst != (3 : Int)) fun (v55 : Bool) =>
       chk ((!v55) = true → (!v55) = true) <|
       ltO (y54.fst != (0 : Int)) fun (v56 : Bool) =>
       chk ((!v55) = true → (!v55) = true) <|
       chk ((!v55 && v56) = true → (!v55 && v56) = true) <|
       chk ((!v55 && v56) = true → (!v55 && v56) = true) <|
       ltO ((↑y54.snd.fst.length : Int) != (0 : Int)) fun (v57 : Bool) =>
       chk ((!v55) = true → (!v55) = true) <|
       chk ((!v55) = true → v56 = true → (!v55 && v56) = true) <|
       ltO (v56 && v57) fun (v58 : Bool) =>
       chk (v55 = false → (!v55) = true) <|
       ltO (v55 || v58) fun (v59 : Bool) =>
       chk ((!v59) = true → (!v59) = true) <|
       ltO (y54.fst == (0 : Int)) fun (v60 : Bool) =>
       chk ((!v59) = true → (!v59) = true) <|
       chk ((!v59 && v60) = true → (!v59 && v60) = true) <|
       chk ((!v59 && v60) = true → (!v59 && v60) = true) <|
       chk ((!v59 && v60) = true → (!v59 && v60) = true) <|
       ltO (IntKind.i64.wrap ((↑t12.snd.snd.snd.snd.snd.snd.snd.snd.snd.snd.snd.snd.snd.snd.snd.fst.length : Int) + (1 : Int))) fun (v61 : Int) =>
       chk ((!v59 && v60) = true → (!v59 && v60) = true) <|
       chk ((!v59 && v60) = true → (!v59 && v60) = true) <|
       ltO ((↑y54.snd.fst.length : Int) != v61) fun (v62 : Bool) =>
       chk ((!v59) = true → (!v59) = true) <|
       chk ((!v59) = true → v60 = true → (!v59 && v60) = true) <|
       ltO (v60 && v62) fun (v63 : Bool) =>
       chk (v59 = false → (!v59) = true) <|
       ltO (v59 || v63) fun (v64 : Bool) =>
       cnd (v64) (
        some (.inr (.inr (false, ())))) (
        ltO (y54.fst == (0 : Int)) fun (v65 : Bool) =>
        cnd (v65) (
         bnd (terrierlaw14_right (y54.snd.fst)) fun y66 =>
         chk ((!!y66.fst) = true → (!!y66.fst) = true) <|
         bndG (!!y66.fst) (sweep_Right (y54.snd.fst)) (false, ()) fun y67 =>
         chk ((!!y66.fst) = true → (!!y66.fst) = true) <|
         chk ((!y66.fst) = false → (!!y66.fst) = true) <|
         ltO (!y66.fst || !y67.fst) fun (v68 : Bool) =>
         cnd (v68) (
          some (.inr (.inr (false, ())))) (
          ltO (IntKind.i64.wrap (t12.snd.snd.snd.snd.snd.fst + (1 : Int))) fun (v69 : Int) =>
          some (.inl (t12.fst, t12.snd.snd.snd.fst, t12.snd.snd.snd.snd.fst, v69, y54.snd.fst, t12.snd.snd.snd.snd.snd.snd.fst, t12.snd.snd.snd.snd.snd.snd.snd.fst, t12.snd.snd.snd.snd.snd.snd.snd.snd.fst, t12.snd.snd.snd.snd.snd.snd.snd.snd.snd.fst, t12.snd.snd.snd.snd.snd.snd.snd.snd.snd.snd.fst, t12.snd.snd.snd.snd.snd.snd.snd.snd.snd.snd.snd.fst, t12.snd.snd.snd.snd.snd.snd.snd.snd.snd.snd.snd.snd.fst, t12.snd.snd.snd.snd.snd.snd.snd.snd.snd.snd.snd.snd.snd.fst, t12.snd.snd.snd.snd.snd.snd.snd.snd.snd.snd.snd.snd.snd.snd.fst, ())))) (
         bnd (terrierlaw14_right (t12.snd.snd.snd.snd.snd.snd.snd.snd.snd.snd.snd.snd.snd.snd.snd.fst)) fun y70 =>
         chk ((!!y70.fst) = true → (!!y70.fst) = true) <|
         bndG (!!y70.fst) (sweep_Right (t12.snd.snd.snd.snd.snd.snd.snd.snd.snd.snd.snd.snd.snd.snd.snd.fst)) (false, ()) fun y71 =>
         chk ((!!y70.fst) = true → (!!y70.fst) = true) <|
         chk ((!y70.fst) = false → (!!y70.fst) = true) <|
         ltO (!y70.fst || !y71.fst) fun (v72 : Bool) =>
         cnd (v72) (
          some (.inr (.inr (false, ())))) (
          ltO (IntKind.i64.wrap (t12.snd.snd.snd.snd.snd.fst + (1 : Int))) fun (v73 : Int) =>
          some (.inl (t12.fst, t12.snd.snd.snd.fst, t12.snd.snd.snd.snd.fst, v73, t12.snd.snd.snd.snd.snd.snd.snd.snd.snd.snd.snd.snd.snd.snd.snd.fst, t12.snd.snd.snd.snd.snd.snd.fst, t12.snd.snd.snd.snd.snd.snd.snd.fst, t12.snd.snd.snd.snd.snd.snd.snd.snd.fst, t12.snd.snd.snd.snd.snd.snd.snd.snd.snd.fst, t12.snd.snd.snd.snd.snd.snd.snd.snd.snd.snd.fst, t12.snd.snd.snd.snd.snd.snd.snd.snd.snd.snd.snd.fst, t12.snd.snd.snd.snd.snd.snd.snd.snd.snd.snd.snd.snd.fst, t12.snd.snd.snd.snd.snd.snd.snd.snd.snd.snd.snd.snd.snd.fst, t12.snd.snd.snd.snd.snd.snd.snd.snd.snd.snd.snd.snd.snd.snd.fst, ())))))) (
       cnd (t12.snd.snd.fst) (
        ltO (y54.fst != (5 : Int)) fun (v74 : Bool) =>
        chk ((!v74) = true → (!v74) = true) <|
        ltO (y54.fst != (0 : Int)) fun (v75 : Bool) =>
        chk ((!v74) = true → (!v74) = true) <|
        chk ((!v74 && v75) = true → (!v74 && v75) = true) <|
        chk ((!v74 && v75) = true → (!v74 && v75) = true) <|
        ltO ((↑y54.snd.fst.length : Int) != (0 : Int)) fun (v76 : Bool) =>
        chk ((!v74) = true → (!v74) = true) <|
        chk ((!v74) = true → v75 = true → (!v74 && v75) = true) <|
        ltO (v75 && v76) fun (v77 : Bool) =>
        chk (v74 = false → (!v74) = true) <|
        ltO (v74 || v77) fun (v78 : Bool) =>
        chk ((!v78) = true → (!v78) = true) <|
        ltO (y54.fst == (0 : Int)) fun (v79 : Bool) =>
        chk ((!v78) = true → (!v78) = true) <|
        chk ((!v78 && v79) = true → (!v78 && v79) = true) <|
        chk ((!v78 && v79) = true → (!v78 && v79) = true) <|
        chk ((!v78 && v79) = true → (!v78 && v79) = true) <|
        ltO (IntKind.i64.wrap ((↑t12.snd.snd.snd.snd.snd.snd.snd.snd.snd.snd.snd.snd.snd.snd.snd.fst.length : Int) + (1 : Int))) fun (v80 : Int) =>
        chk ((!v78 && v79) = true → (!v78 && v79) = true) <|
        chk ((!v78 && v79) = true → (!v78 && v79) = true) <|
        ltO ((↑y54.snd.fst.length : Int) != v80) fun (v81 : Bool) =>
        chk ((!v78) = true → (!v78) = true) <|
        chk ((!v78) = true → v79 = true → (!v78 && v79) = true) <|
        ltO (v79 && v81) fun (v82 : Bool) =>
        chk (v78 = false → (!v78) = true) <|
        ltO (v78 || v82) fun (v83 : Bool) =>
        cnd (v83) (
         some (.inr (.inr (false, ())))) (
         ltO (y54.fst == (0 : Int)) fun (v84 : Bool) =>
         cnd (v84) (
          bnd (terrierlaw14_right (y54.snd.fst)) fun y85 =>
          chk ((!!y85.fst) = true → (!!y85.fst) = true) <|
          bndG (!!y85.fst) (sweep_Right (y54.snd.fst)) (false, ()) fun y86 =>
          chk ((!!y85.fst) = true → (!!y85.fst) = true) <|
          chk ((!y85.fst) = false → (!!y85.fst) = true) <|
          ltO (!y85.fst || !y86.fst) fun (v87 : Bool) =>
          cnd (v87) (
           some (.inr (.inr (false, ())))) (
           ltO (IntKind.i64.wrap (t12.snd.snd.snd.snd.snd.fst + (1 : Int))) fun (v88 : Int) =>
           some (.inl (t12.fst, t12.snd.snd.snd.fst, t12.snd.snd.snd.snd.fst, v88, y54.snd.fst, t12.snd.snd.snd.snd.snd.snd.fst, t12.snd.snd.snd.snd.snd.snd.snd.fst, t12.snd.snd.snd.snd.snd.snd.snd.snd.fst, t12.snd.snd.snd.snd.snd.snd.snd.snd.snd.fst, t12.snd.snd.snd.snd.snd.snd.snd.snd.snd.snd.fst, t12.snd.snd.snd.snd.snd.snd.snd.snd.snd.snd.snd.fst, t12.snd.snd.snd.snd.snd.snd.snd.snd.snd.snd.snd.snd.fst, t12.snd.snd.snd.snd.snd.snd.snd.snd.snd.snd.snd.snd.snd.fst, t12.snd.snd.snd.snd.snd.snd.snd.snd.snd.snd.snd.snd.snd.snd.fst, ())))) (
          bnd (terrierlaw14_right (t12.snd.snd.snd.snd.snd.snd.snd.snd.snd.snd.snd.snd.snd.snd.snd.fst)) fun y89 =>
          chk ((!!y89.fst) = true → (!!y89.fst) = true) <|
          bndG (!!y89.fst) (sweep_Right (t12.snd.snd.snd.snd.snd.snd.snd.snd.snd.snd.snd.snd.snd.snd.snd.fst)) (false, ()) fun y90 =>
          chk ((!!y89.fst) = true → (!!y89.fst) = true) <|
          chk ((!y89.fst) = false → (!!y89.fst) = true) <|
          ltO (!y89.fst || !y90.fst) fun (v91 : Bool) =>
          cnd (v91) (
           some (.inr (.inr (false, ())))) (
           ltO (IntKind.i64.wrap (t12.snd.snd.snd.snd.snd.fst + (1 : Int))) fun (v92 : Int) =>
           some (.inl (t12.fst, t12.snd.snd.snd.fst, t12.snd.snd.snd.snd.fst, v92, t12.snd.snd.snd.snd.snd.snd.snd.snd.snd.snd.snd.snd.snd.snd.snd.fst, t12.snd.snd.snd.snd.snd.snd.fst, t12.snd.snd.snd.snd.snd.snd.snd.fst, t12.snd.snd.snd.snd.snd.snd.snd.snd.fst, t12.snd.snd.snd.snd.snd.snd.snd.snd.snd.fst, t12.snd.snd.snd.snd.snd.snd.snd.snd.snd.snd.fst, t12.snd.snd.snd.snd.snd.snd.snd.snd.snd.snd.snd.fst, t12.snd.snd.snd.snd.snd.snd.snd.snd.snd.snd.snd.snd.fst, t12.snd.snd.snd.snd.snd.snd.snd.snd.snd.snd.snd.snd.snd.fst, t12.snd.snd.snd.snd.snd.snd.snd.snd.snd.snd.snd.snd.snd.snd.fst, ())))))) (
        cnd (decide ((↑t12.snd.snd.snd.snd.snd.snd.snd.snd.snd.snd.snd.snd.snd.snd.snd.fst.length : Int) ≥ (16 : Int))) (
         ltO (y54.fst != (4 : Int)) fun (v93 : Bool) =>
         chk ((!v93) = true → (!v93) = true) <|
         ltO (y54.fst != (0 : Int)) fun (v94 : Bool) =>
         chk ((!v93) = true → (!v93) = true) <|
         chk ((!v93 && v94) = true → (!v93 && v94) = true) <|
         chk ((!v93 && v94) = true → (!v93 && v94) = true) <|
         ltO ((↑y54.snd.fst.length : Int) != (0 : Int)) fun (v95 : Bool) =>
         chk ((!v93) = true → (!v93) = true) <|
         chk ((!v93) = true → v94 = true → (!v93 && v94) = true) <|
         ltO (v94 && v95) fun (v96 : Bool) =>
         chk (v93 = false → (!v93) = true) <|
         ltO (v93 || v96) fun (v97 : Bool) =>
         chk ((!v97) = true → (!v97) = true) <|
         ltO (y54.fst == (0 : Int)) fun (v98 : Bool) =>
         chk ((!v97) = true → (!v97) = true) <|
         chk ((!v97 && v98) = true → (!v97 && v98) = true) <|
         chk ((!v97 && v98) = true → (!v97 && v98) = true) <|
         chk ((!v97 && v98) = true → (!v97 && v98) = true) <|
         ltO (IntKind.i64.wrap ((↑t12.snd.snd.snd.snd.snd.snd.snd.snd.snd.snd.snd.snd.snd.snd.snd.fst.length : Int) + (1 : Int))) fun (v99 : Int) =>
         chk ((!v97 && v98) = true → (!v97 && v98) = true) <|
         chk ((!v97 && v98) = true → (!v97 && v98) = true) <|
         ltO ((↑y54.snd.fst.length : Int) != v99) fun (v100 : Bool) =>
         chk ((!v97) = true → (!v97) = true) <|
         chk ((!v97) = true → v98 = true → (!v97 && v98) = true) <|
         ltO (v98 && v100) fun (v101 : Bool) =>
         chk (v97 = false → (!v97) = true) <|
         ltO (v97 || v101) fun (v102 : Bool) =>
         cnd (v102) (
          some (.inr (.inr (false, ())))) (
          ltO (y54.fst == (0 : Int)) fun (v103 : Bool) =>
          cnd (v103) (
           bnd (terrierlaw14_right (y54.snd.fst)) fun y104 =>
           chk ((!!y104.fst) = true → (!!y104.fst) = true) <|
           bndG (!!y104.fst) (sweep_Right (y54.snd.fst)) (false, ()) fun y105 =>
           chk ((!!y104.fst) = true → (!!y104.fst) = true) <|
           chk ((!y104.fst) = false → (!!y104.fst) = true) <|
           ltO (!y104.fst || !y105.fst) fun (v106 : Bool) =>
           cnd (v106) (
            some (.inr (.inr (false, ())))) (
            ltO (IntKind.i64.wrap (t12.snd.snd.snd.snd.snd.fst + (1 : Int))) fun (v107 : Int) =>
            some (.inl (t12.fst, t12.snd.snd.snd.fst, t12.snd.snd.snd.snd.fst, v107, y54.snd.fst, t12.snd.snd.snd.snd.snd.snd.fst, t12.snd.snd.snd.snd.snd.snd.snd.fst, t12.snd.snd.snd.snd.snd.snd.snd.snd.fst, t12.snd.snd.snd.snd.snd.snd.snd.snd.snd.fst, t12.snd.snd.snd.snd.snd.snd.snd.snd.snd.snd.fst, t12.snd.snd.snd.snd.snd.snd.snd.snd.snd.snd.snd.fst, t12.snd.snd.snd.snd.snd.snd.snd.snd.snd.snd.snd.snd.fst, t12.snd.snd.snd.snd.snd.snd.snd.snd.snd.snd.snd.snd.snd.fst, t12.snd.snd.snd.snd.snd.snd.snd.snd.snd.snd.snd.snd.snd.snd.fst, ())))) (
           bnd (terrierlaw14_right (t12.snd.snd.snd.snd.snd.snd.snd.snd.snd.snd.snd.snd.snd.snd.snd.fst)) fun y108 =>
           chk ((!!y108.fst) = true → (!!y108.fst) = true) <|
           bndG (!!y108.fst) (sweep_Right (t12.snd.snd.snd.snd.snd.snd.snd.snd.snd.snd.snd.snd.snd.snd.snd.fst)) (false, ()) fun y109 =>
           chk ((!!y108.fst) = true → (!!y108.fst) = true) <|
           chk ((!y108.fst) = false → (!!y108.fst) = true) <|
           ltO (!y108.fst || !y109.fst) fun (v110 : Bool) =>
           cnd (v110) (
            some (.inr (.inr (false, ())))) (
            ltO (IntKind.i64.wrap (t12.snd.snd.snd.snd.snd.fst + (1 : Int))) fun (v111 : Int) =>
            some (.inl (t12.fst, t12.snd.snd.snd.fst, t12.snd.snd.snd.snd.fst, v111, t12.snd.snd.snd.snd.snd.snd.snd.snd.snd.snd.snd.snd.snd.snd.snd.fst, t12.snd.snd.snd.snd.snd.snd.fst, t12.snd.snd.snd.snd.snd.snd.snd.fst, t12.snd.snd.snd.snd.snd.snd.snd.snd.fst, t12.snd.snd.snd.snd.snd.snd.snd.snd.snd.fst, t12.snd.snd.snd.snd.snd.snd.snd.snd.snd.snd.fst, t12.snd.snd.snd.snd.snd.snd.snd.snd.snd.snd.snd.fst, t12.snd.snd.snd.snd.snd.snd.snd.snd.snd.snd.snd.snd.fst, t12.snd.snd.snd.snd.snd.snd.snd.snd.snd.snd.snd.snd.snd.fst, t12.snd.snd.snd.snd.snd.snd.snd.snd.snd.snd.snd.snd.snd.snd.fst, ())))))) (
         ltO (y54.fst != (0 : Int)) fun (v112 : Bool) =>
         chk ((!v112) = true → (!v112) = true) <|
         ltO (y54.fst != (0 : Int)) fun (v113 : Bool) =>
         chk ((!v112) = true → (!v112) = true) <|
         chk ((!v112 && v113) = true → (!v112 && v113) = true) <|
         chk ((!v112 && v113) = true → (!v112 && v113) = true) <|
         ltO ((↑y54.snd.fst.length : Int) != (0 : Int)) fun (v114 : Bool) =>
         chk ((!v112) = true → (!v112) = true) <|
         chk ((!v112) = true → v113 = true → (!v112 && v113) = true) <|
         ltO (v113 && v114) fun (v115 : Bool) =>
         chk (v112 = false → (!v112) = true) <|
         ltO (v112 || v115) fun (v116 : Bool) =>
         chk ((!v116) = true → (!v116) = true) <|
         ltO (y54.fst == (0 : Int)) fun (v117 : Bool) =>
         chk ((!v116) = true → (!v116) = true) <|
         chk ((!v116 && v117) = true → (!v116 && v117) = true) <|
         chk ((!v116 && v117) = true → (!v116 && v117) = true) <|
         chk ((!v116 && v117) = true → (!v116 && v117) = true) <|
         ltO (IntKind.i64.wrap ((↑t12.snd.snd.snd.snd.snd.snd.snd.snd.snd.snd.snd.snd.snd.snd.snd.fst.length : Int) + (1 : Int))) fun (v118 : Int) =>
         chk ((!v116 && v117) = true → (!v116 && v117) = true) <|
         chk ((!v116 && v117) = true → (!v116 && v117) = true) <|
         ltO ((↑y54.snd.fst.length : Int) != v118) fun (v119 : Bool) =>
         chk ((!v116) = true → (!v116) = true) <|
         chk ((!v116) = true → v117 = true → (!v116 && v117) = true) <|
         ltO (v117 && v119) fun (v120 : Bool) =>
         chk (v116 = false → (!v116) = true) <|
         ltO (v116 || v120) fun (v121 : Bool) =>
         cnd (v121) (
          some (.inr (.inr (false, ())))) (
          ltO (y54.fst == (0 : Int)) fun (v122 : Bool) =>
          cnd (v122) (
           bnd (terrierlaw14_right (y54.snd.fst)) fun y123 =>
           chk ((!!y123.fst) = true → (!!y123.fst) = true) <|
           bndG (!!y123.fst) (sweep_Right (y54.snd.fst)) (false, ()) fun y124 =>
           chk ((!!y123.fst) = true → (!!y123.fst) = true) <|
           chk ((!y123.fst) = false → (!!y123.fst) = true) <|
           ltO (!y123.fst || !y124.fst) fun (v125 : Bool) =>
           cnd (v125) (
            some (.inr (.inr (false, ())))) (
            ltO (IntKind.i64.wrap (t12.snd.snd.snd.snd.snd.fst + (1 : Int))) fun (v126 : Int) =>
            some (.inl (t12.fst, t12.snd.snd.snd.fst, t12.snd.snd.snd.snd.fst, v126, y54.snd.fst, t12.snd.snd.snd.snd.snd.snd.fst, t12.snd.snd.snd.snd.snd.snd.snd.fst, t12.snd.snd.snd.snd.snd.snd.snd.snd.fst, t12.snd.snd.snd.snd.snd.snd.snd.snd.snd.fst, t12.snd.snd.snd.snd.snd.snd.snd.snd.snd.snd.fst, t12.snd.snd.snd.snd.snd.snd.snd.snd.snd.snd.snd.fst, t12.snd.snd.snd.snd.snd.snd.snd.snd.snd.snd.snd.snd.fst, t12.snd.snd.snd.snd.snd.snd.snd.snd.snd.snd.snd.snd.snd.fst, t12.snd.snd.snd.snd.snd.snd.snd.snd.snd.snd.snd.snd.snd.snd.fst, ())))) (
           bnd (terrierlaw14_right (t12.snd.snd.snd.snd.snd.snd.snd.snd.snd.snd.snd.snd.snd.snd.snd.fst)) fun y127 =>
           chk ((!!y127.fst) = true → (!!y127.fst) = true) <|
           bndG (!!y127.fst) (sweep_Right (t12.snd.snd.snd.snd.snd.snd.snd.snd.snd.snd.snd.snd.snd.snd.snd.fst)) (false, ()) fun y128 =>
           chk ((!!y127.fst) = true → (!!y127.fst) = true) <|
           chk ((!y127.fst) = false → (!!y127.fst) = true) <|
           ltO (!y127.fst || !y128.fst) fun (v129 : Bool) =>
           cnd (v129) (
            some (.inr (.inr (false, ())))) (
            ltO (IntKind.i64.wrap (t12.snd.snd.snd.snd.snd.fst + (1 : Int))) fun (v130 : Int) =>
            some (.inl (t12.fst, t12.snd.snd.snd.fst, t12.snd.snd.snd.snd.fst, v130, t12.snd.snd.snd.snd.snd.snd.snd.snd.snd.snd.snd.snd.snd.snd.snd.fst, t12.snd.snd.snd.snd.snd.snd.fst, t12.snd.snd.snd.snd.snd.snd.snd.fst, t12.snd.snd.snd.snd.snd.snd.snd.snd.fst, t12.snd.snd.snd.snd.snd.snd.snd.snd.snd.fst, t12.snd.snd.snd.snd.snd.snd.snd.snd.snd.snd.fst, t12.snd.snd.snd.snd.snd.snd.snd.snd.snd.snd.snd.fst, t12.snd.snd.snd.snd.snd.snd.snd.snd.snd.snd.snd.snd.fst, t12.snd.snd.snd.snd.snd.snd.snd.snd.snd.snd.snd.snd.snd.fst, t12.snd.snd.snd.snd.snd.snd.snd.snd.snd.snd.snd.snd.snd.snd.fst, ()))))))))))) (fun r13 =>
    some (.inr (.inr (r13))))) (
   some (.inr (.inl ())))

noncomputable def terrierlaw14_SweepScript_l0 (s : Int × (List (Int × Int × Int)) × Int × Int × (List TSweep) × Int × Int × Int × Int × Int × Int × Int × Int × Int × Unit) : Option (Unit ⊕ (Bool × Unit)) := loopM (fun s : Int × (List (Int × Int × Int)) × Int × Int × (List TSweep) × Int × Int × Int × Int × Int × Int × Int × Int × Int × Unit => terrierlaw14_SweepScript_b0 s.1 s.2.1 s.2.2.1 s.2.2.2.1 s.2.2.2.2.1 s.2.2.2.2.2.1 s.2.2.2.2.2.2.1 s.2.2.2.2.2.2.2.1 s.2.2.2.2.2.2.2.2.1 s.2.2.2.2.2.2.2.2.2.1 s.2.2.2.2.2.2.2.2.2.2.1 s.2.2.2.2.2.2.2.2.2.2.2.1 s.2.2.2.2.2.2.2.2.2.2.2.2.1 s.2.2.2.2.2.2.2.2.2.2.2.2.2.1) s

noncomputable def terrierlaw14_SweepScript (x : Int × Int × Int × Int × Int × Int × Int × Int × Int) (acts : List (Int × Int × Int)) : Option (Bool × Unit) :=
  bnd (terrierlaw14_awake) fun y0 =>
  cnd (!y0.fst) (
   some (false, ())) (
   bnd (terrierlaw10_Choice_Config (x)) fun y1 =>
   chk ((0 : Int) ≤ (0 : Int) ∧ ((0 : Int) ≤ if (100 : Int) < (↑acts.length : Int) then (100 : Int) else (↑acts.length : Int)) ∧ (if (100 : Int) < (↑acts.length : Int) then (100 : Int) else (↑acts.length : Int)) ≤ (↑acts.length : Int)) <|
   bnd (terrierlaw14_SweepScript_l0 ((0 : Int), sliceA (0 : Nat) (if (100 : Int) < (↑acts.length : Int) then (100 : Int) else (↑acts.length : Int)).toNat acts, (↑(sliceA (0 : Nat) (if (100 : Int) < (↑acts.length : Int) then (100 : Int) else (↑acts.length : Int)).toNat acts).length : Int), (0 : Int), [], y1.fst.fst, y1.fst.snd.fst, y1.fst.snd.snd.fst, y1.fst.snd.snd.snd.fst, y1.fst.snd.snd.snd.snd.fst, y1.fst.snd.snd.snd.snd.snd.fst, y1.fst.snd.snd.snd.snd.snd.snd.fst, y1.fst.snd.snd.snd.snd.snd.snd.snd.fst, y1.fst.snd.snd.snd.snd.snd.snd.snd.snd, ())) fun y131 =>
   sumO y131 (fun t132 =>
    some (true, ())) (fun r133 =>
    some (r133)))

end Go.Tr
