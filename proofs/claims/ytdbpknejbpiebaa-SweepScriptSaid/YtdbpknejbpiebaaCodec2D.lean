/- The functions that these laws reach, as Lean functions: printed by a program of this session's. Conditions: none. -/
import Derived.Test.YtdbpknejbpiebaaBD
import Derived.Test.YtdbpknejbpiebaaBE
import Derived.Test.YtdbpknejbpiebaaAddrD
import Derived.Test.YtdbpknejbpiebaaCodec1D
import Derived.Test.YtdbpknejbpiebaaMacD
namespace Go.Tr
open Go
set_option linter.unusedVariables false
set_option maxRecDepth 100000

noncomputable def terrierlaw18_Right (s' : Int × Int × (List THold) × (List TSweep) × (List (Int × List TSight)) × (List TProbe) × List (Int × Int × Int × Int)) : Option (Bool × Unit) :=
  chk (decide (s'.fst ≥ (0 : Int)) = true → decide (s'.fst ≥ (0 : Int)) = true) <|
  chk (decide (s'.fst ≥ (0 : Int)) = true → decide (s'.fst ≥ (0 : Int)) = true) <|
  chk (decide (s'.fst ≥ (0 : Int)) = true → decide (s'.fst ≥ (0 : Int)) = true) <|
  ltO (decide (s'.fst ≥ (0 : Int)) && decide (s'.fst ≤ (1099511627776 : Int))) fun (v0 : Bool) =>
  chk (v0 = true → v0 = true) <|
  chk (v0 = true → v0 = true) <|
  chk (v0 = true → v0 = true) <|
  ltO (v0 && decide (s'.snd.fst ≥ (0 : Int))) fun (v1 : Bool) =>
  chk (v1 = true → v1 = true) <|
  chk (v1 = true → v1 = true) <|
  chk (v1 = true → v1 = true) <|
  ltO (v1 && decide (s'.snd.fst < (65536 : Int))) fun (v2 : Bool) =>
  chk (v2 = true → v2 = true) <|
  chk (v2 = true → v2 = true) <|
  bndG (v2) (held_Right (s'.snd.snd.fst)) (false, ()) fun y3 =>
  chk (v2 = true → v2 = true) <|
  ltO (v2 && y3.fst) fun (v4 : Bool) =>
  chk (v4 = true → v4 = true) <|
  chk (v4 = true → v4 = true) <|
  bndG (v4) (seen_Right (s'.snd.snd.snd.snd.fst)) (false, ()) fun y5 =>
  chk (v4 = true → v4 = true) <|
  ltO (v4 && y5.fst) fun (v6 : Bool) =>
  chk (v6 = true → v6 = true) <|
  chk (v6 = true → v6 = true) <|
  bndG (v6) (sweep_Right (s'.snd.snd.snd.fst)) (false, ()) fun y7 =>
  chk (v6 = true → v6 = true) <|
  ltO (v6 && y7.fst) fun (v8 : Bool) =>
  chk (v8 = true → v8 = true) <|
  chk (v8 = true → v8 = true) <|
  bndG (v8) (probe_Right (s'.snd.snd.snd.snd.snd.fst)) (false, ()) fun y9 =>
  chk (v8 = true → v8 = true) <|
  ltO (v8 && y9.fst) fun (v10 : Bool) =>
  chk (v10 = true → v10 = true) <|
  chk (v10 = true → v10 = true) <|
  bndG (v10) (cases_Right (s'.snd.snd.snd.snd.snd.snd)) (false, ()) fun y11 =>
  chk (v10 = true → v10 = true) <|
  ltO (v10 && y11.fst) fun (v12 : Bool) =>
  some (v12, ())

noncomputable def terrierlaw19_sight (x : Int × TMac × Int) : Option ((List UInt8) × Unit) :=
  bnd (terrierlaw19_put (x.fst) ((1 : Int))) fun y0 =>
  chk ((0 : Int) ≤ (0 : Int) ∧ (0 : Int) ≤ (6 : Int) ∧ (6 : Int) ≤ (6 : Int)) <|
  ltO (toBytes [x.snd.fst.fst, x.snd.fst.snd.fst, x.snd.fst.snd.snd.fst, x.snd.fst.snd.snd.snd.fst, x.snd.fst.snd.snd.snd.snd.fst, x.snd.fst.snd.snd.snd.snd.snd]) fun (v1 : List UInt8) =>
  chk ((↑(y0.fst.length + v1.length) : Int) ≤ (9223372036854775807 : Int)) <|
  ltO (y0.fst ++ v1) fun (v2 : List UInt8) =>
  bnd (terrierlaw19_put (x.snd.snd) ((8 : Int))) fun y3 =>
  chk ((↑(v2.length + y3.fst.length) : Int) ≤ (9223372036854775807 : Int)) <|
  ltO (v2 ++ y3.fst) fun (v4 : List UInt8) =>
  some (v4, ())

noncomputable def terrierlaw19_State_b0 (out : List UInt8) (t29 : List THold) (t30 : Int) (t31 : Int) (s'_0 : Int) (s'_1 : Int) (s'_2 : List THold) (s'_3 : List TSweep) (s'_4 : List (Int × List TSight)) (s'_5 : List TProbe) (s'_6 : List (Int × Int × Int × Int)) : Option (((List UInt8) × (List THold) × Int × Int × Int × Int × (List THold) × (List TSweep) × (List (Int × List TSight)) × (List TProbe) × (List (Int × Int × Int × Int)) × Unit) ⊕ (((List UInt8) × Int × Int × (List THold) × (List TSweep) × (List (Int × List TSight)) × (List TProbe) × (List (Int × Int × Int × Int)) × Unit) ⊕ ((List UInt8) × Unit))) :=
  cnd (decide (t31 < t30)) (
   chk ((0 : Int) ≤ t31 ∧ t31 < (↑t29.length : Int)) <|
   ltO ((Option.rec zHold (fun val => val) t29[t31.toNat]?)) fun (v5 : Int × (List UInt8) × Int × Int × Int × Int × Int × Int) =>
   bnd (terrierlaw19_holder (v5)) fun y6 =>
   chk ((↑(out.length + y6.fst.length) : Int) ≤ (9223372036854775807 : Int)) <|
   ltO (out ++ y6.fst) fun (v7 : List UInt8) =>
   ltO (IntKind.i64.wrap (t31 + (1 : Int))) fun (v8 : Int) =>
   some (.inl (v7, t29, t30, v8, s'_0, s'_1, s'_2, s'_3, s'_4, s'_5, s'_6, ()))) (
   some (.inr (.inl (out, s'_0, s'_1, s'_2, s'_3, s'_4, s'_5, s'_6, ()))))

noncomputable def terrierlaw19_State_l0 (s : (List UInt8) × (List THold) × Int × Int × Int × Int × (List THold) × (List TSweep) × (List (Int × List TSight)) × (List TProbe) × (List (Int × Int × Int × Int)) × Unit) : Option (((List UInt8) × Int × Int × (List THold) × (List TSweep) × (List (Int × List TSight)) × (List TProbe) × (List (Int × Int × Int × Int)) × Unit) ⊕ ((List UInt8) × Unit)) := loopM (fun s : (List UInt8) × (List THold) × Int × Int × Int × Int × (List THold) × (List TSweep) × (List (Int × List TSight)) × (List TProbe) × (List (Int × Int × Int × Int)) × Unit => terrierlaw19_State_b0 s.1 s.2.1 s.2.2.1 s.2.2.2.1 s.2.2.2.2.1 s.2.2.2.2.2.1 s.2.2.2.2.2.2.1 s.2.2.2.2.2.2.2.1 s.2.2.2.2.2.2.2.2.1 s.2.2.2.2.2.2.2.2.2.1 s.2.2.2.2.2.2.2.2.2.2.1) s

noncomputable def terrierlaw19_State_b1 (out : List UInt8) (t47 : List TSweep) (t48 : Int) (t49 : Int) (s'_0 : Int) (s'_1 : Int) (s'_2 : List THold) (s'_3 : List TSweep) (s'_4 : List (Int × List TSight)) (s'_5 : List TProbe) (s'_6 : List (Int × Int × Int × Int)) : Option (((List UInt8) × (List TSweep) × Int × Int × Int × Int × (List THold) × (List TSweep) × (List (Int × List TSight)) × (List TProbe) × (List (Int × Int × Int × Int)) × Unit) ⊕ (((List UInt8) × Int × Int × (List THold) × (List TSweep) × (List (Int × List TSight)) × (List TProbe) × (List (Int × Int × Int × Int)) × Unit) ⊕ ((List UInt8) × Unit))) :=
  cnd (decide (t49 < t48)) (
   chk ((0 : Int) ≤ t49 ∧ t49 < (↑t47.length : Int)) <|
   ltO ((Option.rec zSweep (fun val => val) t47[t49.toNat]?)) fun (v14 : (Int × Int) × Int × Int) =>
   ltO (IntKind.i64.wrap v14.fst.fst) fun (v15 : Int) =>
   bnd (terrierlaw19_put (v15) ((4 : Int))) fun y16 =>
   chk ((↑(out.length + y16.fst.length) : Int) ≤ (9223372036854775807 : Int)) <|
   ltO (out ++ y16.fst) fun (v17 : List UInt8) =>
   bnd (terrierlaw19_put (v14.fst.snd) ((1 : Int))) fun y18 =>
   chk ((↑(v17.length + y18.fst.length) : Int) ≤ (9223372036854775807 : Int)) <|
   ltO (v17 ++ y18.fst) fun (v19 : List UInt8) =>
   bnd (terrierlaw19_put (v14.snd.fst) ((8 : Int))) fun y20 =>
   chk ((↑(v19.length + y20.fst.length) : Int) ≤ (9223372036854775807 : Int)) <|
   ltO (v19 ++ y20.fst) fun (v21 : List UInt8) =>
   bnd (terrierlaw19_put (v14.snd.snd) ((2 : Int))) fun y22 =>
   chk ((↑(v21.length + y22.fst.length) : Int) ≤ (9223372036854775807 : Int)) <|
   ltO (v21 ++ y22.fst) fun (v23 : List UInt8) =>
   ltO (IntKind.i64.wrap (t49 + (1 : Int))) fun (v24 : Int) =>
   some (.inl (v23, t47, t48, v24, s'_0, s'_1, s'_2, s'_3, s'_4, s'_5, s'_6, ()))) (
   some (.inr (.inl (out, s'_0, s'_1, s'_2, s'_3, s'_4, s'_5, s'_6, ()))))

noncomputable def terrierlaw19_State_l1 (s : (List UInt8) × (List TSweep) × Int × Int × Int × Int × (List THold) × (List TSweep) × (List (Int × List TSight)) × (List TProbe) × (List (Int × Int × Int × Int)) × Unit) : Option (((List UInt8) × Int × Int × (List THold) × (List TSweep) × (List (Int × List TSight)) × (List TProbe) × (List (Int × Int × Int × Int)) × Unit) ⊕ ((List UInt8) × Unit)) := loopM (fun s : (List UInt8) × (List TSweep) × Int × Int × Int × Int × (List THold) × (List TSweep) × (List (Int × List TSight)) × (List TProbe) × (List (Int × Int × Int × Int)) × Unit => terrierlaw19_State_b1 s.1 s.2.1 s.2.2.1 s.2.2.2.1 s.2.2.2.2.1 s.2.2.2.2.2.1 s.2.2.2.2.2.2.1 s.2.2.2.2.2.2.2.1 s.2.2.2.2.2.2.2.2.1 s.2.2.2.2.2.2.2.2.2.1 s.2.2.2.2.2.2.2.2.2.2.1) s

noncomputable def terrierlaw19_State_b3 (out : List UInt8) (t81 : List (Int × List TSight)) (t82 : Int) (t83 : Int) (t99 : List TSight) (t100 : Int) (t101 : Int) (s'_0 : Int) (s'_1 : Int) (s'_2 : List THold) (s'_3 : List TSweep) (s'_4 : List (Int × List TSight)) (s'_5 : List TProbe) (s'_6 : List (Int × Int × Int × Int)) : Option (((List UInt8) × (List (Int × List TSight)) × Int × Int × (List TSight) × Int × Int × Int × Int × (List THold) × (List TSweep) × (List (Int × List TSight)) × (List TProbe) × (List (Int × Int × Int × Int)) × Unit) ⊕ (((List UInt8) × (List (Int × List TSight)) × Int × Int × Int × Int × (List THold) × (List TSweep) × (List (Int × List TSight)) × (List TProbe) × (List (Int × Int × Int × Int)) × Unit) ⊕ ((List UInt8) × Unit))) :=
  cnd (decide (t101 < t100)) (
   chk ((0 : Int) ≤ t101 ∧ t101 < (↑t99.length : Int)) <|
   ltO ((Option.rec zSight (fun val => val) t99[t101.toNat]?)) fun (v36 : Int × TMac × Int) =>
   bnd (terrierlaw19_sight (v36)) fun y37 =>
   chk ((↑(out.length + y37.fst.length) : Int) ≤ (9223372036854775807 : Int)) <|
   ltO (out ++ y37.fst) fun (v38 : List UInt8) =>
   ltO (IntKind.i64.wrap (t101 + (1 : Int))) fun (v39 : Int) =>
   some (.inl (v38, t81, t82, t83, t99, t100, v39, s'_0, s'_1, s'_2, s'_3, s'_4, s'_5, s'_6, ()))) (
   some (.inr (.inl (out, t81, t82, t83, s'_0, s'_1, s'_2, s'_3, s'_4, s'_5, s'_6, ()))))

noncomputable def terrierlaw19_State_l3 (s : (List UInt8) × (List (Int × List TSight)) × Int × Int × (List TSight) × Int × Int × Int × Int × (List THold) × (List TSweep) × (List (Int × List TSight)) × (List TProbe) × (List (Int × Int × Int × Int)) × Unit) : Option (((List UInt8) × (List (Int × List TSight)) × Int × Int × Int × Int × (List THold) × (List TSweep) × (List (Int × List TSight)) × (List TProbe) × (List (Int × Int × Int × Int)) × Unit) ⊕ ((List UInt8) × Unit)) := loopM (fun s : (List UInt8) × (List (Int × List TSight)) × Int × Int × (List TSight) × Int × Int × Int × Int × (List THold) × (List TSweep) × (List (Int × List TSight)) × (List TProbe) × (List (Int × Int × Int × Int)) × Unit => terrierlaw19_State_b3 s.1 s.2.1 s.2.2.1 s.2.2.2.1 s.2.2.2.2.1 s.2.2.2.2.2.1 s.2.2.2.2.2.2.1 s.2.2.2.2.2.2.2.1 s.2.2.2.2.2.2.2.2.1 s.2.2.2.2.2.2.2.2.2.1 s.2.2.2.2.2.2.2.2.2.2.1 s.2.2.2.2.2.2.2.2.2.2.2.1 s.2.2.2.2.2.2.2.2.2.2.2.2.1 s.2.2.2.2.2.2.2.2.2.2.2.2.2.1) s

noncomputable def terrierlaw19_State_b2 (out : List UInt8) (t81 : List (Int × List TSight)) (t82 : Int) (t83 : Int) (s'_0 : Int) (s'_1 : Int) (s'_2 : List THold) (s'_3 : List TSweep) (s'_4 : List (Int × List TSight)) (s'_5 : List TProbe) (s'_6 : List (Int × Int × Int × Int)) : Option (((List UInt8) × (List (Int × List TSight)) × Int × Int × Int × Int × (List THold) × (List TSweep) × (List (Int × List TSight)) × (List TProbe) × (List (Int × Int × Int × Int)) × Unit) ⊕ (((List UInt8) × Int × Int × (List THold) × (List TSweep) × (List (Int × List TSight)) × (List TProbe) × (List (Int × Int × Int × Int)) × Unit) ⊕ ((List UInt8) × Unit))) :=
  cnd (decide (t83 < t82)) (
   chk ((0 : Int) ≤ t83 ∧ t83 < (↑t81.length : Int)) <|
   ltO ((Option.rec ((0 : Int), []) (fun val => val) t81[t83.toNat]?)) fun (v30 : Int × List TSight) =>
   ltO (IntKind.i64.wrap v30.fst) fun (v31 : Int) =>
   bnd (terrierlaw19_put (v31) ((4 : Int))) fun y32 =>
   chk ((↑(out.length + y32.fst.length) : Int) ≤ (9223372036854775807 : Int)) <|
   ltO (out ++ y32.fst) fun (v33 : List UInt8) =>
   bnd (terrierlaw19_put ((↑v30.snd.length : Int)) ((2 : Int))) fun y34 =>
   chk ((↑(v33.length + y34.fst.length) : Int) ≤ (9223372036854775807 : Int)) <|
   ltO (v33 ++ y34.fst) fun (v35 : List UInt8) =>
   bnd (terrierlaw19_State_l3 (v35, t81, t82, t83, v30.snd, (↑v30.snd.length : Int), (0 : Int), s'_0, s'_1, s'_2, s'_3, s'_4, s'_5, s'_6, ())) fun y40 =>
   sumO y40 (fun t41 =>
    ltO (IntKind.i64.wrap (t41.snd.snd.snd.fst + (1 : Int))) fun (v43 : Int) =>
    some (.inl (t41.fst, t41.snd.fst, t41.snd.snd.fst, v43, t41.snd.snd.snd.snd.fst, t41.snd.snd.snd.snd.snd.fst, t41.snd.snd.snd.snd.snd.snd.fst, t41.snd.snd.snd.snd.snd.snd.snd.fst, t41.snd.snd.snd.snd.snd.snd.snd.snd.fst, t41.snd.snd.snd.snd.snd.snd.snd.snd.snd.fst, t41.snd.snd.snd.snd.snd.snd.snd.snd.snd.snd.fst, ()))) (fun r42 =>
    some (.inr (.inr (r42))))) (
   some (.inr (.inl (out, s'_0, s'_1, s'_2, s'_3, s'_4, s'_5, s'_6, ()))))

noncomputable def terrierlaw19_State_l2 (s : (List UInt8) × (List (Int × List TSight)) × Int × Int × Int × Int × (List THold) × (List TSweep) × (List (Int × List TSight)) × (List TProbe) × (List (Int × Int × Int × Int)) × Unit) : Option (((List UInt8) × Int × Int × (List THold) × (List TSweep) × (List (Int × List TSight)) × (List TProbe) × (List (Int × Int × Int × Int)) × Unit) ⊕ ((List UInt8) × Unit)) := loopM (fun s : (List UInt8) × (List (Int × List TSight)) × Int × Int × Int × Int × (List THold) × (List TSweep) × (List (Int × List TSight)) × (List TProbe) × (List (Int × Int × Int × Int)) × Unit => terrierlaw19_State_b2 s.1 s.2.1 s.2.2.1 s.2.2.2.1 s.2.2.2.2.1 s.2.2.2.2.2.1 s.2.2.2.2.2.2.1 s.2.2.2.2.2.2.2.1 s.2.2.2.2.2.2.2.2.1 s.2.2.2.2.2.2.2.2.2.1 s.2.2.2.2.2.2.2.2.2.2.1) s

noncomputable def terrierlaw19_State_b4 (out : List UInt8) (t118 : List TProbe) (t119 : Int) (t120 : Int) (s'_0 : Int) (s'_1 : Int) (s'_2 : List THold) (s'_3 : List TSweep) (s'_4 : List (Int × List TSight)) (s'_5 : List TProbe) (s'_6 : List (Int × Int × Int × Int)) : Option (((List UInt8) × (List TProbe) × Int × Int × Int × Int × (List THold) × (List TSweep) × (List (Int × List TSight)) × (List TProbe) × (List (Int × Int × Int × Int)) × Unit) ⊕ (((List UInt8) × Int × Int × (List THold) × (List TSweep) × (List (Int × List TSight)) × (List TProbe) × (List (Int × Int × Int × Int)) × Unit) ⊕ ((List UInt8) × Unit))) :=
  cnd (decide (t120 < t119)) (
   chk ((0 : Int) ≤ t120 ∧ t120 < (↑t118.length : Int)) <|
   ltO ((Option.rec ((0 : Int), (0 : Int), (0 : Int), (0 : Int), (0 : Int)) (fun val => val) t118[t120.toNat]?)) fun (v49 : Int × Int × Int × Int × Int) =>
   ltO (IntKind.i64.wrap v49.fst) fun (v50 : Int) =>
   bnd (terrierlaw19_put (v50) ((4 : Int))) fun y51 =>
   chk ((↑(out.length + y51.fst.length) : Int) ≤ (9223372036854775807 : Int)) <|
   ltO (out ++ y51.fst) fun (v52 : List UInt8) =>
   bnd (terrierlaw19_put (v49.snd.snd.fst) ((2 : Int))) fun y53 =>
   chk ((↑(v52.length + y53.fst.length) : Int) ≤ (9223372036854775807 : Int)) <|
   ltO (v52 ++ y53.fst) fun (v54 : List UInt8) =>
   bnd (terrierlaw19_put (v49.snd.snd.snd.fst) ((8 : Int))) fun y55 =>
   chk ((↑(v54.length + y55.fst.length) : Int) ≤ (9223372036854775807 : Int)) <|
   ltO (v54 ++ y55.fst) fun (v56 : List UInt8) =>
   bnd (terrierlaw19_put (v49.snd.snd.snd.snd) ((1 : Int))) fun y57 =>
   chk ((↑(v56.length + y57.fst.length) : Int) ≤ (9223372036854775807 : Int)) <|
   ltO (v56 ++ y57.fst) fun (v58 : List UInt8) =>
   ltO (IntKind.i64.wrap (t120 + (1 : Int))) fun (v59 : Int) =>
   some (.inl (v58, t118, t119, v59, s'_0, s'_1, s'_2, s'_3, s'_4, s'_5, s'_6, ()))) (
   some (.inr (.inl (out, s'_0, s'_1, s'_2, s'_3, s'_4, s'_5, s'_6, ()))))

noncomputable def terrierlaw19_State_l4 (s : (List UInt8) × (List TProbe) × Int × Int × Int × Int × (List THold) × (List TSweep) × (List (Int × List TSight)) × (List TProbe) × (List (Int × Int × Int × Int)) × Unit) : Option (((List UInt8) × Int × Int × (List THold) × (List TSweep) × (List (Int × List TSight)) × (List TProbe) × (List (Int × Int × Int × Int)) × Unit) ⊕ ((List UInt8) × Unit)) := loopM (fun s : (List UInt8) × (List TProbe) × Int × Int × Int × Int × (List THold) × (List TSweep) × (List (Int × List TSight)) × (List TProbe) × (List (Int × Int × Int × Int)) × Unit => terrierlaw19_State_b4 s.1 s.2.1 s.2.2.1 s.2.2.2.1 s.2.2.2.2.1 s.2.2.2.2.2.1 s.2.2.2.2.2.2.1 s.2.2.2.2.2.2.2.1 s.2.2.2.2.2.2.2.2.1 s.2.2.2.2.2.2.2.2.2.1 s.2.2.2.2.2.2.2.2.2.2.1) s

noncomputable def terrierlaw19_State_b5 (out : List UInt8) (t150 : List (Int × Int × Int × Int)) (t151 : Int) (t152 : Int) : Option (((List UInt8) × (List (Int × Int × Int × Int)) × Int × Int × Unit) ⊕ (((List UInt8) × Unit) ⊕ ((List UInt8) × Unit))) :=
  cnd (decide (t152 < t151)) (
   chk ((0 : Int) ≤ t152 ∧ t152 < (↑t150.length : Int)) <|
   ltO ((Option.rec ((0 : Int), (0 : Int), (0 : Int), (0 : Int)) (fun val => val) t150[t152.toNat]?)) fun (v65 : Int × Int × Int × Int) =>
   ltO (IntKind.i64.wrap v65.fst) fun (v66 : Int) =>
   bnd (terrierlaw19_put (v66) ((4 : Int))) fun y67 =>
   chk ((↑(out.length + y67.fst.length) : Int) ≤ (9223372036854775807 : Int)) <|
   ltO (out ++ y67.fst) fun (v68 : List UInt8) =>
   bnd (terrierlaw19_put (v65.snd.fst) ((8 : Int))) fun y69 =>
   chk ((↑(v68.length + y69.fst.length) : Int) ≤ (9223372036854775807 : Int)) <|
   ltO (v68 ++ y69.fst) fun (v70 : List UInt8) =>
   bnd (terrierlaw19_put (v65.snd.snd.fst) ((8 : Int))) fun y71 =>
   chk ((↑(v70.length + y71.fst.length) : Int) ≤ (9223372036854775807 : Int)) <|
   ltO (v70 ++ y71.fst) fun (v72 : List UInt8) =>
   bnd (terrierlaw19_put (v65.snd.snd.snd) ((1 : Int))) fun y73 =>
   chk ((↑(v72.length + y73.fst.length) : Int) ≤ (9223372036854775807 : Int)) <|
   ltO (v72 ++ y73.fst) fun (v74 : List UInt8) =>
   ltO (IntKind.i64.wrap (t152 + (1 : Int))) fun (v75 : Int) =>
   some (.inl (v74, t150, t151, v75, ()))) (
   some (.inr (.inl (out, ()))))

noncomputable def terrierlaw19_State_l5 (s : (List UInt8) × (List (Int × Int × Int × Int)) × Int × Int × Unit) : Option (((List UInt8) × Unit) ⊕ ((List UInt8) × Unit)) := loopM (fun s : (List UInt8) × (List (Int × Int × Int × Int)) × Int × Int × Unit => terrierlaw19_State_b5 s.1 s.2.1 s.2.2.1 s.2.2.2.1) s

noncomputable def terrierlaw19_State (s' : Int × Int × (List THold) × (List TSweep) × (List (Int × List TSight)) × (List TProbe) × List (Int × Int × Int × Int)) : Option ((List UInt8) × Unit) :=
  bnd (terrierlaw19_put (s'.fst) ((8 : Int))) fun y0 =>
  bnd (terrierlaw19_put (s'.snd.fst) ((2 : Int))) fun y1 =>
  chk ((↑(y0.fst.length + y1.fst.length) : Int) ≤ (9223372036854775807 : Int)) <|
  ltO (y0.fst ++ y1.fst) fun (v2 : List UInt8) =>
  bnd (terrierlaw19_put ((↑s'.snd.snd.fst.length : Int)) ((2 : Int))) fun y3 =>
  chk ((↑(v2.length + y3.fst.length) : Int) ≤ (9223372036854775807 : Int)) <|
  ltO (v2 ++ y3.fst) fun (v4 : List UInt8) =>
  bnd (terrierlaw19_State_l0 (v4, s'.snd.snd.fst, (↑s'.snd.snd.fst.length : Int), (0 : Int), s'.fst, s'.snd.fst, s'.snd.snd.fst, s'.snd.snd.snd.fst, s'.snd.snd.snd.snd.fst, s'.snd.snd.snd.snd.snd.fst, s'.snd.snd.snd.snd.snd.snd, ())) fun y9 =>
  sumO y9 (fun t10 =>
   bnd (terrierlaw19_put ((↑t10.snd.snd.snd.snd.fst.length : Int)) ((2 : Int))) fun y12 =>
   chk ((↑(t10.fst.length + y12.fst.length) : Int) ≤ (9223372036854775807 : Int)) <|
   ltO (t10.fst ++ y12.fst) fun (v13 : List UInt8) =>
   bnd (terrierlaw19_State_l1 (v13, t10.snd.snd.snd.snd.fst, (↑t10.snd.snd.snd.snd.fst.length : Int), (0 : Int), t10.snd.fst, t10.snd.snd.fst, t10.snd.snd.snd.fst, t10.snd.snd.snd.snd.fst, t10.snd.snd.snd.snd.snd.fst, t10.snd.snd.snd.snd.snd.snd.fst, t10.snd.snd.snd.snd.snd.snd.snd.fst, ())) fun y25 =>
   sumO y25 (fun t26 =>
    bnd (terrierlaw19_put ((↑t26.snd.snd.snd.snd.snd.fst.length : Int)) ((2 : Int))) fun y28 =>
    chk ((↑(t26.fst.length + y28.fst.length) : Int) ≤ (9223372036854775807 : Int)) <|
    ltO (t26.fst ++ y28.fst) fun (v29 : List UInt8) =>
    bnd (terrierlaw19_State_l2 (v29, t26.snd.snd.snd.snd.snd.fst, (↑t26.snd.snd.snd.snd.snd.fst.length : Int), (0 : Int), t26.snd.fst, t26.snd.snd.fst, t26.snd.snd.snd.fst, t26.snd.snd.snd.snd.fst, t26.snd.snd.snd.snd.snd.fst, t26.snd.snd.snd.snd.snd.snd.fst, t26.snd.snd.snd.snd.snd.snd.snd.fst, ())) fun y44 =>
    sumO y44 (fun t45 =>
     bnd (terrierlaw19_put ((↑t45.snd.snd.snd.snd.snd.snd.fst.length : Int)) ((2 : Int))) fun y47 =>
     chk ((↑(t45.fst.length + y47.fst.length) : Int) ≤ (9223372036854775807 : Int)) <|
     ltO (t45.fst ++ y47.fst) fun (v48 : List UInt8) =>
     bnd (terrierlaw19_State_l4 (v48, t45.snd.snd.snd.snd.snd.snd.fst, (↑t45.snd.snd.snd.snd.snd.snd.fst.length : Int), (0 : Int), t45.snd.fst, t45.snd.snd.fst, t45.snd.snd.snd.fst, t45.snd.snd.snd.snd.fst, t45.snd.snd.snd.snd.snd.fst, t45.snd.snd.snd.snd.snd.snd.fst, t45.snd.snd.snd.snd.snd.snd.snd.fst, ())) fun y60 =>
     sumO y60 (fun t61 =>
      bnd (terrierlaw19_put ((↑t61.snd.snd.snd.snd.snd.snd.snd.fst.length : Int)) ((2 : Int))) fun y63 =>
      chk ((↑(t61.fst.length + y63.fst.length) : Int) ≤ (9223372036854775807 : Int)) <|
      ltO (t61.fst ++ y63.fst) fun (v64 : List UInt8) =>
      bnd (terrierlaw19_State_l5 (v64, t61.snd.snd.snd.snd.snd.snd.snd.fst, (↑t61.snd.snd.snd.snd.snd.snd.snd.fst.length : Int), (0 : Int), ())) fun y76 =>
      sumO y76 (fun t77 =>
       some (t77.fst, ())) (fun r78 =>
       some (r78))) (fun r62 =>
      some (r62))) (fun r46 =>
     some (r46))) (fun r27 =>
    some (r27))) (fun r11 =>
   some (r11))

noncomputable def terrierlaw19_CodecRaw_b0 (t54 : List (Int × List TSight)) (t55 : Int) (t56 : Int) (s'_0 : Int) (s'_1 : Int) (s'_2 : List THold) (s'_3 : List TSweep) (s'_4 : List (Int × List TSight)) (s'_5 : List TProbe) (s'_6 : List (Int × Int × Int × Int)) : Option (((List (Int × List TSight)) × Int × Int × Int × Int × (List THold) × (List TSweep) × (List (Int × List TSight)) × (List TProbe) × (List (Int × Int × Int × Int)) × Unit) ⊕ ((Int × Int × (List THold) × (List TSweep) × (List (Int × List TSight)) × (List TProbe) × (List (Int × Int × Int × Int)) × Unit) ⊕ (Bool × Unit))) :=
  cnd (decide (t56 < t55)) (
   chk ((0 : Int) ≤ t56 ∧ t56 < (↑t54.length : Int)) <|
   ltO ((Option.rec ((0 : Int), []) (fun val => val) t54[t56.toNat]?)) fun (v1 : Int × List TSight) =>
   cnd (decide ((↑v1.snd.length : Int) > (60 : Int))) (
    bnd (codec_Right ((s'_0, s'_1, s'_2, s'_3, s'_4, s'_5, s'_6))) fun y2 =>
    some (.inr (.inr (!y2.fst, ())))) (
    ltO (IntKind.i64.wrap (t56 + (1 : Int))) fun (v3 : Int) =>
    some (.inl (t54, t55, v3, s'_0, s'_1, s'_2, s'_3, s'_4, s'_5, s'_6, ())))) (
   some (.inr (.inl (s'_0, s'_1, s'_2, s'_3, s'_4, s'_5, s'_6, ()))))

noncomputable def terrierlaw19_CodecRaw_l0 (s : (List (Int × List TSight)) × Int × Int × Int × Int × (List THold) × (List TSweep) × (List (Int × List TSight)) × (List TProbe) × (List (Int × Int × Int × Int)) × Unit) : Option ((Int × Int × (List THold) × (List TSweep) × (List (Int × List TSight)) × (List TProbe) × (List (Int × Int × Int × Int)) × Unit) ⊕ (Bool × Unit)) := loopM (fun s : (List (Int × List TSight)) × Int × Int × Int × Int × (List THold) × (List TSweep) × (List (Int × List TSight)) × (List TProbe) × (List (Int × Int × Int × Int)) × Unit => terrierlaw19_CodecRaw_b0 s.1 s.2.1 s.2.2.1 s.2.2.2.1 s.2.2.2.2.1 s.2.2.2.2.2.1 s.2.2.2.2.2.2.1 s.2.2.2.2.2.2.2.1 s.2.2.2.2.2.2.2.2.1 s.2.2.2.2.2.2.2.2.2.1) s

noncomputable def terrierlaw19_CodecRaw_b1 (t69 : List THold) (t70 : Int) (t71 : Int) (s'_0 : Int) (s'_1 : Int) (s'_2 : List THold) (s'_3 : List TSweep) (s'_4 : List (Int × List TSight)) (s'_5 : List TProbe) (s'_6 : List (Int × Int × Int × Int)) : Option (((List THold) × Int × Int × Int × Int × (List THold) × (List TSweep) × (List (Int × List TSight)) × (List TProbe) × (List (Int × Int × Int × Int)) × Unit) ⊕ ((Int × Int × (List THold) × (List TSweep) × (List (Int × List TSight)) × (List TProbe) × (List (Int × Int × Int × Int)) × Unit) ⊕ (Bool × Unit))) :=
  cnd (decide (t71 < t70)) (
   chk ((0 : Int) ≤ t71 ∧ t71 < (↑t69.length : Int)) <|
   ltO ((Option.rec zHold (fun val => val) t69[t71.toNat]?)) fun (v7 : Int × (List UInt8) × Int × Int × Int × Int × Int × Int) =>
   cnd (decide ((↑v7.snd.fst.length : Int) > (60 : Int))) (
    bnd (codec_Right ((s'_0, s'_1, s'_2, s'_3, s'_4, s'_5, s'_6))) fun y8 =>
    some (.inr (.inr (!y8.fst, ())))) (
    ltO (IntKind.i64.wrap (t71 + (1 : Int))) fun (v9 : Int) =>
    some (.inl (t69, t70, v9, s'_0, s'_1, s'_2, s'_3, s'_4, s'_5, s'_6, ())))) (
   some (.inr (.inl (s'_0, s'_1, s'_2, s'_3, s'_4, s'_5, s'_6, ()))))

noncomputable def terrierlaw19_CodecRaw_l1 (s : (List THold) × Int × Int × Int × Int × (List THold) × (List TSweep) × (List (Int × List TSight)) × (List TProbe) × (List (Int × Int × Int × Int)) × Unit) : Option ((Int × Int × (List THold) × (List TSweep) × (List (Int × List TSight)) × (List TProbe) × (List (Int × Int × Int × Int)) × Unit) ⊕ (Bool × Unit)) := loopM (fun s : (List THold) × Int × Int × Int × Int × (List THold) × (List TSweep) × (List (Int × List TSight)) × (List TProbe) × (List (Int × Int × Int × Int)) × Unit => terrierlaw19_CodecRaw_b1 s.1 s.2.1 s.2.2.1 s.2.2.2.1 s.2.2.2.2.1 s.2.2.2.2.2.1 s.2.2.2.2.2.2.1 s.2.2.2.2.2.2.2.1 s.2.2.2.2.2.2.2.2.1 s.2.2.2.2.2.2.2.2.2.1) s

noncomputable def terrierlaw19_CodecRaw (s' : Int × Int × (List THold) × (List TSweep) × (List (Int × List TSight)) × (List TProbe) × List (Int × Int × Int × Int)) : Option (Bool × Unit) :=
  bnd (terrierlaw19_awake) fun y0 =>
  cnd (!y0.fst) (
   some (false, ())) (
   chk ((0 : Int) ≤ (0 : Int) ∧ ((0 : Int) ≤ if (40 : Int) < (↑s'.snd.snd.fst.length : Int) then (40 : Int) else (↑s'.snd.snd.fst.length : Int)) ∧ (if (40 : Int) < (↑s'.snd.snd.fst.length : Int) then (40 : Int) else (↑s'.snd.snd.fst.length : Int)) ≤ (↑s'.snd.snd.fst.length : Int)) <|
   chk ((0 : Int) ≤ (0 : Int) ∧ ((0 : Int) ≤ if (40 : Int) < (↑s'.snd.snd.snd.fst.length : Int) then (40 : Int) else (↑s'.snd.snd.snd.fst.length : Int)) ∧ (if (40 : Int) < (↑s'.snd.snd.snd.fst.length : Int) then (40 : Int) else (↑s'.snd.snd.snd.fst.length : Int)) ≤ (↑s'.snd.snd.snd.fst.length : Int)) <|
   chk ((0 : Int) ≤ (0 : Int) ∧ ((0 : Int) ≤ if (40 : Int) < (↑s'.snd.snd.snd.snd.fst.length : Int) then (40 : Int) else (↑s'.snd.snd.snd.snd.fst.length : Int)) ∧ (if (40 : Int) < (↑s'.snd.snd.snd.snd.fst.length : Int) then (40 : Int) else (↑s'.snd.snd.snd.snd.fst.length : Int)) ≤ (↑s'.snd.snd.snd.snd.fst.length : Int)) <|
   chk ((0 : Int) ≤ (0 : Int) ∧ ((0 : Int) ≤ if (40 : Int) < (↑s'.snd.snd.snd.snd.snd.fst.length : Int) then (40 : Int) else (↑s'.snd.snd.snd.snd.snd.fst.length : Int)) ∧ (if (40 : Int) < (↑s'.snd.snd.snd.snd.snd.fst.length : Int) then (40 : Int) else (↑s'.snd.snd.snd.snd.snd.fst.length : Int)) ≤ (↑s'.snd.snd.snd.snd.snd.fst.length : Int)) <|
   chk ((0 : Int) ≤ (0 : Int) ∧ ((0 : Int) ≤ if (40 : Int) < (↑s'.snd.snd.snd.snd.snd.snd.length : Int) then (40 : Int) else (↑s'.snd.snd.snd.snd.snd.snd.length : Int)) ∧ (if (40 : Int) < (↑s'.snd.snd.snd.snd.snd.snd.length : Int) then (40 : Int) else (↑s'.snd.snd.snd.snd.snd.snd.length : Int)) ≤ (↑s'.snd.snd.snd.snd.snd.snd.length : Int)) <|
   bnd (terrierlaw19_CodecRaw_l0 (sliceA (0 : Nat) (if (40 : Int) < (↑s'.snd.snd.snd.snd.fst.length : Int) then (40 : Int) else (↑s'.snd.snd.snd.snd.fst.length : Int)).toNat s'.snd.snd.snd.snd.fst, (↑(sliceA (0 : Nat) (if (40 : Int) < (↑s'.snd.snd.snd.snd.fst.length : Int) then (40 : Int) else (↑s'.snd.snd.snd.snd.fst.length : Int)).toNat s'.snd.snd.snd.snd.fst).length : Int), (0 : Int), s'.fst, s'.snd.fst, sliceA (0 : Nat) (if (40 : Int) < (↑s'.snd.snd.fst.length : Int) then (40 : Int) else (↑s'.snd.snd.fst.length : Int)).toNat s'.snd.snd.fst, sliceA (0 : Nat) (if (40 : Int) < (↑s'.snd.snd.snd.fst.length : Int) then (40 : Int) else (↑s'.snd.snd.snd.fst.length : Int)).toNat s'.snd.snd.snd.fst, sliceA (0 : Nat) (if (40 : Int) < (↑s'.snd.snd.snd.snd.fst.length : Int) then (40 : Int) else (↑s'.snd.snd.snd.snd.fst.length : Int)).toNat s'.snd.snd.snd.snd.fst, sliceA (0 : Nat) (if (40 : Int) < (↑s'.snd.snd.snd.snd.snd.fst.length : Int) then (40 : Int) else (↑s'.snd.snd.snd.snd.snd.fst.length : Int)).toNat s'.snd.snd.snd.snd.snd.fst, sliceA (0 : Nat) (if (40 : Int) < (↑s'.snd.snd.snd.snd.snd.snd.length : Int) then (40 : Int) else (↑s'.snd.snd.snd.snd.snd.snd.length : Int)).toNat s'.snd.snd.snd.snd.snd.snd, ())) fun y4 =>
   sumO y4 (fun t5 =>
    bnd (terrierlaw19_CodecRaw_l1 (t5.snd.snd.fst, (↑t5.snd.snd.fst.length : Int), (0 : Int), t5.fst, t5.snd.fst, t5.snd.snd.fst, t5.snd.snd.snd.fst, t5.snd.snd.snd.snd.fst, t5.snd.snd.snd.snd.snd.fst, t5.snd.snd.snd.snd.snd.snd.fst, ())) fun y10 =>
    sumO y10 (fun t11 =>
     bnd (codec_State ((t11.fst, t11.snd.fst, t11.snd.snd.fst, t11.snd.snd.snd.fst, t11.snd.snd.snd.snd.fst, t11.snd.snd.snd.snd.snd.fst, t11.snd.snd.snd.snd.snd.snd.fst))) fun y13 =>
     bnd (codec_ReadState (y13.fst)) fun y14 =>
     bnd (terrierlaw18_Right ((t11.fst, t11.snd.fst, t11.snd.snd.fst, t11.snd.snd.snd.fst, t11.snd.snd.snd.snd.fst, t11.snd.snd.snd.snd.snd.fst, t11.snd.snd.snd.snd.snd.snd.fst))) fun y15 =>
     ltO (toBytes y13.fst) fun (v16 : List UInt8) =>
     bnd (terrierlaw19_State ((t11.fst, t11.snd.fst, t11.snd.snd.fst, t11.snd.snd.snd.fst, t11.snd.snd.snd.snd.fst, t11.snd.snd.snd.snd.snd.fst, t11.snd.snd.snd.snd.snd.snd.fst))) fun y17 =>
     ltO (v16 == y17.fst) fun (v18 : Bool) =>
     chk (v18 = true → v18 = true) <|
     bndG (v18) (codec_Right ((t11.fst, t11.snd.fst, t11.snd.snd.fst, t11.snd.snd.snd.fst, t11.snd.snd.snd.snd.fst, t11.snd.snd.snd.snd.snd.fst, t11.snd.snd.snd.snd.snd.snd.fst))) (false, ()) fun y19 =>
     chk (v18 = true → v18 = true) <|
     chk (v18 = true → v18 = true) <|
     ltO (y19.fst == y15.fst) fun (v20 : Bool) =>
     chk (v18 = true → v18 = true) <|
     ltO (v18 && v20) fun (v21 : Bool) =>
     chk (v21 = true → v21 = true) <|
     chk (v21 = true → v21 = true) <|
     chk (v21 = true → v21 = true) <|
     chk (v21 = true → (!y15.fst) = false → (v21 && !!y15.fst) = true) <|
     ltO (!y15.fst || y14.snd.fst) fun (v22 : Bool) =>
     chk (v21 = true → v21 = true) <|
     ltO (v21 && v22) fun (v23 : Bool) =>
     some (v23, ())) (fun r12 =>
     some (r12))) (fun r6 =>
    some (r6)))

end Go.Tr
