/- The functions that these laws reach, as Lean functions: printed by a program of this session's. Conditions: none. -/
import Derived.Test.YtklmhllelgjglaaGreatBD
import Derived.Test.YtklmhllelgjglaaGreatBE
import Derived.Test.YtklmhllelgjglaaGreatAddrD
import Derived.Test.YtklmhllelgjglaaGreatCodec1D
import Derived.Test.YtklmhllelgjglaaGreatCodec2D
import Derived.Test.YtklmhllelgjglaaGreatMacD
import Derived.Test.YtklmhllelgjglaaGreatOpsD
import Derived.Test.YtklmhllelgjglaaGreatSweepD
import Derived.Test.YtklmhllelgjglaaGreatSweep2D
namespace Go.Tr
open Go
set_option linter.unusedVariables false
set_option maxRecDepth 100000
noncomputable def terrierlaw19_State_w1_b0 (out : List UInt8) (t29 : List THold) (t30 : Int) (t31 : Int) (s' : Int × Int × (List THold) × (List TSweep) × (List (Int × List TSight)) × (List TProbe) × List (Int × Int × Int × Int)) : Option (((List UInt8) × (List THold) × Int × Int × (Int × Int × (List THold) × (List TSweep) × (List (Int × List TSight)) × (List TProbe) × List (Int × Int × Int × Int)) × Unit) ⊕ (((List UInt8) × (Int × Int × (List THold) × (List TSweep) × (List (Int × List TSight)) × (List TProbe) × List (Int × Int × Int × Int)) × Unit) ⊕ ((List UInt8) × Unit))) :=
  cnd (decide (t31 < t30)) (
   chk ((0 : Int) ≤ t31 ∧ t31 < (↑t29.length : Int)) <|
   ltO ((Option.rec zHold (fun val => val) t29[t31.toNat]?)) fun (v5 : Int × (List UInt8) × Int × Int × Int × Int × Int × Int) =>
   bnd (terrierlaw19_holder (v5)) fun y6 =>
   chk ((↑(out.length + y6.fst.length) : Int) ≤ (9223372036854775807 : Int)) <|
   ltO (out ++ y6.fst) fun (v7 : List UInt8) =>
   ltO (IntKind.i64.wrap (t31 + (1 : Int))) fun (v8 : Int) =>
   some (.inl (v7, t29, t30, v8, s', ()))) (
   some (.inr (.inl (out, s', ()))))
noncomputable def terrierlaw19_State_w1_l0 (s : (List UInt8) × (List THold) × Int × Int × (Int × Int × (List THold) × (List TSweep) × (List (Int × List TSight)) × (List TProbe) × List (Int × Int × Int × Int)) × Unit) : Option (((List UInt8) × (Int × Int × (List THold) × (List TSweep) × (List (Int × List TSight)) × (List TProbe) × List (Int × Int × Int × Int)) × Unit) ⊕ ((List UInt8) × Unit)) := loopM (fun s : (List UInt8) × (List THold) × Int × Int × (Int × Int × (List THold) × (List TSweep) × (List (Int × List TSight)) × (List TProbe) × List (Int × Int × Int × Int)) × Unit => terrierlaw19_State_w1_b0 s.1 s.2.1 s.2.2.1 s.2.2.2.1 s.2.2.2.2.1) s
noncomputable def terrierlaw19_State_w1_b1 (out : List UInt8) (t47 : List TSweep) (t48 : Int) (t49 : Int) (s' : Int × Int × (List THold) × (List TSweep) × (List (Int × List TSight)) × (List TProbe) × List (Int × Int × Int × Int)) : Option (((List UInt8) × (List TSweep) × Int × Int × (Int × Int × (List THold) × (List TSweep) × (List (Int × List TSight)) × (List TProbe) × List (Int × Int × Int × Int)) × Unit) ⊕ (((List UInt8) × (Int × Int × (List THold) × (List TSweep) × (List (Int × List TSight)) × (List TProbe) × List (Int × Int × Int × Int)) × Unit) ⊕ ((List UInt8) × Unit))) :=
  cnd (decide (t49 < t48)) (
   chk ((0 : Int) ≤ t49 ∧ t49 < (↑t47.length : Int)) <|
   ltO ((Option.rec zSweep (fun val => val) t47[t49.toNat]?)) fun (v14 : (Int × Int) × Int × Int) =>
   ltO (IntKind.i64.wrap v14.fst.fst) fun (v15 : Int) =>
   bnd (terrierlaw19_put (v15) ((4 : Int))) fun y16 =>
   chk ((↑(out.length + y16.fst.length) : Int) ≤ (9223372036854775807 : Int)) <|
   ltO (out ++ y16.fst) fun (v17 : List UInt8) =>
   bnd (terrierlaw19_put (v14.fst.snd) ((1 : Int))) fun y18 =>
   chk ((↑(v17.length + y18.fst.length) : Int) ≤ (9223372036854775807 : Int)) <|
   ltO (v17 ++ y18.fst) fun (v19 : List UInt8) =>
   bnd (terrierlaw19_put (v14.snd.fst) ((8 : Int))) fun y20 =>
   chk ((↑(v19.length + y20.fst.length) : Int) ≤ (9223372036854775807 : Int)) <|
   ltO (v19 ++ y20.fst) fun (v21 : List UInt8) =>
   bnd (terrierlaw19_put (v14.snd.snd) ((2 : Int))) fun y22 =>
   chk ((↑(v21.length + y22.fst.length) : Int) ≤ (9223372036854775807 : Int)) <|
   ltO (v21 ++ y22.fst) fun (v23 : List UInt8) =>
   ltO (IntKind.i64.wrap (t49 + (1 : Int))) fun (v24 : Int) =>
   some (.inl (v23, t47, t48, v24, s', ()))) (
   some (.inr (.inl (out, s', ()))))
noncomputable def terrierlaw19_State_w1_l1 (s : (List UInt8) × (List TSweep) × Int × Int × (Int × Int × (List THold) × (List TSweep) × (List (Int × List TSight)) × (List TProbe) × List (Int × Int × Int × Int)) × Unit) : Option (((List UInt8) × (Int × Int × (List THold) × (List TSweep) × (List (Int × List TSight)) × (List TProbe) × List (Int × Int × Int × Int)) × Unit) ⊕ ((List UInt8) × Unit)) := loopM (fun s : (List UInt8) × (List TSweep) × Int × Int × (Int × Int × (List THold) × (List TSweep) × (List (Int × List TSight)) × (List TProbe) × List (Int × Int × Int × Int)) × Unit => terrierlaw19_State_w1_b1 s.1 s.2.1 s.2.2.1 s.2.2.2.1 s.2.2.2.2.1) s
noncomputable def terrierlaw19_State_w1_b3 (out : List UInt8) (t81 : List (Int × List TSight)) (t82 : Int) (t83 : Int) (t99 : List TSight) (t100 : Int) (t101 : Int) (s' : Int × Int × (List THold) × (List TSweep) × (List (Int × List TSight)) × (List TProbe) × List (Int × Int × Int × Int)) : Option (((List UInt8) × (List (Int × List TSight)) × Int × Int × (List TSight) × Int × Int × (Int × Int × (List THold) × (List TSweep) × (List (Int × List TSight)) × (List TProbe) × List (Int × Int × Int × Int)) × Unit) ⊕ (((List UInt8) × (List (Int × List TSight)) × Int × Int × (Int × Int × (List THold) × (List TSweep) × (List (Int × List TSight)) × (List TProbe) × List (Int × Int × Int × Int)) × Unit) ⊕ ((List UInt8) × Unit))) :=
  cnd (decide (t101 < t100)) (
   chk ((0 : Int) ≤ t101 ∧ t101 < (↑t99.length : Int)) <|
   ltO ((Option.rec zSight (fun val => val) t99[t101.toNat]?)) fun (v36 : Int × TMac × Int) =>
   bnd (terrierlaw19_sight (v36)) fun y37 =>
   chk ((↑(out.length + y37.fst.length) : Int) ≤ (9223372036854775807 : Int)) <|
   ltO (out ++ y37.fst) fun (v38 : List UInt8) =>
   ltO (IntKind.i64.wrap (t101 + (1 : Int))) fun (v39 : Int) =>
   some (.inl (v38, t81, t82, t83, t99, t100, v39, s', ()))) (
   some (.inr (.inl (out, t81, t82, t83, s', ()))))
noncomputable def terrierlaw19_State_w1_l3 (s : (List UInt8) × (List (Int × List TSight)) × Int × Int × (List TSight) × Int × Int × (Int × Int × (List THold) × (List TSweep) × (List (Int × List TSight)) × (List TProbe) × List (Int × Int × Int × Int)) × Unit) : Option (((List UInt8) × (List (Int × List TSight)) × Int × Int × (Int × Int × (List THold) × (List TSweep) × (List (Int × List TSight)) × (List TProbe) × List (Int × Int × Int × Int)) × Unit) ⊕ ((List UInt8) × Unit)) := loopM (fun s : (List UInt8) × (List (Int × List TSight)) × Int × Int × (List TSight) × Int × Int × (Int × Int × (List THold) × (List TSweep) × (List (Int × List TSight)) × (List TProbe) × List (Int × Int × Int × Int)) × Unit => terrierlaw19_State_w1_b3 s.1 s.2.1 s.2.2.1 s.2.2.2.1 s.2.2.2.2.1 s.2.2.2.2.2.1 s.2.2.2.2.2.2.1 s.2.2.2.2.2.2.2.1) s
noncomputable def terrierlaw19_State_w1_b2 (out : List UInt8) (t81 : List (Int × List TSight)) (t82 : Int) (t83 : Int) (s' : Int × Int × (List THold) × (List TSweep) × (List (Int × List TSight)) × (List TProbe) × List (Int × Int × Int × Int)) : Option (((List UInt8) × (List (Int × List TSight)) × Int × Int × (Int × Int × (List THold) × (List TSweep) × (List (Int × List TSight)) × (List TProbe) × List (Int × Int × Int × Int)) × Unit) ⊕ (((List UInt8) × (Int × Int × (List THold) × (List TSweep) × (List (Int × List TSight)) × (List TProbe) × List (Int × Int × Int × Int)) × Unit) ⊕ ((List UInt8) × Unit))) :=
  cnd (decide (t83 < t82)) (
   chk ((0 : Int) ≤ t83 ∧ t83 < (↑t81.length : Int)) <|
   ltO ((Option.rec ((0 : Int), []) (fun val => val) t81[t83.toNat]?)) fun (v30 : Int × List TSight) =>
   ltO (IntKind.i64.wrap v30.fst) fun (v31 : Int) =>
   bnd (terrierlaw19_put (v31) ((4 : Int))) fun y32 =>
   chk ((↑(out.length + y32.fst.length) : Int) ≤ (9223372036854775807 : Int)) <|
   ltO (out ++ y32.fst) fun (v33 : List UInt8) =>
   bnd (terrierlaw19_put ((↑v30.snd.length : Int)) ((2 : Int))) fun y34 =>
   chk ((↑(v33.length + y34.fst.length) : Int) ≤ (9223372036854775807 : Int)) <|
   ltO (v33 ++ y34.fst) fun (v35 : List UInt8) =>
   bnd (terrierlaw19_State_w1_l3 (v35, t81, t82, t83, v30.snd, (↑v30.snd.length : Int), (0 : Int), s', ())) fun y40 =>
   sumO y40 (fun t41 =>
    ltO (IntKind.i64.wrap (t41.snd.snd.snd.fst + (1 : Int))) fun (v43 : Int) =>
    some (.inl (t41.fst, t41.snd.fst, t41.snd.snd.fst, v43, t41.snd.snd.snd.snd.fst, ()))) (fun r42 =>
    some (.inr (.inr (r42))))) (
   some (.inr (.inl (out, s', ()))))
noncomputable def terrierlaw19_State_w1_l2 (s : (List UInt8) × (List (Int × List TSight)) × Int × Int × (Int × Int × (List THold) × (List TSweep) × (List (Int × List TSight)) × (List TProbe) × List (Int × Int × Int × Int)) × Unit) : Option (((List UInt8) × (Int × Int × (List THold) × (List TSweep) × (List (Int × List TSight)) × (List TProbe) × List (Int × Int × Int × Int)) × Unit) ⊕ ((List UInt8) × Unit)) := loopM (fun s : (List UInt8) × (List (Int × List TSight)) × Int × Int × (Int × Int × (List THold) × (List TSweep) × (List (Int × List TSight)) × (List TProbe) × List (Int × Int × Int × Int)) × Unit => terrierlaw19_State_w1_b2 s.1 s.2.1 s.2.2.1 s.2.2.2.1 s.2.2.2.2.1) s
noncomputable def terrierlaw19_State_w1_b4 (out : List UInt8) (t118 : List TProbe) (t119 : Int) (t120 : Int) (s' : Int × Int × (List THold) × (List TSweep) × (List (Int × List TSight)) × (List TProbe) × List (Int × Int × Int × Int)) : Option (((List UInt8) × (List TProbe) × Int × Int × (Int × Int × (List THold) × (List TSweep) × (List (Int × List TSight)) × (List TProbe) × List (Int × Int × Int × Int)) × Unit) ⊕ (((List UInt8) × (Int × Int × (List THold) × (List TSweep) × (List (Int × List TSight)) × (List TProbe) × List (Int × Int × Int × Int)) × Unit) ⊕ ((List UInt8) × Unit))) :=
  cnd (decide (t120 < t119)) (
   chk ((0 : Int) ≤ t120 ∧ t120 < (↑t118.length : Int)) <|
   ltO ((Option.rec ((0 : Int), (0 : Int), (0 : Int), (0 : Int), (0 : Int)) (fun val => val) t118[t120.toNat]?)) fun (v49 : Int × Int × Int × Int × Int) =>
   ltO (IntKind.i64.wrap v49.fst) fun (v50 : Int) =>
   bnd (terrierlaw19_put (v50) ((4 : Int))) fun y51 =>
   chk ((↑(out.length + y51.fst.length) : Int) ≤ (9223372036854775807 : Int)) <|
   ltO (out ++ y51.fst) fun (v52 : List UInt8) =>
   bnd (terrierlaw19_put (v49.snd.snd.fst) ((2 : Int))) fun y53 =>
   chk ((↑(v52.length + y53.fst.length) : Int) ≤ (9223372036854775807 : Int)) <|
   ltO (v52 ++ y53.fst) fun (v54 : List UInt8) =>
   bnd (terrierlaw19_put (v49.snd.snd.snd.fst) ((8 : Int))) fun y55 =>
   chk ((↑(v54.length + y55.fst.length) : Int) ≤ (9223372036854775807 : Int)) <|
   ltO (v54 ++ y55.fst) fun (v56 : List UInt8) =>
   bnd (terrierlaw19_put (v49.snd.snd.snd.snd) ((1 : Int))) fun y57 =>
   chk ((↑(v56.length + y57.fst.length) : Int) ≤ (9223372036854775807 : Int)) <|
   ltO (v56 ++ y57.fst) fun (v58 : List UInt8) =>
   ltO (IntKind.i64.wrap (t120 + (1 : Int))) fun (v59 : Int) =>
   some (.inl (v58, t118, t119, v59, s', ()))) (
   some (.inr (.inl (out, s', ()))))
noncomputable def terrierlaw19_State_w1_l4 (s : (List UInt8) × (List TProbe) × Int × Int × (Int × Int × (List THold) × (List TSweep) × (List (Int × List TSight)) × (List TProbe) × List (Int × Int × Int × Int)) × Unit) : Option (((List UInt8) × (Int × Int × (List THold) × (List TSweep) × (List (Int × List TSight)) × (List TProbe) × List (Int × Int × Int × Int)) × Unit) ⊕ ((List UInt8) × Unit)) := loopM (fun s : (List UInt8) × (List TProbe) × Int × Int × (Int × Int × (List THold) × (List TSweep) × (List (Int × List TSight)) × (List TProbe) × List (Int × Int × Int × Int)) × Unit => terrierlaw19_State_w1_b4 s.1 s.2.1 s.2.2.1 s.2.2.2.1 s.2.2.2.2.1) s
noncomputable def terrierlaw19_State_w1_b5 (out : List UInt8) (t150 : List (Int × Int × Int × Int)) (t151 : Int) (t152 : Int) : Option (((List UInt8) × (List (Int × Int × Int × Int)) × Int × Int × Unit) ⊕ (((List UInt8) × Unit) ⊕ ((List UInt8) × Unit))) :=
  cnd (decide (t152 < t151)) (
   chk ((0 : Int) ≤ t152 ∧ t152 < (↑t150.length : Int)) <|
   ltO ((Option.rec ((0 : Int), (0 : Int), (0 : Int), (0 : Int)) (fun val => val) t150[t152.toNat]?)) fun (v65 : Int × Int × Int × Int) =>
   ltO (IntKind.i64.wrap v65.fst) fun (v66 : Int) =>
   bnd (terrierlaw19_put (v66) ((4 : Int))) fun y67 =>
   chk ((↑(out.length + y67.fst.length) : Int) ≤ (9223372036854775807 : Int)) <|
   ltO (out ++ y67.fst) fun (v68 : List UInt8) =>
   bnd (terrierlaw19_put (v65.snd.fst) ((8 : Int))) fun y69 =>
   chk ((↑(v68.length + y69.fst.length) : Int) ≤ (9223372036854775807 : Int)) <|
   ltO (v68 ++ y69.fst) fun (v70 : List UInt8) =>
   bnd (terrierlaw19_put (v65.snd.snd.fst) ((8 : Int))) fun y71 =>
   chk ((↑(v70.length + y71.fst.length) : Int) ≤ (9223372036854775807 : Int)) <|
   ltO (v70 ++ y71.fst) fun (v72 : List UInt8) =>
   bnd (terrierlaw19_put (v65.snd.snd.snd) ((1 : Int))) fun y73 =>
   chk ((↑(v72.length + y73.fst.length) : Int) ≤ (9223372036854775807 : Int)) <|
   ltO (v72 ++ y73.fst) fun (v74 : List UInt8) =>
   ltO (IntKind.i64.wrap (t152 + (1 : Int))) fun (v75 : Int) =>
   some (.inl (v74, t150, t151, v75, ()))) (
   some (.inr (.inl (out, ()))))
noncomputable def terrierlaw19_State_w1_l5 (s : (List UInt8) × (List (Int × Int × Int × Int)) × Int × Int × Unit) : Option (((List UInt8) × Unit) ⊕ ((List UInt8) × Unit)) := loopM (fun s : (List UInt8) × (List (Int × Int × Int × Int)) × Int × Int × Unit => terrierlaw19_State_w1_b5 s.1 s.2.1 s.2.2.1 s.2.2.2.1) s
noncomputable def terrierlaw19_State_w1 (s' : Int × Int × (List THold) × (List TSweep) × (List (Int × List TSight)) × (List TProbe) × List (Int × Int × Int × Int)) : Option ((List UInt8) × Unit) :=
  bnd (terrierlaw19_put (s'.fst) ((8 : Int))) fun y0 =>
  bnd (terrierlaw19_put (s'.snd.fst) ((2 : Int))) fun y1 =>
  chk ((↑(y0.fst.length + y1.fst.length) : Int) ≤ (9223372036854775807 : Int)) <|
  ltO (y0.fst ++ y1.fst) fun (v2 : List UInt8) =>
  bnd (terrierlaw19_put ((↑s'.snd.snd.fst.length : Int)) ((2 : Int))) fun y3 =>
  chk ((↑(v2.length + y3.fst.length) : Int) ≤ (9223372036854775807 : Int)) <|
  ltO (v2 ++ y3.fst) fun (v4 : List UInt8) =>
  bnd (terrierlaw19_State_w1_l0 (v4, s'.snd.snd.fst, (↑s'.snd.snd.fst.length : Int), (0 : Int), s', ())) fun y9 =>
  sumO y9 (fun t10 =>
   bnd (terrierlaw19_put ((↑t10.snd.fst.snd.snd.snd.fst.length : Int)) ((2 : Int))) fun y12 =>
   chk ((↑(t10.fst.length + y12.fst.length) : Int) ≤ (9223372036854775807 : Int)) <|
   ltO (t10.fst ++ y12.fst) fun (v13 : List UInt8) =>
   bnd (terrierlaw19_State_w1_l1 (v13, t10.snd.fst.snd.snd.snd.fst, (↑t10.snd.fst.snd.snd.snd.fst.length : Int), (0 : Int), t10.snd.fst, ())) fun y25 =>
   sumO y25 (fun t26 =>
    bnd (terrierlaw19_put ((↑t26.snd.fst.snd.snd.snd.snd.fst.length : Int)) ((2 : Int))) fun y28 =>
    chk ((↑(t26.fst.length + y28.fst.length) : Int) ≤ (9223372036854775807 : Int)) <|
    ltO (t26.fst ++ y28.fst) fun (v29 : List UInt8) =>
    bnd (terrierlaw19_State_w1_l2 (v29, t26.snd.fst.snd.snd.snd.snd.fst, (↑t26.snd.fst.snd.snd.snd.snd.fst.length : Int), (0 : Int), t26.snd.fst, ())) fun y44 =>
    sumO y44 (fun t45 =>
     bnd (terrierlaw19_put ((↑t45.snd.fst.snd.snd.snd.snd.snd.fst.length : Int)) ((2 : Int))) fun y47 =>
     chk ((↑(t45.fst.length + y47.fst.length) : Int) ≤ (9223372036854775807 : Int)) <|
     ltO (t45.fst ++ y47.fst) fun (v48 : List UInt8) =>
     bnd (terrierlaw19_State_w1_l4 (v48, t45.snd.fst.snd.snd.snd.snd.snd.fst, (↑t45.snd.fst.snd.snd.snd.snd.snd.fst.length : Int), (0 : Int), t45.snd.fst, ())) fun y60 =>
     sumO y60 (fun t61 =>
      bnd (terrierlaw19_put ((↑t61.snd.fst.snd.snd.snd.snd.snd.snd.length : Int)) ((2 : Int))) fun y63 =>
      chk ((↑(t61.fst.length + y63.fst.length) : Int) ≤ (9223372036854775807 : Int)) <|
      ltO (t61.fst ++ y63.fst) fun (v64 : List UInt8) =>
      bnd (terrierlaw19_State_w1_l5 (v64, t61.snd.fst.snd.snd.snd.snd.snd.snd, (↑t61.snd.fst.snd.snd.snd.snd.snd.snd.length : Int), (0 : Int), ())) fun y76 =>
      sumO y76 (fun t77 =>
       some (t77.fst, ())) (fun r78 =>
       some (r78))) (fun r62 =>
      some (r62))) (fun r46 =>
     some (r46))) (fun r27 =>
    some (r27))) (fun r11 =>
   some (r11))
noncomputable def terrierlaw19_CodecTurned_b0 (t47 : Int) (t48 : Int) (x : List (List Int)) : Option ((Int × Int × (List (List Int)) × Unit) ⊕ (Unit ⊕ (Bool × Unit))) :=
  cnd (decide (t48 < t47)) (
   chk ((0 : Int) ≤ t48 ∧ t48 < (↑x.length : Int)) <|
   chk (t48.toNat < x.length) <|
   bnd (codec_ReadState (x.getD t48.toNat [])) fun y9 =>
   chk (y9.snd.fst = true → y9.snd.fst = true) <|
   bndG (y9.snd.fst) (terrierlaw19_State_w1 (y9.fst)) ([], ()) fun y10 =>
   chk (y9.snd.fst = true → y9.snd.fst = true) <|
   ltO (toBytes (x.getD t48.toNat [])) fun (v11 : List UInt8) =>
   chk (y9.snd.fst = true → y9.snd.fst = true) <|
   chk (y9.snd.fst = true → y9.snd.fst = true) <|
   ltO (!y10.fst == v11) fun (v12 : Bool) =>
   chk (y9.snd.fst = true → y9.snd.fst = true) <|
   chk ((y9.snd.fst && !v12) = true → (y9.snd.fst && !v12) = true) <|
   bndG (y9.snd.fst && !v12) (terrierlaw18_Right (y9.fst)) (false, ()) fun y13 =>
   chk ((y9.snd.fst && !v12) = true → (y9.snd.fst && !v12) = true) <|
   chk (y9.snd.fst = true → y9.snd.fst = true) <|
   chk (y9.snd.fst = true → v12 = false → (y9.snd.fst && !v12) = true) <|
   ltO (v12 || !y13.fst) fun (v14 : Bool) =>
   chk (y9.snd.fst = true → y9.snd.fst = true) <|
   ltO (y9.snd.fst && v14) fun (v15 : Bool) =>
   chk ((!v15) = true → (!v15) = true) <|
   chk ((!v15) = true → (!v15) = true) <|
   chk ((!v15 && !y9.snd.fst) = true → (!v15 && !y9.snd.fst) = true) <|
   chk ((!v15 && !y9.snd.fst) = true → (!v15 && !y9.snd.fst) = true) <|
   bndG (!v15 && !y9.snd.fst) (terrierlaw18_Same (y9.fst) (((0 : Int), (0 : Int), [], [], [], [], []))) (false, ()) fun y16 =>
   chk ((!v15 && !y9.snd.fst) = true → (!v15 && !y9.snd.fst) = true) <|
   chk ((!v15) = true → (!v15) = true) <|
   chk ((!v15) = true → (!y9.snd.fst) = true → (!v15 && !y9.snd.fst) = true) <|
   ltO (!y9.snd.fst && !y16.fst) fun (v17 : Bool) =>
   chk (v15 = false → (!v15) = true) <|
   ltO (v15 || v17) fun (v18 : Bool) =>
   cnd (v18) (
    some (.inr (.inr (false, ())))) (
    ltO (IntKind.i64.wrap (t48 + (1 : Int))) fun (v19 : Int) =>
    some (.inl (t47, v19, x, ())))) (
   some (.inr (.inl ())))
noncomputable def terrierlaw19_CodecTurned_l0 (s : Int × Int × (List (List Int)) × Unit) : Option (Unit ⊕ (Bool × Unit)) := loopM (fun s : Int × Int × (List (List Int)) × Unit => terrierlaw19_CodecTurned_b0 s.1 s.2.1 s.2.2.1) s
noncomputable def terrierlaw19_CodecTurned (x : Int × Int × Int × Int × Int × Int × Int × Int × Int) (acts : List TMac) (at' : Int) (by' : Int) (raw : List Int) : Option (Bool × Unit) :=
  bnd (terrierlaw19_awake) fun y0 =>
  cnd (!y0.fst) (
   some (false, ())) (
   bnd (terrierlaw10_Choice_Config (x)) fun y1 =>
   bnd (terrierlaw18_Some (y1.fst) (acts)) fun y2 =>
   bnd (codec_State (y2.fst)) fun y3 =>
   chk (room (1 : Nat) y3.fst.length) <|
   ltO (IntKind.i64.wrap at') fun (v4 : Int) =>
   chk (¬(↑y3.fst.length : Int) = (0 : Int)) <|
   ltO (v4.tmod (↑y3.fst.length : Int)) fun (v5 : Int) =>
   chk ((0 : Int) ≤ v5 ∧ v5 < (↑y3.fst.length : Int)) <|
   chk (v5.toNat < y3.fst.length) <|
   ltO (IntKind.u8.wrap (bxorI IntKind.u8 (y3.fst.getD v5.toNat (0 : Int)) by')) fun (v6 : Int) =>
   chk ((0 : Int) ≤ v5 ∧ v5 < (↑y3.fst.length : Int)) <|
   chk (v5.toNat < y3.fst.length) <|
   ltO (IntKind.i64.wrap at') fun (v7 : Int) =>
   chk (¬(↑y3.fst.length : Int) = (0 : Int)) <|
   ltO (v7.tmod (↑y3.fst.length : Int)) fun (v8 : Int) =>
   chk ((0 : Int) ≤ (0 : Int) ∧ (0 : Int) ≤ v8 ∧ v8 ≤ (↑y3.fst.length : Int)) <|
   bnd (terrierlaw19_CodecTurned_l0 ((↑[y3.fst.set v5.toNat v6, raw, sliceA (0 : Nat) v8.toNat y3.fst].length : Int), (0 : Int), [y3.fst.set v5.toNat v6, raw, sliceA (0 : Nat) v8.toNat y3.fst], ())) fun y20 =>
   sumO y20 (fun t21 =>
    some (true, ())) (fun r22 =>
    some (r22)))
end Go.Tr
