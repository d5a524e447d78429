/- The functions that these laws reach, as Lean functions: printed by a program of this session's. Conditions: none. -/
import Derived.Test.YtklmhllelgjglaaGreatBD
import Derived.Test.YtklmhllelgjglaaGreatBE
import Derived.Test.YtklmhllelgjglaaGreatAddrD
import Derived.Test.YtklmhllelgjglaaGreatMacD
namespace Go.Tr
open Go
set_option linter.unusedVariables false
set_option maxRecDepth 100000
noncomputable def codec_reader_take (n : Int) (r : (List Int) × Bool) : Option ((List Int) × ((List Int) × Bool) × Unit) :=
  chk ((!r.snd) = true → (!r.snd) = true) <|
  chk ((!r.snd) = true → (!r.snd) = true) <|
  chk ((!r.snd) = true → (!r.snd) = true) <|
  chk ((!r.snd) = true → (!r.snd) = true) <|
  chk ((!r.snd) = true → (!r.snd) = true) <|
  chk ((!r.snd) = true → (!r.snd) = true) <|
  chk (r.snd = false → (!r.snd) = true) <|
  ltO (r.snd || decide (n > (↑r.fst.length : Int))) fun (v0 : Bool) =>
  cnd (v0) (
   chk ((0 : Int) ≤ n ∧ n ≤ n ∧ n < (9223372036854775808 : Int) ∧ room (1 : Nat) n.toNat) <|
   some (List.replicate n.toNat (0 : Int), (r.fst, v0), ())) (
   chk ((0 : Int) ≤ (0 : Int) ∧ (0 : Int) ≤ n ∧ n ≤ (↑r.fst.length : Int)) <|
   chk ((0 : Int) ≤ n ∧ n ≤ (↑r.fst.length : Int) ∧ (↑r.fst.length : Int) ≤ (↑r.fst.length : Int)) <|
   some (sliceA (0 : Nat) n.toNat r.fst, (sliceA n.toNat (↑r.fst.length : Int).toNat r.fst, v0), ()))
noncomputable def codec_reader_number_b0 (n : Int) (t10 : List Int) (t11 : Int) (t12 : Int) (o0_0 : List Int) (o0_1 : Bool) : Option ((Int × (List Int) × Int × Int × (List Int) × Bool × Unit) ⊕ ((Int × (List Int) × Bool × Unit) ⊕ (Int × ((List Int) × Bool) × Unit))) :=
  cnd (decide (t12 < t11)) (
   chk ((0 : Int) ≤ t12 ∧ t12 < (↑t10.length : Int)) <|
   ltO (t10.getD t12.toNat (0 : Int)) fun (v1 : Int) =>
   chk ((0 : Int) ≤ (8 : Int)) <|
   ltO (shlI IntKind.i64 n (8 : Int)) fun (v2 : Int) =>
   ltO (IntKind.i64.wrap v1) fun (v3 : Int) =>
   ltO (IntKind.i64.wrap (borI IntKind.i64 v2 v3)) fun (v4 : Int) =>
   ltO (IntKind.i64.wrap (t12 + (1 : Int))) fun (v5 : Int) =>
   some (.inl (v4, t10, t11, v5, o0_0, o0_1, ()))) (
   some (.inr (.inl (n, o0_0, o0_1, ()))))
noncomputable def codec_reader_number_l0 (s : Int × (List Int) × Int × Int × (List Int) × Bool × Unit) : Option ((Int × (List Int) × Bool × Unit) ⊕ (Int × ((List Int) × Bool) × Unit)) := loopM (fun s : Int × (List Int) × Int × Int × (List Int) × Bool × Unit => codec_reader_number_b0 s.1 s.2.1 s.2.2.1 s.2.2.2.1 s.2.2.2.2.1 s.2.2.2.2.2.1) s
noncomputable def codec_reader_number (bytes : Int) (r : (List Int) × Bool) : Option (Int × ((List Int) × Bool) × Unit) :=
  bnd (codec_reader_take (bytes) (r)) fun y0 =>
  bnd (codec_reader_number_l0 ((0 : Int), y0.fst, (↑y0.fst.length : Int), (0 : Int), y0.snd.fst.fst, y0.snd.fst.snd, ())) fun y6 =>
  sumO y6 (fun t7 =>
   some (t7.fst, (t7.snd.fst, t7.snd.snd.fst), ())) (fun r8 =>
   some (r8))
noncomputable def codec_reader_one (r : (List Int) × Bool) : Option (Int × ((List Int) × Bool) × Unit) :=
  bnd (codec_reader_number ((1 : Int)) (r)) fun y0 =>
  some (y0.fst, y0.snd.fst, ())
noncomputable def codec_reader_ip (r : (List Int) × Bool) : Option (Int × ((List Int) × Bool) × Unit) :=
  bnd (codec_reader_number ((4 : Int)) (r)) fun y0 =>
  ltO (IntKind.u32.wrap y0.fst) fun (v1 : Int) =>
  some (v1, y0.snd.fst, ())
noncomputable def codec_reader_mac (r : (List Int) × Bool) : Option (TMac × ((List Int) × Bool) × Unit) :=
  bnd (codec_reader_take ((6 : Int)) (r)) fun y0 =>
  chk ((6 : Nat) ≤ y0.fst.length) <|
  some ((y0.fst.getD (0 : Nat) (0 : Int), y0.fst.getD (1 : Nat) (0 : Int), y0.fst.getD (2 : Nat) (0 : Int), y0.fst.getD (3 : Nat) (0 : Int), y0.fst.getD (4 : Nat) (0 : Int), y0.fst.getD (5 : Nat) (0 : Int)), y0.snd.fst, ())
noncomputable def codec_reader_holder (r : (List Int) × Bool) : Option (THold × ((List Int) × Bool) × Unit) :=
  bnd (codec_reader_ip (r)) fun y0 =>
  bnd (codec_reader_one (y0.snd.fst)) fun y1 =>
  bnd (codec_reader_take (y1.fst) (y1.snd.fst)) fun y2 =>
  ltO (toBytes y2.fst) fun (v3 : List UInt8) =>
  bnd (codec_reader_mac (y2.snd.fst)) fun y4 =>
  some ((y0.fst, v3, y4.fst), y4.snd.fst, ())
noncomputable def held_May_b0 (owner : List UInt8) (t6 : Int) (t7 : Int) : Option (((List UInt8) × Int × Int × Unit) ⊕ (((List UInt8) × Unit) ⊕ (Bool × Unit))) :=
  cnd (decide (t7 < t6)) (
   chk ((0 : Int) ≤ t7 ∧ t7 < (↑owner.length : Int)) <|
   ltO ((↑(owner.getD t7.toNat (0 : UInt8)).toNat : Int)) fun (v0 : Int) =>
   chk ((!decide (v0 < (97 : Int))) = true → (!decide (v0 < (97 : Int))) = true) <|
   chk (decide (v0 < (97 : Int)) = false → (!decide (v0 < (97 : Int))) = true) <|
   ltO (decide (v0 < (97 : Int)) || decide (v0 > (122 : Int))) fun (v1 : Bool) =>
   chk (v1 = true → v1 = true) <|
   chk (v1 = true → v1 = true) <|
   chk ((v1 && !decide (v0 < (48 : Int))) = true → (v1 && !decide (v0 < (48 : Int))) = true) <|
   chk (v1 = true → v1 = true) <|
   chk (v1 = true → decide (v0 < (48 : Int)) = false → (v1 && !decide (v0 < (48 : Int))) = true) <|
   ltO (decide (v0 < (48 : Int)) || decide (v0 > (57 : Int))) fun (v2 : Bool) =>
   chk (v1 = true → v1 = true) <|
   ltO (v1 && v2) fun (v3 : Bool) =>
   cnd (v3) (
    some (.inr (.inr (false, ())))) (
    ltO (IntKind.i64.wrap (t7 + (1 : Int))) fun (v4 : Int) =>
    some (.inl (owner, t6, v4, ())))) (
   some (.inr (.inl (owner, ()))))
noncomputable def held_May_l0 (s : (List UInt8) × Int × Int × Unit) : Option (((List UInt8) × Unit) ⊕ (Bool × Unit)) := loopM (fun s : (List UInt8) × Int × Int × Unit => held_May_b0 s.1 s.2.1 s.2.2.1) s
noncomputable def held_May (owner : List UInt8) : Option (Bool × Unit) :=
  bnd (held_May_l0 (owner, (↑owner.length : Int), (0 : Int), ())) fun y5 =>
  sumO y5 (fun t6 =>
   ltO (!t6.fst == []) fun (v8 : Bool) =>
   chk (v8 = true → v8 = true) <|
   chk (v8 = true → v8 = true) <|
   chk (v8 = true → v8 = true) <|
   ltO (v8 && decide ((↑t6.fst.length : Int) ≤ (8 : Int))) fun (v9 : Bool) =>
   some (v9, ())) (fun r7 =>
   some (r7))
noncomputable def codec_fits (e : Int × THold × (Int × Int) × Int × TMac × Int) : Option (Bool × Unit) :=
  ltO (e.fst == (1 : Int)) fun (v0 : Bool) =>
  cnd (v0) (
   bnd (held_May (e.snd.fst.snd.fst)) fun y1 =>
   chk (y1.fst = true → y1.fst = true) <|
   chk (y1.fst = true → y1.fst = true) <|
   chk (y1.fst = true → y1.fst = true) <|
   bndG (y1.fst) (mac_Group (e.snd.fst.snd.snd)) (false, ()) fun y2 =>
   chk (y1.fst = true → y1.fst = true) <|
   chk (y1.fst = true → y1.fst = true) <|
   ltO (y1.fst && !y2.fst) fun (v3 : Bool) =>
   some (v3, ())) (
   ltO (e.fst == (5 : Int)) fun (v4 : Bool) =>
   cnd (v4) (
    chk (decide (e.snd.snd.snd.fst ≥ (0 : Int)) = true → decide (e.snd.snd.snd.fst ≥ (0 : Int)) = true) <|
    chk (decide (e.snd.snd.snd.fst ≥ (0 : Int)) = true → decide (e.snd.snd.snd.fst ≥ (0 : Int)) = true) <|
    chk (decide (e.snd.snd.snd.fst ≥ (0 : Int)) = true → decide (e.snd.snd.snd.fst ≥ (0 : Int)) = true) <|
    chk (decide (e.snd.snd.snd.fst ≥ (0 : Int)) = true → decide (e.snd.snd.snd.fst ≥ (0 : Int)) = true) <|
    ltO (decide (e.snd.snd.snd.fst ≥ (0 : Int)) && decide (e.snd.snd.snd.fst < (4 : Int))) fun (v5 : Bool) =>
    some (v5, ())) (
    chk (decide (e.fst ≥ (0 : Int)) = true → decide (e.fst ≥ (0 : Int)) = true) <|
    chk (decide (e.fst ≥ (0 : Int)) = true → decide (e.fst ≥ (0 : Int)) = true) <|
    chk (decide (e.fst ≥ (0 : Int)) = true → decide (e.fst ≥ (0 : Int)) = true) <|
    ltO (decide (e.fst ≥ (0 : Int)) && decide (e.fst < (8 : Int))) fun (v6 : Bool) =>
    some (v6, ())))
noncomputable def codec_reader_block (r : (List Int) × Bool) : Option ((Int × Int) × ((List Int) × Bool) × Unit) :=
  bnd (codec_reader_ip (r)) fun y0 =>
  bnd (codec_reader_one (y0.snd.fst)) fun y1 =>
  some ((y0.fst, y1.fst), y1.snd.fst, ())
noncomputable def codec_ReadEvent (b : List Int) : Option (TEv × Bool × Unit) :=
  bnd (codec_reader_one ((b, false))) fun y0 =>
  ltO (y0.fst == (1 : Int)) fun (v1 : Bool) =>
  cnd (v1) (
   bnd (codec_reader_holder (y0.snd.fst)) fun y2 =>
   chk ((!y2.snd.fst.snd) = true → (!y2.snd.fst.snd) = true) <|
   chk ((!y2.snd.fst.snd) = true → (!y2.snd.fst.snd) = true) <|
   chk ((!y2.snd.fst.snd) = true → (!y2.snd.fst.snd) = true) <|
   chk ((!y2.snd.fst.snd) = true → (!y2.snd.fst.snd) = true) <|
   chk ((!y2.snd.fst.snd) = true → (!y2.snd.fst.snd) = true) <|
   chk (y2.snd.fst.snd = false → (!y2.snd.fst.snd) = true) <|
   ltO (y2.snd.fst.snd || decide ((↑y2.snd.fst.fst.length : Int) > (0 : Int))) fun (v3 : Bool) =>
   chk ((!v3) = true → (!v3) = true) <|
   bndG (!v3) (codec_fits ((y0.fst, y2.fst, ((0 : Int), (0 : Int)), (0 : Int), zMac, (0 : Int)))) (false, ()) fun y4 =>
   chk ((!v3) = true → (!v3) = true) <|
   chk (v3 = false → (!v3) = true) <|
   ltO (v3 || !y4.fst) fun (v5 : Bool) =>
   cnd (v5) (
    some (zEv, false, ())) (
    some ((y0.fst, y2.fst, ((0 : Int), (0 : Int)), (0 : Int), zMac, (0 : Int)), true, ()))) (
   ltO (y0.fst == (3 : Int)) fun (v6 : Bool) =>
   cnd (v6) (
    bnd (codec_reader_block (y0.snd.fst)) fun y7 =>
    chk ((!y7.snd.fst.snd) = true → (!y7.snd.fst.snd) = true) <|
    chk ((!y7.snd.fst.snd) = true → (!y7.snd.fst.snd) = true) <|
    chk ((!y7.snd.fst.snd) = true → (!y7.snd.fst.snd) = true) <|
    chk ((!y7.snd.fst.snd) = true → (!y7.snd.fst.snd) = true) <|
    chk ((!y7.snd.fst.snd) = true → (!y7.snd.fst.snd) = true) <|
    chk (y7.snd.fst.snd = false → (!y7.snd.fst.snd) = true) <|
    ltO (y7.snd.fst.snd || decide ((↑y7.snd.fst.fst.length : Int) > (0 : Int))) fun (v8 : Bool) =>
    chk ((!v8) = true → (!v8) = true) <|
    bndG (!v8) (codec_fits ((y0.fst, zHold, y7.fst, (0 : Int), zMac, (0 : Int)))) (false, ()) fun y9 =>
    chk ((!v8) = true → (!v8) = true) <|
    chk (v8 = false → (!v8) = true) <|
    ltO (v8 || !y9.fst) fun (v10 : Bool) =>
    cnd (v10) (
     some (zEv, false, ())) (
     some ((y0.fst, zHold, y7.fst, (0 : Int), zMac, (0 : Int)), true, ()))) (
    ltO (y0.fst == (4 : Int)) fun (v11 : Bool) =>
    cnd (v11) (
     bnd (codec_reader_block (y0.snd.fst)) fun y12 =>
     chk ((!y12.snd.fst.snd) = true → (!y12.snd.fst.snd) = true) <|
     chk ((!y12.snd.fst.snd) = true → (!y12.snd.fst.snd) = true) <|
     chk ((!y12.snd.fst.snd) = true → (!y12.snd.fst.snd) = true) <|
     chk ((!y12.snd.fst.snd) = true → (!y12.snd.fst.snd) = true) <|
     chk ((!y12.snd.fst.snd) = true → (!y12.snd.fst.snd) = true) <|
     chk (y12.snd.fst.snd = false → (!y12.snd.fst.snd) = true) <|
     ltO (y12.snd.fst.snd || decide ((↑y12.snd.fst.fst.length : Int) > (0 : Int))) fun (v13 : Bool) =>
     chk ((!v13) = true → (!v13) = true) <|
     bndG (!v13) (codec_fits ((y0.fst, zHold, y12.fst, (0 : Int), zMac, (0 : Int)))) (false, ()) fun y14 =>
     chk ((!v13) = true → (!v13) = true) <|
     chk (v13 = false → (!v13) = true) <|
     ltO (v13 || !y14.fst) fun (v15 : Bool) =>
     cnd (v15) (
      some (zEv, false, ())) (
      some ((y0.fst, zHold, y12.fst, (0 : Int), zMac, (0 : Int)), true, ()))) (
     ltO (y0.fst == (5 : Int)) fun (v16 : Bool) =>
     cnd (v16) (
      bnd (codec_reader_ip (y0.snd.fst)) fun y17 =>
      bnd (codec_reader_one (y17.snd.fst)) fun y18 =>
      bnd (codec_reader_mac (y18.snd.fst)) fun y19 =>
      chk ((!y19.snd.fst.snd) = true → (!y19.snd.fst.snd) = true) <|
      chk ((!y19.snd.fst.snd) = true → (!y19.snd.fst.snd) = true) <|
      chk ((!y19.snd.fst.snd) = true → (!y19.snd.fst.snd) = true) <|
      chk ((!y19.snd.fst.snd) = true → (!y19.snd.fst.snd) = true) <|
      chk ((!y19.snd.fst.snd) = true → (!y19.snd.fst.snd) = true) <|
      chk (y19.snd.fst.snd = false → (!y19.snd.fst.snd) = true) <|
      ltO (y19.snd.fst.snd || decide ((↑y19.snd.fst.fst.length : Int) > (0 : Int))) fun (v20 : Bool) =>
      chk ((!v20) = true → (!v20) = true) <|
      bndG (!v20) (codec_fits ((y0.fst, (y17.fst, [], (0 : Int), (0 : Int), (0 : Int), (0 : Int), (0 : Int), (0 : Int)), ((0 : Int), (0 : Int)), y18.fst, y19.fst, (0 : Int)))) (false, ()) fun y21 =>
      chk ((!v20) = true → (!v20) = true) <|
      chk (v20 = false → (!v20) = true) <|
      ltO (v20 || !y21.fst) fun (v22 : Bool) =>
      cnd (v22) (
       some (zEv, false, ())) (
       some ((y0.fst, (y17.fst, [], (0 : Int), (0 : Int), (0 : Int), (0 : Int), (0 : Int), (0 : Int)), ((0 : Int), (0 : Int)), y18.fst, y19.fst, (0 : Int)), true, ()))) (
      ltO (y0.fst == (2 : Int)) fun (v23 : Bool) =>
      cnd (v23) (
       bnd (codec_reader_ip (y0.snd.fst)) fun y24 =>
       chk ((!y24.snd.fst.snd) = true → (!y24.snd.fst.snd) = true) <|
       chk ((!y24.snd.fst.snd) = true → (!y24.snd.fst.snd) = true) <|
       chk ((!y24.snd.fst.snd) = true → (!y24.snd.fst.snd) = true) <|
       chk ((!y24.snd.fst.snd) = true → (!y24.snd.fst.snd) = true) <|
       chk ((!y24.snd.fst.snd) = true → (!y24.snd.fst.snd) = true) <|
       chk (y24.snd.fst.snd = false → (!y24.snd.fst.snd) = true) <|
       ltO (y24.snd.fst.snd || decide ((↑y24.snd.fst.fst.length : Int) > (0 : Int))) fun (v25 : Bool) =>
       chk ((!v25) = true → (!v25) = true) <|
       bndG (!v25) (codec_fits ((y0.fst, (y24.fst, [], (0 : Int), (0 : Int), (0 : Int), (0 : Int), (0 : Int), (0 : Int)), ((0 : Int), (0 : Int)), (0 : Int), zMac, (0 : Int)))) (false, ()) fun y26 =>
       chk ((!v25) = true → (!v25) = true) <|
       chk (v25 = false → (!v25) = true) <|
       ltO (v25 || !y26.fst) fun (v27 : Bool) =>
       cnd (v27) (
        some (zEv, false, ())) (
        some ((y0.fst, (y24.fst, [], (0 : Int), (0 : Int), (0 : Int), (0 : Int), (0 : Int), (0 : Int)), ((0 : Int), (0 : Int)), (0 : Int), zMac, (0 : Int)), true, ()))) (
       ltO (y0.fst == (6 : Int)) fun (v28 : Bool) =>
       cnd (v28) (
        bnd (codec_reader_ip (y0.snd.fst)) fun y29 =>
        chk ((!y29.snd.fst.snd) = true → (!y29.snd.fst.snd) = true) <|
        chk ((!y29.snd.fst.snd) = true → (!y29.snd.fst.snd) = true) <|
        chk ((!y29.snd.fst.snd) = true → (!y29.snd.fst.snd) = true) <|
        chk ((!y29.snd.fst.snd) = true → (!y29.snd.fst.snd) = true) <|
        chk ((!y29.snd.fst.snd) = true → (!y29.snd.fst.snd) = true) <|
        chk (y29.snd.fst.snd = false → (!y29.snd.fst.snd) = true) <|
        ltO (y29.snd.fst.snd || decide ((↑y29.snd.fst.fst.length : Int) > (0 : Int))) fun (v30 : Bool) =>
        chk ((!v30) = true → (!v30) = true) <|
        bndG (!v30) (codec_fits ((y0.fst, (y29.fst, [], (0 : Int), (0 : Int), (0 : Int), (0 : Int), (0 : Int), (0 : Int)), ((0 : Int), (0 : Int)), (0 : Int), zMac, (0 : Int)))) (false, ()) fun y31 =>
        chk ((!v30) = true → (!v30) = true) <|
        chk (v30 = false → (!v30) = true) <|
        ltO (v30 || !y31.fst) fun (v32 : Bool) =>
        cnd (v32) (
         some (zEv, false, ())) (
         some ((y0.fst, (y29.fst, [], (0 : Int), (0 : Int), (0 : Int), (0 : Int), (0 : Int), (0 : Int)), ((0 : Int), (0 : Int)), (0 : Int), zMac, (0 : Int)), true, ()))) (
        ltO (y0.fst == (7 : Int)) fun (v33 : Bool) =>
        cnd (v33) (
         bnd (codec_reader_ip (y0.snd.fst)) fun y34 =>
         chk ((!y34.snd.fst.snd) = true → (!y34.snd.fst.snd) = true) <|
         chk ((!y34.snd.fst.snd) = true → (!y34.snd.fst.snd) = true) <|
         chk ((!y34.snd.fst.snd) = true → (!y34.snd.fst.snd) = true) <|
         chk ((!y34.snd.fst.snd) = true → (!y34.snd.fst.snd) = true) <|
         chk ((!y34.snd.fst.snd) = true → (!y34.snd.fst.snd) = true) <|
         chk (y34.snd.fst.snd = false → (!y34.snd.fst.snd) = true) <|
         ltO (y34.snd.fst.snd || decide ((↑y34.snd.fst.fst.length : Int) > (0 : Int))) fun (v35 : Bool) =>
         chk ((!v35) = true → (!v35) = true) <|
         bndG (!v35) (codec_fits ((y0.fst, (y34.fst, [], (0 : Int), (0 : Int), (0 : Int), (0 : Int), (0 : Int), (0 : Int)), ((0 : Int), (0 : Int)), (0 : Int), zMac, (0 : Int)))) (false, ()) fun y36 =>
         chk ((!v35) = true → (!v35) = true) <|
         chk (v35 = false → (!v35) = true) <|
         ltO (v35 || !y36.fst) fun (v37 : Bool) =>
         cnd (v37) (
          some (zEv, false, ())) (
          some ((y0.fst, (y34.fst, [], (0 : Int), (0 : Int), (0 : Int), (0 : Int), (0 : Int), (0 : Int)), ((0 : Int), (0 : Int)), (0 : Int), zMac, (0 : Int)), true, ()))) (
         chk ((!y0.snd.fst.snd) = true → (!y0.snd.fst.snd) = true) <|
         chk ((!y0.snd.fst.snd) = true → (!y0.snd.fst.snd) = true) <|
         chk ((!y0.snd.fst.snd) = true → (!y0.snd.fst.snd) = true) <|
         chk ((!y0.snd.fst.snd) = true → (!y0.snd.fst.snd) = true) <|
         chk ((!y0.snd.fst.snd) = true → (!y0.snd.fst.snd) = true) <|
         chk (y0.snd.fst.snd = false → (!y0.snd.fst.snd) = true) <|
         ltO (y0.snd.fst.snd || decide ((↑y0.snd.fst.fst.length : Int) > (0 : Int))) fun (v38 : Bool) =>
         chk ((!v38) = true → (!v38) = true) <|
         bndG (!v38) (codec_fits ((y0.fst, zHold, ((0 : Int), (0 : Int)), (0 : Int), zMac, (0 : Int)))) (false, ()) fun y39 =>
         chk ((!v38) = true → (!v38) = true) <|
         chk (v38 = false → (!v38) = true) <|
         ltO (v38 || !y39.fst) fun (v40 : Bool) =>
         cnd (v40) (
          some (zEv, false, ())) (
          some ((y0.fst, zHold, ((0 : Int), (0 : Int)), (0 : Int), zMac, (0 : Int)), true, ())))))))))
noncomputable def codec_lay_b0 (n : Int) (k : Int) (b : List Int) : Option ((Int × Int × (List Int) × Unit) ⊕ (((List Int) × Unit) ⊕ ((List Int) × Unit))) :=
  cnd (decide (k ≥ (0 : Int))) (
   ltO (IntKind.i64.wrap ((8 : Int) * k)) fun (v1 : Int) =>
   chk ((0 : Int) ≤ v1) <|
   ltO (shrI IntKind.i64 n v1) fun (v2 : Int) =>
   ltO (IntKind.u8.wrap v2) fun (v3 : Int) =>
   chk (room (1 : Nat) (b.length + [v3].length)) <|
   ltO (IntKind.i64.wrap (k - (1 : Int))) fun (v4 : Int) =>
   some (.inl (n, v4, b ++ [v3], ()))) (
   some (.inr (.inl (b, ()))))
noncomputable def codec_lay_l0 (s : Int × Int × (List Int) × Unit) : Option (((List Int) × Unit) ⊕ ((List Int) × Unit)) := loopM (fun s : Int × Int × (List Int) × Unit => codec_lay_b0 s.1 s.2.1 s.2.2.1) s
noncomputable def codec_lay (n : Int) (bytes : Int) (b : List Int) : Option ((List Int) × Unit) :=
  ltO (IntKind.i64.wrap (bytes - (1 : Int))) fun (v0 : Int) =>
  bnd (codec_lay_l0 (n, v0, b, ())) fun y5 =>
  sumO y5 (fun t6 =>
   some (t6.fst, ())) (fun r7 =>
   some (r7))
noncomputable def codec_num (n : Int) (b : List Int) : Option ((List Int) × Unit) :=
  bnd (codec_lay (n) ((8 : Int)) (b)) fun y0 =>
  some (y0.fst, ())
noncomputable def codec_small (n : Int) (b : List Int) : Option ((List Int) × Unit) :=
  bnd (codec_lay (n) ((2 : Int)) (b)) fun y0 =>
  some (y0.fst, ())
noncomputable def codec_ip (a' : Int) (b : List Int) : Option ((List Int) × Unit) :=
  ltO (IntKind.i64.wrap a') fun (v0 : Int) =>
  bnd (codec_lay (v0) ((4 : Int)) (b)) fun y1 =>
  some (y1.fst, ())
noncomputable def codec_holder (h : Int × (List UInt8) × Int × Int × Int × Int × Int × Int) (b : List Int) : Option ((List Int) × Unit) :=
  bnd (codec_ip (h.fst) (b)) fun y0 =>
  ltO (IntKind.u8.wrap (↑h.snd.fst.length : Int)) fun (v1 : Int) =>
  chk (room (1 : Nat) (y0.fst.length + [v1].length)) <|
  chk (room (1 : Nat) ((y0.fst ++ [v1]).length + (ofBytes h.snd.fst).length)) <|
  chk ((0 : Int) ≤ (0 : Int) ∧ (0 : Int) ≤ (6 : Int) ∧ (6 : Int) ≤ (6 : Int)) <|
  chk (room (1 : Nat) ((y0.fst ++ [v1] ++ ofBytes h.snd.fst).length + [h.snd.snd.fst, h.snd.snd.snd.fst, h.snd.snd.snd.snd.fst, h.snd.snd.snd.snd.snd.fst, h.snd.snd.snd.snd.snd.snd.fst, h.snd.snd.snd.snd.snd.snd.snd].length)) <|
  some (y0.fst ++ [v1] ++ ofBytes h.snd.fst ++ [h.snd.snd.fst, h.snd.snd.snd.fst, h.snd.snd.snd.snd.fst, h.snd.snd.snd.snd.snd.fst, h.snd.snd.snd.snd.snd.snd.fst, h.snd.snd.snd.snd.snd.snd.snd], ())
noncomputable def codec_rows_b0 (t13 : List THold) (t14 : Int) (t15 : Int) (b : List Int) : Option (((List THold) × Int × Int × (List Int) × Unit) ⊕ (((List Int) × Unit) ⊕ ((List Int) × Unit))) :=
  cnd (decide (t15 < t14)) (
   chk ((0 : Int) ≤ t15 ∧ t15 < (↑t13.length : Int)) <|
   ltO ((Option.rec zHold (fun val => val) t13[t15.toNat]?)) fun (v1 : Int × (List UInt8) × Int × Int × Int × Int × Int × Int) =>
   bnd (codec_holder (v1) (b)) fun y2 =>
   ltO (IntKind.i64.wrap (t15 + (1 : Int))) fun (v3 : Int) =>
   some (.inl (t13, t14, v3, y2.fst, ()))) (
   some (.inr (.inl (b, ()))))
noncomputable def codec_rows_l0 (s : (List THold) × Int × Int × (List Int) × Unit) : Option (((List Int) × Unit) ⊕ ((List Int) × Unit)) := loopM (fun s : (List THold) × Int × Int × (List Int) × Unit => codec_rows_b0 s.1 s.2.1 s.2.2.1 s.2.2.2.1) s
noncomputable def codec_rows (l : List THold) (b : List Int) : Option ((List Int) × Unit) :=
  bnd (codec_small ((↑l.length : Int)) (b)) fun y0 =>
  bnd (codec_rows_l0 (l, (↑l.length : Int), (0 : Int), y0.fst, ())) fun y4 =>
  sumO y4 (fun t5 =>
   some (t5.fst, ())) (fun r6 =>
   some (r6))
noncomputable def codec_block (x : Int × Int) (b : List Int) : Option ((List Int) × Unit) :=
  bnd (codec_ip (x.fst) (b)) fun y0 =>
  ltO (IntKind.u8.wrap x.snd) fun (v1 : Int) =>
  chk (room (1 : Nat) (y0.fst.length + [v1].length)) <|
  some (y0.fst ++ [v1], ())
noncomputable def codec_State_1 (x : (Int × Int) × Int × Int) (b : List Int) : Option ((List Int) × Unit) :=
  bnd (codec_block (x.fst) (b)) fun y0 =>
  bnd (codec_num (x.snd.fst) (y0.fst)) fun y1 =>
  bnd (codec_small (x.snd.snd) (y1.fst)) fun y2 =>
  some (y2.fst, ())
noncomputable def codec_rows_v1_b0 (t13 : List TSweep) (t14 : Int) (t15 : Int) (b : List Int) : Option (((List TSweep) × Int × Int × (List Int) × Unit) ⊕ (((List Int) × Unit) ⊕ ((List Int) × Unit))) :=
  cnd (decide (t15 < t14)) (
   chk ((0 : Int) ≤ t15 ∧ t15 < (↑t13.length : Int)) <|
   ltO ((Option.rec zSweep (fun val => val) t13[t15.toNat]?)) fun (v1 : (Int × Int) × Int × Int) =>
   bnd (codec_State_1 (v1) (b)) fun y2 =>
   ltO (IntKind.i64.wrap (t15 + (1 : Int))) fun (v3 : Int) =>
   some (.inl (t13, t14, v3, y2.fst, ()))) (
   some (.inr (.inl (b, ()))))
noncomputable def codec_rows_v1_l0 (s : (List TSweep) × Int × Int × (List Int) × Unit) : Option (((List Int) × Unit) ⊕ ((List Int) × Unit)) := loopM (fun s : (List TSweep) × Int × Int × (List Int) × Unit => codec_rows_v1_b0 s.1 s.2.1 s.2.2.1 s.2.2.2.1) s
noncomputable def codec_rows_v1 (l : List TSweep) (b : List Int) : Option ((List Int) × Unit) :=
  bnd (codec_small ((↑l.length : Int)) (b)) fun y0 =>
  bnd (codec_rows_v1_l0 (l, (↑l.length : Int), (0 : Int), y0.fst, ())) fun y4 =>
  sumO y4 (fun t5 =>
   some (t5.fst, ())) (fun r6 =>
   some (r6))
noncomputable def codec_sight (s' : Int × TMac × Int) (b : List Int) : Option ((List Int) × Unit) :=
  ltO (IntKind.u8.wrap s'.fst) fun (v0 : Int) =>
  chk (room (1 : Nat) (b.length + [v0].length)) <|
  chk ((0 : Int) ≤ (0 : Int) ∧ (0 : Int) ≤ (6 : Int) ∧ (6 : Int) ≤ (6 : Int)) <|
  chk (room (1 : Nat) ((b ++ [v0]).length + [s'.snd.fst.fst, s'.snd.fst.snd.fst, s'.snd.fst.snd.snd.fst, s'.snd.fst.snd.snd.snd.fst, s'.snd.fst.snd.snd.snd.snd.fst, s'.snd.fst.snd.snd.snd.snd.snd].length)) <|
  bnd (codec_num (s'.snd.snd) (b ++ [v0] ++ [s'.snd.fst.fst, s'.snd.fst.snd.fst, s'.snd.fst.snd.snd.fst, s'.snd.fst.snd.snd.snd.fst, s'.snd.fst.snd.snd.snd.snd.fst, s'.snd.fst.snd.snd.snd.snd.snd])) fun y1 =>
  some (y1.fst, ())
noncomputable def codec_rows_v2_b0 (t13 : List TSight) (t14 : Int) (t15 : Int) (b : List Int) : Option (((List TSight) × Int × Int × (List Int) × Unit) ⊕ (((List Int) × Unit) ⊕ ((List Int) × Unit))) :=
  cnd (decide (t15 < t14)) (
   chk ((0 : Int) ≤ t15 ∧ t15 < (↑t13.length : Int)) <|
   ltO ((Option.rec zSight (fun val => val) t13[t15.toNat]?)) fun (v1 : Int × TMac × Int) =>
   bnd (codec_sight (v1) (b)) fun y2 =>
   ltO (IntKind.i64.wrap (t15 + (1 : Int))) fun (v3 : Int) =>
   some (.inl (t13, t14, v3, y2.fst, ()))) (
   some (.inr (.inl (b, ()))))
noncomputable def codec_rows_v2_l0 (s : (List TSight) × Int × Int × (List Int) × Unit) : Option (((List Int) × Unit) ⊕ ((List Int) × Unit)) := loopM (fun s : (List TSight) × Int × Int × (List Int) × Unit => codec_rows_v2_b0 s.1 s.2.1 s.2.2.1 s.2.2.2.1) s
noncomputable def codec_rows_v2 (l : List TSight) (b : List Int) : Option ((List Int) × Unit) :=
  bnd (codec_small ((↑l.length : Int)) (b)) fun y0 =>
  bnd (codec_rows_v2_l0 (l, (↑l.length : Int), (0 : Int), y0.fst, ())) fun y4 =>
  sumO y4 (fun t5 =>
   some (t5.fst, ())) (fun r6 =>
   some (r6))
noncomputable def codec_State_2 (x : Int × List TSight) (b : List Int) : Option ((List Int) × Unit) :=
  bnd (codec_ip (x.fst) (b)) fun y0 =>
  bnd (codec_rows_v2 (x.snd) (y0.fst)) fun y1 =>
  some (y1.fst, ())
noncomputable def codec_rows_v3_b0 (t13 : List (Int × List TSight)) (t14 : Int) (t15 : Int) (b : List Int) : Option (((List (Int × List TSight)) × Int × Int × (List Int) × Unit) ⊕ (((List Int) × Unit) ⊕ ((List Int) × Unit))) :=
  cnd (decide (t15 < t14)) (
   chk ((0 : Int) ≤ t15 ∧ t15 < (↑t13.length : Int)) <|
   ltO ((Option.rec ((0 : Int), []) (fun val => val) t13[t15.toNat]?)) fun (v1 : Int × List TSight) =>
   bnd (codec_State_2 (v1) (b)) fun y2 =>
   ltO (IntKind.i64.wrap (t15 + (1 : Int))) fun (v3 : Int) =>
   some (.inl (t13, t14, v3, y2.fst, ()))) (
   some (.inr (.inl (b, ()))))
noncomputable def codec_rows_v3_l0 (s : (List (Int × List TSight)) × Int × Int × (List Int) × Unit) : Option (((List Int) × Unit) ⊕ ((List Int) × Unit)) := loopM (fun s : (List (Int × List TSight)) × Int × Int × (List Int) × Unit => codec_rows_v3_b0 s.1 s.2.1 s.2.2.1 s.2.2.2.1) s
noncomputable def codec_rows_v3 (l : List (Int × List TSight)) (b : List Int) : Option ((List Int) × Unit) :=
  bnd (codec_small ((↑l.length : Int)) (b)) fun y0 =>
  bnd (codec_rows_v3_l0 (l, (↑l.length : Int), (0 : Int), y0.fst, ())) fun y4 =>
  sumO y4 (fun t5 =>
   some (t5.fst, ())) (fun r6 =>
   some (r6))
noncomputable def codec_State_3 (x : Int × Int × Int × Int × Int) (b : List Int) : Option ((List Int) × Unit) :=
  bnd (codec_ip (x.fst) (b)) fun y0 =>
  bnd (codec_small (x.snd.snd.fst) (y0.fst)) fun y1 =>
  bnd (codec_num (x.snd.snd.snd.fst) (y1.fst)) fun y2 =>
  ltO (IntKind.u8.wrap x.snd.snd.snd.snd) fun (v3 : Int) =>
  chk (room (1 : Nat) (y2.fst.length + [v3].length)) <|
  some (y2.fst ++ [v3], ())
noncomputable def codec_rows_v4_b0 (t13 : List TProbe) (t14 : Int) (t15 : Int) (b : List Int) : Option (((List TProbe) × Int × Int × (List Int) × Unit) ⊕ (((List Int) × Unit) ⊕ ((List Int) × Unit))) :=
  cnd (decide (t15 < t14)) (
   chk ((0 : Int) ≤ t15 ∧ t15 < (↑t13.length : Int)) <|
   ltO ((Option.rec ((0 : Int), (0 : Int), (0 : Int), (0 : Int), (0 : Int)) (fun val => val) t13[t15.toNat]?)) fun (v1 : Int × Int × Int × Int × Int) =>
   bnd (codec_State_3 (v1) (b)) fun y2 =>
   ltO (IntKind.i64.wrap (t15 + (1 : Int))) fun (v3 : Int) =>
   some (.inl (t13, t14, v3, y2.fst, ()))) (
   some (.inr (.inl (b, ()))))
noncomputable def codec_rows_v4_l0 (s : (List TProbe) × Int × Int × (List Int) × Unit) : Option (((List Int) × Unit) ⊕ ((List Int) × Unit)) := loopM (fun s : (List TProbe) × Int × Int × (List Int) × Unit => codec_rows_v4_b0 s.1 s.2.1 s.2.2.1 s.2.2.2.1) s
noncomputable def codec_rows_v4 (l : List TProbe) (b : List Int) : Option ((List Int) × Unit) :=
  bnd (codec_small ((↑l.length : Int)) (b)) fun y0 =>
  bnd (codec_rows_v4_l0 (l, (↑l.length : Int), (0 : Int), y0.fst, ())) fun y4 =>
  sumO y4 (fun t5 =>
   some (t5.fst, ())) (fun r6 =>
   some (r6))
noncomputable def codec_State_4 (x : Int × Int × Int × Int) (b : List Int) : Option ((List Int) × Unit) :=
  bnd (codec_ip (x.fst) (b)) fun y0 =>
  bnd (codec_num (x.snd.fst) (y0.fst)) fun y1 =>
  bnd (codec_num (x.snd.snd.fst) (y1.fst)) fun y2 =>
  ltO (IntKind.u8.wrap x.snd.snd.snd) fun (v3 : Int) =>
  chk (room (1 : Nat) (y2.fst.length + [v3].length)) <|
  some (y2.fst ++ [v3], ())
noncomputable def codec_rows_v5_b0 (t13 : List (Int × Int × Int × Int)) (t14 : Int) (t15 : Int) (b : List Int) : Option (((List (Int × Int × Int × Int)) × Int × Int × (List Int) × Unit) ⊕ (((List Int) × Unit) ⊕ ((List Int) × Unit))) :=
  cnd (decide (t15 < t14)) (
   chk ((0 : Int) ≤ t15 ∧ t15 < (↑t13.length : Int)) <|
   ltO ((Option.rec ((0 : Int), (0 : Int), (0 : Int), (0 : Int)) (fun val => val) t13[t15.toNat]?)) fun (v1 : Int × Int × Int × Int) =>
   bnd (codec_State_4 (v1) (b)) fun y2 =>
   ltO (IntKind.i64.wrap (t15 + (1 : Int))) fun (v3 : Int) =>
   some (.inl (t13, t14, v3, y2.fst, ()))) (
   some (.inr (.inl (b, ()))))
noncomputable def codec_rows_v5_l0 (s : (List (Int × Int × Int × Int)) × Int × Int × (List Int) × Unit) : Option (((List Int) × Unit) ⊕ ((List Int) × Unit)) := loopM (fun s : (List (Int × Int × Int × Int)) × Int × Int × (List Int) × Unit => codec_rows_v5_b0 s.1 s.2.1 s.2.2.1 s.2.2.2.1) s
noncomputable def codec_rows_v5 (l : List (Int × Int × Int × Int)) (b : List Int) : Option ((List Int) × Unit) :=
  bnd (codec_small ((↑l.length : Int)) (b)) fun y0 =>
  bnd (codec_rows_v5_l0 (l, (↑l.length : Int), (0 : Int), y0.fst, ())) fun y4 =>
  sumO y4 (fun t5 =>
   some (t5.fst, ())) (fun r6 =>
   some (r6))
noncomputable def codec_State (s' : Int × Int × (List THold) × (List TSweep) × (List (Int × List TSight)) × (List TProbe) × List (Int × Int × Int × Int)) : Option ((List Int) × Unit) :=
  bnd (codec_num (s'.fst) ([])) fun y0 =>
  bnd (codec_small (s'.snd.fst) (y0.fst)) fun y1 =>
  bnd (codec_rows (s'.snd.snd.fst) (y1.fst)) fun y2 =>
  bnd (codec_rows_v1 (s'.snd.snd.snd.fst) (y2.fst)) fun y3 =>
  bnd (codec_rows_v3 (s'.snd.snd.snd.snd.fst) (y3.fst)) fun y4 =>
  bnd (codec_rows_v4 (s'.snd.snd.snd.snd.snd.fst) (y4.fst)) fun y5 =>
  bnd (codec_rows_v5 (s'.snd.snd.snd.snd.snd.snd) (y5.fst)) fun y6 =>
  some (y6.fst, ())
noncomputable def codec_reader_num (r : (List Int) × Bool) : Option (Int × ((List Int) × Bool) × Unit) :=
  bnd (codec_reader_number ((8 : Int)) (r)) fun y0 =>
  some (y0.fst, y0.snd.fst, ())
noncomputable def codec_reader_small (r : (List Int) × Bool) : Option (Int × ((List Int) × Bool) × Unit) :=
  bnd (codec_reader_number ((2 : Int)) (r)) fun y0 =>
  some (y0.fst, y0.snd.fst, ())
noncomputable def codec_read_b0 (n : Int) (out : List THold) (r : (List Int) × Bool) : Option ((Int × (List THold) × ((List Int) × Bool) × Unit) ⊕ (((List Int) × Bool × (List THold) × Unit) ⊕ (((List Int) × Bool) × (List THold) × Unit))) :=
  chk (decide (n > (0 : Int)) = true → decide (n > (0 : Int)) = true) <|
  chk (decide (n > (0 : Int)) = true → decide (n > (0 : Int)) = true) <|
  chk (decide (n > (0 : Int)) = true → decide (n > (0 : Int)) = true) <|
  chk (decide (n > (0 : Int)) = true → decide (n > (0 : Int)) = true) <|
  chk (decide (n > (0 : Int)) = true → decide (n > (0 : Int)) = true) <|
  ltO (decide (n > (0 : Int)) && !r.snd) fun (v1 : Bool) =>
  cnd (v1) (
   bnd (codec_reader_holder (r)) fun y2 =>
   chk (room (32 : Nat) (out.length + [(y2.fst)].length)) <|
   ltO (IntKind.i64.wrap (n - (1 : Int))) fun (v3 : Int) =>
   some (.inl (v3, out ++ [(y2.fst)], y2.snd.fst, ()))) (
   some (.inr (.inl (r.fst, r.snd, out, ()))))
noncomputable def codec_read_l0 (s : Int × (List THold) × ((List Int) × Bool) × Unit) : Option (((List Int) × Bool × (List THold) × Unit) ⊕ (((List Int) × Bool) × (List THold) × Unit)) := loopM (fun s : Int × (List THold) × ((List Int) × Bool) × Unit => codec_read_b0 s.1 s.2.1 s.2.2.1) s
noncomputable def codec_read (r : (List Int) × Bool) : Option (((List Int) × Bool) × (List THold) × Unit) :=
  bnd (codec_reader_small (r)) fun y0 =>
  bnd (codec_read_l0 (y0.fst, [], y0.snd.fst, ())) fun y4 =>
  sumO y4 (fun t5 =>
   some ((t5.fst, t5.snd.fst), t5.snd.snd.fst, ())) (fun r6 =>
   some (r6))
noncomputable def codec_ReadState_1 (o1_0 : List Int) (o1_1 : Bool) : Option (TSweep × (List Int) × Bool × Unit) :=
  bnd (codec_reader_block ((o1_0, o1_1))) fun y0 =>
  bnd (codec_reader_num (y0.snd.fst)) fun y1 =>
  bnd (codec_reader_small (y1.snd.fst)) fun y2 =>
  some ((y0.fst, y1.fst, y2.fst), y2.snd.fst.fst, y2.snd.fst.snd, ())
noncomputable def codec_read_v1_b0 (n : Int) (out : List TSweep) (r : (List Int) × Bool) : Option ((Int × (List TSweep) × ((List Int) × Bool) × Unit) ⊕ (((List Int) × Bool × (List TSweep) × Unit) ⊕ (((List Int) × Bool) × (List TSweep) × Unit))) :=
  chk (decide (n > (0 : Int)) = true → decide (n > (0 : Int)) = true) <|
  chk (decide (n > (0 : Int)) = true → decide (n > (0 : Int)) = true) <|
  chk (decide (n > (0 : Int)) = true → decide (n > (0 : Int)) = true) <|
  chk (decide (n > (0 : Int)) = true → decide (n > (0 : Int)) = true) <|
  chk (decide (n > (0 : Int)) = true → decide (n > (0 : Int)) = true) <|
  ltO (decide (n > (0 : Int)) && !r.snd) fun (v1 : Bool) =>
  cnd (v1) (
   bnd (codec_ReadState_1 (r.fst) (r.snd)) fun y2 =>
   chk (room (32 : Nat) (out.length + [(y2.fst)].length)) <|
   ltO (IntKind.i64.wrap (n - (1 : Int))) fun (v3 : Int) =>
   some (.inl (v3, out ++ [(y2.fst)], (y2.snd.fst, y2.snd.snd.fst), ()))) (
   some (.inr (.inl (r.fst, r.snd, out, ()))))
noncomputable def codec_read_v1_l0 (s : Int × (List TSweep) × ((List Int) × Bool) × Unit) : Option (((List Int) × Bool × (List TSweep) × Unit) ⊕ (((List Int) × Bool) × (List TSweep) × Unit)) := loopM (fun s : Int × (List TSweep) × ((List Int) × Bool) × Unit => codec_read_v1_b0 s.1 s.2.1 s.2.2.1) s
noncomputable def codec_read_v1 (r : (List Int) × Bool) : Option (((List Int) × Bool) × (List TSweep) × Unit) :=
  bnd (codec_reader_small (r)) fun y0 =>
  bnd (codec_read_v1_l0 (y0.fst, [], y0.snd.fst, ())) fun y4 =>
  sumO y4 (fun t5 =>
   some ((t5.fst, t5.snd.fst), t5.snd.snd.fst, ())) (fun r6 =>
   some (r6))
noncomputable def codec_reader_sight (r : (List Int) × Bool) : Option (TSight × ((List Int) × Bool) × Unit) :=
  bnd (codec_reader_one (r)) fun y0 =>
  bnd (codec_reader_mac (y0.snd.fst)) fun y1 =>
  bnd (codec_reader_num (y1.snd.fst)) fun y2 =>
  some ((y0.fst, y1.fst, y2.fst), y2.snd.fst, ())
noncomputable def codec_read_v2_b0 (n : Int) (out : List TSight) (r : (List Int) × Bool) : Option ((Int × (List TSight) × ((List Int) × Bool) × Unit) ⊕ (((List Int) × Bool × (List TSight) × Unit) ⊕ (((List Int) × Bool) × (List TSight) × Unit))) :=
  chk (decide (n > (0 : Int)) = true → decide (n > (0 : Int)) = true) <|
  chk (decide (n > (0 : Int)) = true → decide (n > (0 : Int)) = true) <|
  chk (decide (n > (0 : Int)) = true → decide (n > (0 : Int)) = true) <|
  chk (decide (n > (0 : Int)) = true → decide (n > (0 : Int)) = true) <|
  chk (decide (n > (0 : Int)) = true → decide (n > (0 : Int)) = true) <|
  ltO (decide (n > (0 : Int)) && !r.snd) fun (v1 : Bool) =>
  cnd (v1) (
   bnd (codec_reader_sight (r)) fun y2 =>
   chk (room (24 : Nat) (out.length + [(y2.fst)].length)) <|
   ltO (IntKind.i64.wrap (n - (1 : Int))) fun (v3 : Int) =>
   some (.inl (v3, out ++ [(y2.fst)], y2.snd.fst, ()))) (
   some (.inr (.inl (r.fst, r.snd, out, ()))))
noncomputable def codec_read_v2_l0 (s : Int × (List TSight) × ((List Int) × Bool) × Unit) : Option (((List Int) × Bool × (List TSight) × Unit) ⊕ (((List Int) × Bool) × (List TSight) × Unit)) := loopM (fun s : Int × (List TSight) × ((List Int) × Bool) × Unit => codec_read_v2_b0 s.1 s.2.1 s.2.2.1) s
noncomputable def codec_read_v2 (r : (List Int) × Bool) : Option (((List Int) × Bool) × (List TSight) × Unit) :=
  bnd (codec_reader_small (r)) fun y0 =>
  bnd (codec_read_v2_l0 (y0.fst, [], y0.snd.fst, ())) fun y4 =>
  sumO y4 (fun t5 =>
   some ((t5.fst, t5.snd.fst), t5.snd.snd.fst, ())) (fun r6 =>
   some (r6))
noncomputable def codec_ReadState_2 (o1_0 : List Int) (o1_1 : Bool) : Option ((Int × List TSight) × (List Int) × Bool × Unit) :=
  bnd (codec_reader_ip ((o1_0, o1_1))) fun y0 =>
  bnd (codec_read_v2 (y0.snd.fst)) fun y1 =>
  some ((y0.fst, y1.snd.fst), y1.fst.fst, y1.fst.snd, ())
noncomputable def codec_read_v3_b0 (n : Int) (out : List (Int × List TSight)) (r : (List Int) × Bool) : Option ((Int × (List (Int × List TSight)) × ((List Int) × Bool) × Unit) ⊕ (((List Int) × Bool × (List (Int × List TSight)) × Unit) ⊕ (((List Int) × Bool) × (List (Int × List TSight)) × Unit))) :=
  chk (decide (n > (0 : Int)) = true → decide (n > (0 : Int)) = true) <|
  chk (decide (n > (0 : Int)) = true → decide (n > (0 : Int)) = true) <|
  chk (decide (n > (0 : Int)) = true → decide (n > (0 : Int)) = true) <|
  chk (decide (n > (0 : Int)) = true → decide (n > (0 : Int)) = true) <|
  chk (decide (n > (0 : Int)) = true → decide (n > (0 : Int)) = true) <|
  ltO (decide (n > (0 : Int)) && !r.snd) fun (v1 : Bool) =>
  cnd (v1) (
   bnd (codec_ReadState_2 (r.fst) (r.snd)) fun y2 =>
   chk (room (32 : Nat) (out.length + [(y2.fst)].length)) <|
   ltO (IntKind.i64.wrap (n - (1 : Int))) fun (v3 : Int) =>
   some (.inl (v3, out ++ [(y2.fst)], (y2.snd.fst, y2.snd.snd.fst), ()))) (
   some (.inr (.inl (r.fst, r.snd, out, ()))))
noncomputable def codec_read_v3_l0 (s : Int × (List (Int × List TSight)) × ((List Int) × Bool) × Unit) : Option (((List Int) × Bool × (List (Int × List TSight)) × Unit) ⊕ (((List Int) × Bool) × (List (Int × List TSight)) × Unit)) := loopM (fun s : Int × (List (Int × List TSight)) × ((List Int) × Bool) × Unit => codec_read_v3_b0 s.1 s.2.1 s.2.2.1) s
noncomputable def codec_read_v3 (r : (List Int) × Bool) : Option (((List Int) × Bool) × (List (Int × List TSight)) × Unit) :=
  bnd (codec_reader_small (r)) fun y0 =>
  bnd (codec_read_v3_l0 (y0.fst, [], y0.snd.fst, ())) fun y4 =>
  sumO y4 (fun t5 =>
   some ((t5.fst, t5.snd.fst), t5.snd.snd.fst, ())) (fun r6 =>
   some (r6))
noncomputable def codec_ReadState_3 (o1_0 : List Int) (o1_1 : Bool) : Option (TProbe × (List Int) × Bool × Unit) :=
  bnd (codec_reader_ip ((o1_0, o1_1))) fun y0 =>
  ltO (IntKind.u32.wrap (bandI IntKind.u32 y0.fst (65535 : Int))) fun (v1 : Int) =>
  ltO (IntKind.i64.wrap v1) fun (v2 : Int) =>
  bnd (codec_reader_small (y0.snd.fst)) fun y3 =>
  bnd (codec_reader_num (y3.snd.fst)) fun y4 =>
  bnd (codec_reader_one (y4.snd.fst)) fun y5 =>
  some ((y0.fst, v2, y3.fst, y4.fst, y5.fst), y5.snd.fst.fst, y5.snd.fst.snd, ())
noncomputable def codec_read_v4_b0 (n : Int) (out : List TProbe) (r : (List Int) × Bool) : Option ((Int × (List TProbe) × ((List Int) × Bool) × Unit) ⊕ (((List Int) × Bool × (List TProbe) × Unit) ⊕ (((List Int) × Bool) × (List TProbe) × Unit))) :=
  chk (decide (n > (0 : Int)) = true → decide (n > (0 : Int)) = true) <|
  chk (decide (n > (0 : Int)) = true → decide (n > (0 : Int)) = true) <|
  chk (decide (n > (0 : Int)) = true → decide (n > (0 : Int)) = true) <|
  chk (decide (n > (0 : Int)) = true → decide (n > (0 : Int)) = true) <|
  chk (decide (n > (0 : Int)) = true → decide (n > (0 : Int)) = true) <|
  ltO (decide (n > (0 : Int)) && !r.snd) fun (v1 : Bool) =>
  cnd (v1) (
   bnd (codec_ReadState_3 (r.fst) (r.snd)) fun y2 =>
   chk (room (40 : Nat) (out.length + [(y2.fst)].length)) <|
   ltO (IntKind.i64.wrap (n - (1 : Int))) fun (v3 : Int) =>
   some (.inl (v3, out ++ [(y2.fst)], (y2.snd.fst, y2.snd.snd.fst), ()))) (
   some (.inr (.inl (r.fst, r.snd, out, ()))))
noncomputable def codec_read_v4_l0 (s : Int × (List TProbe) × ((List Int) × Bool) × Unit) : Option (((List Int) × Bool × (List TProbe) × Unit) ⊕ (((List Int) × Bool) × (List TProbe) × Unit)) := loopM (fun s : Int × (List TProbe) × ((List Int) × Bool) × Unit => codec_read_v4_b0 s.1 s.2.1 s.2.2.1) s
noncomputable def codec_read_v4 (r : (List Int) × Bool) : Option (((List Int) × Bool) × (List TProbe) × Unit) :=
  bnd (codec_reader_small (r)) fun y0 =>
  bnd (codec_read_v4_l0 (y0.fst, [], y0.snd.fst, ())) fun y4 =>
  sumO y4 (fun t5 =>
   some ((t5.fst, t5.snd.fst), t5.snd.snd.fst, ())) (fun r6 =>
   some (r6))
noncomputable def codec_ReadState_4 (o1_0 : List Int) (o1_1 : Bool) : Option ((Int × Int × Int × Int) × (List Int) × Bool × Unit) :=
  bnd (codec_reader_ip ((o1_0, o1_1))) fun y0 =>
  bnd (codec_reader_num (y0.snd.fst)) fun y1 =>
  bnd (codec_reader_num (y1.snd.fst)) fun y2 =>
  bnd (codec_reader_one (y2.snd.fst)) fun y3 =>
  some ((y0.fst, y1.fst, y2.fst, y3.fst), y3.snd.fst.fst, y3.snd.fst.snd, ())
noncomputable def codec_read_v5_b0 (n : Int) (out : List (Int × Int × Int × Int)) (r : (List Int) × Bool) : Option ((Int × (List (Int × Int × Int × Int)) × ((List Int) × Bool) × Unit) ⊕ (((List Int) × Bool × (List (Int × Int × Int × Int)) × Unit) ⊕ (((List Int) × Bool) × (List (Int × Int × Int × Int)) × Unit))) :=
  chk (decide (n > (0 : Int)) = true → decide (n > (0 : Int)) = true) <|
  chk (decide (n > (0 : Int)) = true → decide (n > (0 : Int)) = true) <|
  chk (decide (n > (0 : Int)) = true → decide (n > (0 : Int)) = true) <|
  chk (decide (n > (0 : Int)) = true → decide (n > (0 : Int)) = true) <|
  chk (decide (n > (0 : Int)) = true → decide (n > (0 : Int)) = true) <|
  ltO (decide (n > (0 : Int)) && !r.snd) fun (v1 : Bool) =>
  cnd (v1) (
   bnd (codec_ReadState_4 (r.fst) (r.snd)) fun y2 =>
   chk (room (32 : Nat) (out.length + [(y2.fst)].length)) <|
   ltO (IntKind.i64.wrap (n - (1 : Int))) fun (v3 : Int) =>
   some (.inl (v3, out ++ [(y2.fst)], (y2.snd.fst, y2.snd.snd.fst), ()))) (
   some (.inr (.inl (r.fst, r.snd, out, ()))))
noncomputable def codec_read_v5_l0 (s : Int × (List (Int × Int × Int × Int)) × ((List Int) × Bool) × Unit) : Option (((List Int) × Bool × (List (Int × Int × Int × Int)) × Unit) ⊕ (((List Int) × Bool) × (List (Int × Int × Int × Int)) × Unit)) := loopM (fun s : Int × (List (Int × Int × Int × Int)) × ((List Int) × Bool) × Unit => codec_read_v5_b0 s.1 s.2.1 s.2.2.1) s
noncomputable def codec_read_v5 (r : (List Int) × Bool) : Option (((List Int) × Bool) × (List (Int × Int × Int × Int)) × Unit) :=
  bnd (codec_reader_small (r)) fun y0 =>
  bnd (codec_read_v5_l0 (y0.fst, [], y0.snd.fst, ())) fun y4 =>
  sumO y4 (fun t5 =>
   some ((t5.fst, t5.snd.fst), t5.snd.snd.fst, ())) (fun r6 =>
   some (r6))
noncomputable def clock_Clamp (n : Int) : Option (Int × Unit) :=
  some (if (if (1099511627776 : Int) < n then (1099511627776 : Int) else n) > (0 : Int) then if (1099511627776 : Int) < n then (1099511627776 : Int) else n else (0 : Int), ())
noncomputable def held_Right_b0 (hs : List THold) (t5 : List THold) (t6 : Int) (t7 : Int) : Option (((List THold) × (List THold) × Int × Int × Unit) ⊕ (((List THold) × Unit) ⊕ (Bool × Unit))) :=
  cnd (decide (t7 < t6)) (
   chk ((0 : Int) ≤ t7 ∧ t7 < (↑t5.length : Int)) <|
   ltO ((Option.rec zHold (fun val => val) t5[t7.toNat]?)) fun (v0 : Int × (List UInt8) × Int × Int × Int × Int × Int × Int) =>
   bnd (held_May (v0.snd.fst)) fun y1 =>
   chk ((!!y1.fst) = true → (!!y1.fst) = true) <|
   chk ((!!y1.fst) = true → (!!y1.fst) = true) <|
   chk ((!!y1.fst && decide (t7 > (0 : Int))) = true → (!!y1.fst && decide (t7 > (0 : Int))) = true) <|
   ltO (IntKind.i64.wrap (t7 - (1 : Int))) fun (v2 : Int) =>
   chk ((!!y1.fst && decide (t7 > (0 : Int))) = true → (!!y1.fst && decide (t7 > (0 : Int))) = true) <|
   chk ((!!y1.fst && decide (t7 > (0 : Int))) = true → (!!y1.fst && decide (t7 > (0 : Int))) = true) <|
   chk ((!!y1.fst && decide (t7 > (0 : Int))) = true → (0 : Int) ≤ v2 ∧ v2 < (↑hs.length : Int)) <|
   ltO ((Option.rec zHold (fun val => val) hs[v2.toNat]?)) fun (v3 : Int × (List UInt8) × Int × Int × Int × Int × Int × Int) =>
   chk ((!!y1.fst && decide (t7 > (0 : Int))) = true → (!!y1.fst && decide (t7 > (0 : Int))) = true) <|
   chk ((!!y1.fst && decide (t7 > (0 : Int))) = true → (!!y1.fst && decide (t7 > (0 : Int))) = true) <|
   chk ((!!y1.fst && decide (t7 > (0 : Int))) = true → (!!y1.fst && decide (t7 > (0 : Int))) = true) <|
   chk ((!!y1.fst && decide (t7 > (0 : Int))) = true → (!!y1.fst && decide (t7 > (0 : Int))) = true) <|
   chk ((!!y1.fst && decide (t7 > (0 : Int))) = true → (!!y1.fst && decide (t7 > (0 : Int))) = true) <|
   chk ((!!y1.fst) = true → (!!y1.fst) = true) <|
   chk ((!!y1.fst) = true → decide (t7 > (0 : Int)) = true → (!!y1.fst && decide (t7 > (0 : Int))) = true) <|
   ltO (decide (t7 > (0 : Int)) && decide (v3.fst ≥ v0.fst)) fun (v4 : Bool) =>
   chk ((!y1.fst) = false → (!!y1.fst) = true) <|
   ltO (!y1.fst || v4) fun (v5 : Bool) =>
   cnd (v5) (
    some (.inr (.inr (false, ())))) (
    ltO (IntKind.i64.wrap (t7 + (1 : Int))) fun (v6 : Int) =>
    some (.inl (hs, t5, t6, v6, ())))) (
   some (.inr (.inl (hs, ()))))
noncomputable def held_Right_l0 (s : (List THold) × (List THold) × Int × Int × Unit) : Option (((List THold) × Unit) ⊕ (Bool × Unit)) := loopM (fun s : (List THold) × (List THold) × Int × Int × Unit => held_Right_b0 s.1 s.2.1 s.2.2.1 s.2.2.2.1) s
noncomputable def held_Right (hs : List THold) : Option (Bool × Unit) :=
  bnd (held_Right_l0 (hs, hs, (↑hs.length : Int), (0 : Int), ())) fun y7 =>
  sumO y7 (fun t8 =>
   some (decide ((↑t8.fst.length : Int) ≤ (48 : Int)), ())) (fun r9 =>
   some (r9))
noncomputable def sweep_Right_b0 (ss : List TSweep) (t5 : List TSweep) (t6 : Int) (t7 : Int) : Option (((List TSweep) × (List TSweep) × Int × Int × Unit) ⊕ (((List TSweep) × Unit) ⊕ (Bool × Unit))) :=
  cnd (decide (t7 < t6)) (
   chk ((0 : Int) ≤ t7 ∧ t7 < (↑t5.length : Int)) <|
   ltO ((Option.rec zSweep (fun val => val) t5[t7.toNat]?)) fun (v0 : (Int × Int) × Int × Int) =>
   bnd (addr_Right (v0.fst)) fun y1 =>
   chk ((!!y1.fst) = true → (!!y1.fst) = true) <|
   chk ((!!y1.fst) = true → (!!y1.fst) = true) <|
   bndG (!!y1.fst) (addr_Size (v0.fst)) ((0 : Int), ()) fun y2 =>
   chk ((!!y1.fst) = true → (!!y1.fst) = true) <|
   chk ((!y1.fst) = false → (!!y1.fst) = true) <|
   ltO (!y1.fst || decide (y2.fst > (256 : Int))) fun (v3 : Bool) =>
   chk ((!v3) = true → (!v3) = true) <|
   chk ((!v3) = true → (!v3) = true) <|
   chk ((!v3) = true → (!v3) = true) <|
   bndG (!v3) (clock_Clamp (v0.snd.fst)) ((0 : Int), ()) fun y4 =>
   chk ((!v3) = true → (!v3) = true) <|
   chk ((!v3) = true → (!v3) = true) <|
   ltO (v0.snd.fst != y4.fst) fun (v5 : Bool) =>
   chk (v3 = false → (!v3) = true) <|
   ltO (v3 || v5) fun (v6 : Bool) =>
   chk ((!v6) = true → (!v6) = true) <|
   chk ((!v6) = true → (!v6) = true) <|
   chk (v6 = false → (!v6) = true) <|
   ltO (v6 || decide (v0.snd.snd < (0 : Int))) fun (v7 : Bool) =>
   chk ((!v7) = true → (!v7) = true) <|
   chk ((!v7) = true → (!v7) = true) <|
   chk ((!v7) = true → (!v7) = true) <|
   bndG (!v7) (addr_Size (v0.fst)) ((0 : Int), ()) fun y8 =>
   chk ((!v7) = true → (!v7) = true) <|
   chk ((!v7) = true → (!v7) = true) <|
   chk (v7 = false → (!v7) = true) <|
   ltO (v7 || decide (v0.snd.snd ≥ y8.fst)) fun (v9 : Bool) =>
   cnd (v9) (
    some (.inr (.inr (false, ())))) (
    chk (decide (t7 > (0 : Int)) = true → decide (t7 > (0 : Int)) = true) <|
    ltO (IntKind.i64.wrap (t7 - (1 : Int))) fun (v10 : Int) =>
    chk (decide (t7 > (0 : Int)) = true → decide (t7 > (0 : Int)) = true) <|
    chk (decide (t7 > (0 : Int)) = true → decide (t7 > (0 : Int)) = true) <|
    chk (decide (t7 > (0 : Int)) = true → (0 : Int) ≤ v10 ∧ v10 < (↑ss.length : Int)) <|
    ltO ((Option.rec zSweep (fun val => val) ss[v10.toNat]?)) fun (v11 : (Int × Int) × Int × Int) =>
    chk (decide (t7 > (0 : Int)) = true → decide (t7 > (0 : Int)) = true) <|
    chk (decide (t7 > (0 : Int)) = true → decide (t7 > (0 : Int)) = true) <|
    chk (decide (t7 > (0 : Int)) = true → decide (t7 > (0 : Int)) = true) <|
    chk (decide (t7 > (0 : Int)) = true → decide (t7 > (0 : Int)) = true) <|
    chk (decide (t7 > (0 : Int)) = true → decide (t7 > (0 : Int)) = true) <|
    chk (decide (t7 > (0 : Int)) = true → decide (t7 > (0 : Int)) = true) <|
    chk (decide (t7 > (0 : Int)) = true → decide (t7 > (0 : Int)) = true) <|
    chk (decide (t7 > (0 : Int)) = true → decide (t7 > (0 : Int)) = true) <|
    chk ((decide (t7 > (0 : Int)) && !decide (v11.fst.fst ≥ v0.fst.fst)) = true → (decide (t7 > (0 : Int)) && !decide (v11.fst.fst ≥ v0.fst.fst)) = true) <|
    ltO (IntKind.i64.wrap (t7 - (1 : Int))) fun (v12 : Int) =>
    chk ((decide (t7 > (0 : Int)) && !decide (v11.fst.fst ≥ v0.fst.fst)) = true → (decide (t7 > (0 : Int)) && !decide (v11.fst.fst ≥ v0.fst.fst)) = true) <|
    chk ((decide (t7 > (0 : Int)) && !decide (v11.fst.fst ≥ v0.fst.fst)) = true → (decide (t7 > (0 : Int)) && !decide (v11.fst.fst ≥ v0.fst.fst)) = true) <|
    chk ((decide (t7 > (0 : Int)) && !decide (v11.fst.fst ≥ v0.fst.fst)) = true → (0 : Int) ≤ v12 ∧ v12 < (↑ss.length : Int)) <|
    ltO ((Option.rec zSweep (fun val => val) ss[v12.toNat]?)) fun (v13 : (Int × Int) × Int × Int) =>
    chk ((decide (t7 > (0 : Int)) && !decide (v11.fst.fst ≥ v0.fst.fst)) = true → (decide (t7 > (0 : Int)) && !decide (v11.fst.fst ≥ v0.fst.fst)) = true) <|
    chk ((decide (t7 > (0 : Int)) && !decide (v11.fst.fst ≥ v0.fst.fst)) = true → (decide (t7 > (0 : Int)) && !decide (v11.fst.fst ≥ v0.fst.fst)) = true) <|
    chk ((decide (t7 > (0 : Int)) && !decide (v11.fst.fst ≥ v0.fst.fst)) = true → (decide (t7 > (0 : Int)) && !decide (v11.fst.fst ≥ v0.fst.fst)) = true) <|
    chk ((decide (t7 > (0 : Int)) && !decide (v11.fst.fst ≥ v0.fst.fst)) = true → (decide (t7 > (0 : Int)) && !decide (v11.fst.fst ≥ v0.fst.fst)) = true) <|
    chk ((decide (t7 > (0 : Int)) && !decide (v11.fst.fst ≥ v0.fst.fst)) = true → (decide (t7 > (0 : Int)) && !decide (v11.fst.fst ≥ v0.fst.fst)) = true) <|
    bndG (decide (t7 > (0 : Int)) && !decide (v11.fst.fst ≥ v0.fst.fst)) (addr_Overlap (v13.fst) (v0.fst)) (false, ()) fun y14 =>
    chk (decide (t7 > (0 : Int)) = true → decide (t7 > (0 : Int)) = true) <|
    chk (decide (t7 > (0 : Int)) = true → decide (v11.fst.fst ≥ v0.fst.fst) = false → (decide (t7 > (0 : Int)) && !decide (v11.fst.fst ≥ v0.fst.fst)) = true) <|
    ltO (decide (v11.fst.fst ≥ v0.fst.fst) || y14.fst) fun (v15 : Bool) =>
    chk (decide (t7 > (0 : Int)) = true → decide (t7 > (0 : Int)) = true) <|
    ltO (decide (t7 > (0 : Int)) && v15) fun (v16 : Bool) =>
    cnd (v16) (
     some (.inr (.inr (false, ())))) (
     ltO (IntKind.i64.wrap (t7 + (1 : Int))) fun (v17 : Int) =>
     some (.inl (ss, t5, t6, v17, ()))))) (
   some (.inr (.inl (ss, ()))))
noncomputable def sweep_Right_l0 (s : (List TSweep) × (List TSweep) × Int × Int × Unit) : Option (((List TSweep) × Unit) ⊕ (Bool × Unit)) := loopM (fun s : (List TSweep) × (List TSweep) × Int × Int × Unit => sweep_Right_b0 s.1 s.2.1 s.2.2.1 s.2.2.2.1) s
noncomputable def sweep_Right (ss : List TSweep) : Option (Bool × Unit) :=
  bnd (sweep_Right_l0 (ss, ss, (↑ss.length : Int), (0 : Int), ())) fun y18 =>
  sumO y18 (fun t19 =>
   some (decide ((↑t19.fst.length : Int) ≤ (16 : Int)), ())) (fun r20 =>
   some (r20))
noncomputable def seen_Right_b1 (ks : List (Int × List TSight)) (t7 : List (Int × List TSight)) (t8 : Int) (t9 : Int) (t40 : List TSight) (t41 : Int) (t42 : Int) (x_0 : Int) (x_1 : List TSight) : Option (((List (Int × List TSight)) × (List (Int × List TSight)) × Int × Int × (List TSight) × Int × Int × Int × (List TSight) × Unit) ⊕ (((List (Int × List TSight)) × (List (Int × List TSight)) × Int × Int × Unit) ⊕ (Bool × Unit))) :=
  cnd (decide (t42 < t41)) (
   chk ((0 : Int) ≤ t42 ∧ t42 < (↑t40.length : Int)) <|
   ltO ((Option.rec zSight (fun val => val) t40[t42.toNat]?)) fun (v7 : Int × TMac × Int) =>
   chk ((!decide (v7.fst < (0 : Int))) = true → (!decide (v7.fst < (0 : Int))) = true) <|
   chk ((!decide (v7.fst < (0 : Int))) = true → (!decide (v7.fst < (0 : Int))) = true) <|
   chk (decide (v7.fst < (0 : Int)) = false → (!decide (v7.fst < (0 : Int))) = true) <|
   ltO (decide (v7.fst < (0 : Int)) || decide (v7.fst ≥ (4 : Int))) fun (v8 : Bool) =>
   chk ((!v8) = true → (!v8) = true) <|
   chk ((!v8) = true → (!v8) = true) <|
   chk (v8 = false → (!v8) = true) <|
   ltO (v8 || decide (v7.snd.snd < (0 : Int))) fun (v9 : Bool) =>
   chk ((!v9) = true → (!v9) = true) <|
   chk ((!v9) = true → (!v9) = true) <|
   chk ((!v9 && decide (t42 > (0 : Int))) = true → (!v9 && decide (t42 > (0 : Int))) = true) <|
   chk ((!v9 && decide (t42 > (0 : Int))) = true → (!v9 && decide (t42 > (0 : Int))) = true) <|
   ltO (IntKind.i64.wrap (t42 - (1 : Int))) fun (v10 : Int) =>
   chk ((!v9 && decide (t42 > (0 : Int))) = true → (!v9 && decide (t42 > (0 : Int))) = true) <|
   chk ((!v9 && decide (t42 > (0 : Int))) = true → (!v9 && decide (t42 > (0 : Int))) = true) <|
   chk ((!v9 && decide (t42 > (0 : Int))) = true → (0 : Int) ≤ v10 ∧ v10 < (↑x_1.length : Int)) <|
   ltO ((Option.rec zSight (fun val => val) x_1[v10.toNat]?)) fun (v11 : Int × TMac × Int) =>
   chk ((!v9 && decide (t42 > (0 : Int))) = true → (!v9 && decide (t42 > (0 : Int))) = true) <|
   chk ((!v9 && decide (t42 > (0 : Int))) = true → (!v9 && decide (t42 > (0 : Int))) = true) <|
   chk ((!v9 && decide (t42 > (0 : Int))) = true → (!v9 && decide (t42 > (0 : Int))) = true) <|
   chk ((!v9 && decide (t42 > (0 : Int))) = true → (!v9 && decide (t42 > (0 : Int))) = true) <|
   chk ((!v9 && decide (t42 > (0 : Int))) = true → (!v9 && decide (t42 > (0 : Int))) = true) <|
   chk ((!v9) = true → (!v9) = true) <|
   chk ((!v9) = true → decide (t42 > (0 : Int)) = true → (!v9 && decide (t42 > (0 : Int))) = true) <|
   ltO (decide (t42 > (0 : Int)) && decide (v11.snd.snd > v7.snd.snd)) fun (v12 : Bool) =>
   chk (v9 = false → (!v9) = true) <|
   ltO (v9 || v12) fun (v13 : Bool) =>
   cnd (v13) (
    some (.inr (.inr (false, ())))) (
    ltO (IntKind.i64.wrap (t42 + (1 : Int))) fun (v14 : Int) =>
    some (.inl (ks, t7, t8, t9, t40, t41, v14, x_0, x_1, ())))) (
   some (.inr (.inl (ks, t7, t8, t9, ()))))
noncomputable def seen_Right_l1 (s : (List (Int × List TSight)) × (List (Int × List TSight)) × Int × Int × (List TSight) × Int × Int × Int × (List TSight) × Unit) : Option (((List (Int × List TSight)) × (List (Int × List TSight)) × Int × Int × Unit) ⊕ (Bool × Unit)) := loopM (fun s : (List (Int × List TSight)) × (List (Int × List TSight)) × Int × Int × (List TSight) × Int × Int × Int × (List TSight) × Unit => seen_Right_b1 s.1 s.2.1 s.2.2.1 s.2.2.2.1 s.2.2.2.2.1 s.2.2.2.2.2.1 s.2.2.2.2.2.2.1 s.2.2.2.2.2.2.2.1 s.2.2.2.2.2.2.2.2.1) s
noncomputable def seen_Right_b0 (ks : List (Int × List TSight)) (t7 : List (Int × List TSight)) (t8 : Int) (t9 : Int) : Option (((List (Int × List TSight)) × (List (Int × List TSight)) × Int × Int × Unit) ⊕ (((List (Int × List TSight)) × Unit) ⊕ (Bool × Unit))) :=
  cnd (decide (t9 < t8)) (
   chk ((0 : Int) ≤ t9 ∧ t9 < (↑t7.length : Int)) <|
   ltO ((Option.rec ((0 : Int), []) (fun val => val) t7[t9.toNat]?)) fun (v0 : Int × List TSight) =>
   chk (decide (t9 > (0 : Int)) = true → decide (t9 > (0 : Int)) = true) <|
   ltO (IntKind.i64.wrap (t9 - (1 : Int))) fun (v1 : Int) =>
   chk (decide (t9 > (0 : Int)) = true → decide (t9 > (0 : Int)) = true) <|
   chk (decide (t9 > (0 : Int)) = true → decide (t9 > (0 : Int)) = true) <|
   chk (decide (t9 > (0 : Int)) = true → (0 : Int) ≤ v1 ∧ v1 < (↑ks.length : Int)) <|
   ltO ((Option.rec ((0 : Int), []) (fun val => val) ks[v1.toNat]?)) fun (v2 : Int × List TSight) =>
   chk (decide (t9 > (0 : Int)) = true → decide (t9 > (0 : Int)) = true) <|
   chk (decide (t9 > (0 : Int)) = true → decide (t9 > (0 : Int)) = true) <|
   chk (decide (t9 > (0 : Int)) = true → decide (t9 > (0 : Int)) = true) <|
   chk (decide (t9 > (0 : Int)) = true → decide (t9 > (0 : Int)) = true) <|
   chk (decide (t9 > (0 : Int)) = true → decide (t9 > (0 : Int)) = true) <|
   chk (decide (t9 > (0 : Int)) = true → decide (t9 > (0 : Int)) = true) <|
   ltO (decide (t9 > (0 : Int)) && decide (v2.fst ≥ v0.fst)) fun (v3 : Bool) =>
   chk ((!v3) = true → (!v3) = true) <|
   chk ((!v3) = true → (!v3) = true) <|
   chk ((!v3) = true → (!v3) = true) <|
   ltO ((↑v0.snd.length : Int) == (0 : Int)) fun (v4 : Bool) =>
   chk (v3 = false → (!v3) = true) <|
   ltO (v3 || v4) fun (v5 : Bool) =>
   chk ((!v5) = true → (!v5) = true) <|
   chk ((!v5) = true → (!v5) = true) <|
   chk ((!v5) = true → (!v5) = true) <|
   chk (v5 = false → (!v5) = true) <|
   ltO (v5 || decide ((↑v0.snd.length : Int) > (8 : Int))) fun (v6 : Bool) =>
   cnd (v6) (
    some (.inr (.inr (false, ())))) (
    bnd (seen_Right_l1 (ks, t7, t8, t9, v0.snd, (↑v0.snd.length : Int), (0 : Int), v0.fst, v0.snd, ())) fun y15 =>
    sumO y15 (fun t16 =>
     ltO (IntKind.i64.wrap (t16.snd.snd.snd.fst + (1 : Int))) fun (v18 : Int) =>
     some (.inl (t16.fst, t16.snd.fst, t16.snd.snd.fst, v18, ()))) (fun r17 =>
     some (.inr (.inr (r17)))))) (
   some (.inr (.inl (ks, ()))))
noncomputable def seen_Right_l0 (s : (List (Int × List TSight)) × (List (Int × List TSight)) × Int × Int × Unit) : Option (((List (Int × List TSight)) × Unit) ⊕ (Bool × Unit)) := loopM (fun s : (List (Int × List TSight)) × (List (Int × List TSight)) × Int × Int × Unit => seen_Right_b0 s.1 s.2.1 s.2.2.1 s.2.2.2.1) s
noncomputable def seen_Right (ks : List (Int × List TSight)) : Option (Bool × Unit) :=
  bnd (seen_Right_l0 (ks, ks, (↑ks.length : Int), (0 : Int), ())) fun y19 =>
  sumO y19 (fun t20 =>
   some (decide ((↑t20.fst.length : Int) ≤ (96 : Int)), ())) (fun r21 =>
   some (r21))
noncomputable def probe_Right_1 (x : Int × Int × Int × Int × Int) (t1 : Int × Int × Int × Int × Int) : Option (Bool × Unit) :=
  ltO (x.fst == t1.fst) fun (v0 : Bool) =>
  some (v0, ())
noncomputable def slices_IndexFunc_b0 (s' : List TProbe) (fc_0 : Int × Int × Int × Int × Int) (t7 : Int) (t8 : Int) : Option (((List TProbe) × TProbe × Int × Int × Unit) ⊕ (Unit ⊕ (Int × Unit))) :=
  cnd (decide (t8 < t7)) (
   chk ((0 : Int) ≤ t8 ∧ t8 < (↑s'.length : Int)) <|
   ltO ((Option.rec ((0 : Int), (0 : Int), (0 : Int), (0 : Int), (0 : Int)) (fun val => val) s'[t8.toNat]?)) fun (v0 : Int × Int × Int × Int × Int) =>
   bnd (probe_Right_1 (v0) (fc_0)) fun y1 =>
   cnd (y1.fst) (
    some (.inr (.inr (t8, ())))) (
    ltO (IntKind.i64.wrap (t8 + (1 : Int))) fun (v2 : Int) =>
    some (.inl (s', fc_0, t7, v2, ())))) (
   some (.inr (.inl ())))
noncomputable def slices_IndexFunc_l0 (s : (List TProbe) × TProbe × Int × Int × Unit) : Option (Unit ⊕ (Int × Unit)) := loopM (fun s : (List TProbe) × TProbe × Int × Int × Unit => slices_IndexFunc_b0 s.1 s.2.1 s.2.2.1 s.2.2.2.1) s
noncomputable def slices_IndexFunc (s' : List TProbe) (fc_0 : Int × Int × Int × Int × Int) : Option (Int × Unit) :=
  bnd (slices_IndexFunc_l0 (s', fc_0, (↑s'.length : Int), (0 : Int), ())) fun y3 =>
  sumO y3 (fun t4 =>
   some ((-1 : Int), ())) (fun r5 =>
   some (r5))
noncomputable def slices_ContainsFunc (s' : List TProbe) (fc_0 : Int × Int × Int × Int × Int) : Option (Bool × Unit) :=
  bnd (slices_IndexFunc (s') (fc_0)) fun y0 =>
  some (decide (y0.fst ≥ (0 : Int)), ())
noncomputable def probe_Right_b0 (ps : List TProbe) (t5 : List TProbe) (t6 : Int) (t7 : Int) : Option (((List TProbe) × (List TProbe) × Int × Int × Unit) ⊕ (((List TProbe) × Unit) ⊕ (Bool × Unit))) :=
  cnd (decide (t7 < t6)) (
   chk ((0 : Int) ≤ t7 ∧ t7 < (↑t5.length : Int)) <|
   ltO ((Option.rec ((0 : Int), (0 : Int), (0 : Int), (0 : Int), (0 : Int)) (fun val => val) t5[t7.toNat]?)) fun (v0 : Int × Int × Int × Int × Int) =>
   ltO (IntKind.u32.wrap (bandI IntKind.u32 v0.fst (65535 : Int))) fun (v1 : Int) =>
   ltO (IntKind.i64.wrap v1) fun (v2 : Int) =>
   ltO (v0.snd.fst != v2) fun (v3 : Bool) =>
   chk ((!v3) = true → (!v3) = true) <|
   chk ((!v3) = true → (!v3) = true) <|
   chk (v3 = false → (!v3) = true) <|
   ltO (v3 || decide (v0.snd.snd.fst < (0 : Int))) fun (v4 : Bool) =>
   chk ((!v4) = true → (!v4) = true) <|
   chk ((!v4) = true → (!v4) = true) <|
   chk (v4 = false → (!v4) = true) <|
   ltO (v4 || decide (v0.snd.snd.fst > (65535 : Int))) fun (v5 : Bool) =>
   chk ((!v5) = true → (!v5) = true) <|
   chk ((!v5) = true → (!v5) = true) <|
   chk ((!v5) = true → (!v5) = true) <|
   bndG (!v5) (clock_Clamp (v0.snd.snd.snd.fst)) ((0 : Int), ()) fun y6 =>
   chk ((!v5) = true → (!v5) = true) <|
   chk ((!v5) = true → (!v5) = true) <|
   ltO (v0.snd.snd.snd.fst != y6.fst) fun (v7 : Bool) =>
   chk (v5 = false → (!v5) = true) <|
   ltO (v5 || v7) fun (v8 : Bool) =>
   chk ((!v8) = true → (!v8) = true) <|
   chk ((!v8) = true → (!v8) = true) <|
   chk (v8 = false → (!v8) = true) <|
   ltO (v8 || decide (v0.snd.snd.snd.snd < (0 : Int))) fun (v9 : Bool) =>
   chk ((!v9) = true → (!v9) = true) <|
   chk ((!v9) = true → (!v9) = true) <|
   chk (v9 = false → (!v9) = true) <|
   ltO (v9 || decide (v0.snd.snd.snd.snd > (8 : Int))) fun (v10 : Bool) =>
   cnd (v10) (
    some (.inr (.inr (false, ())))) (
    chk ((0 : Int) ≤ (0 : Int) ∧ (0 : Int) ≤ t7 ∧ t7 ≤ (↑ps.length : Int)) <|
    bnd (slices_ContainsFunc (sliceA (0 : Nat) t7.toNat ps) (v0)) fun y11 =>
    cnd (y11.fst) (
     some (.inr (.inr (false, ())))) (
     ltO (IntKind.i64.wrap (t7 + (1 : Int))) fun (v12 : Int) =>
     some (.inl (ps, t5, t6, v12, ()))))) (
   some (.inr (.inl (ps, ()))))
noncomputable def probe_Right_l0 (s : (List TProbe) × (List TProbe) × Int × Int × Unit) : Option (((List TProbe) × Unit) ⊕ (Bool × Unit)) := loopM (fun s : (List TProbe) × (List TProbe) × Int × Int × Unit => probe_Right_b0 s.1 s.2.1 s.2.2.1 s.2.2.2.1) s
noncomputable def probe_Right (ps : List TProbe) : Option (Bool × Unit) :=
  bnd (probe_Right_l0 (ps, ps, (↑ps.length : Int), (0 : Int), ())) fun y13 =>
  sumO y13 (fun t14 =>
   some (decide ((↑t14.fst.length : Int) ≤ (16 : Int)), ())) (fun r15 =>
   some (r15))
noncomputable def cases_Open (c : Int × Int × Int × Int) : Option (Bool × Unit) :=
  ltO (c.snd.snd.snd == (0 : Int)) fun (v0 : Bool) =>
  chk ((!v0) = true → (!v0) = true) <|
  chk ((!v0) = true → (!v0) = true) <|
  ltO (c.snd.snd.snd == (1 : Int)) fun (v1 : Bool) =>
  chk (v0 = false → (!v0) = true) <|
  ltO (v0 || v1) fun (v2 : Bool) =>
  some (v2, ())
noncomputable def cases_Find_1 (c : Int × Int × Int × Int) (t1 : Int) : Option (Bool × Unit) :=
  ltO (c.fst == t1) fun (v0 : Bool) =>
  chk (v0 = true → v0 = true) <|
  bndG (v0) (cases_Open (c)) (false, ()) fun y1 =>
  chk (v0 = true → v0 = true) <|
  ltO (v0 && y1.fst) fun (v2 : Bool) =>
  some (v2, ())
noncomputable def slices_IndexFunc_v1_b0 (s' : List (Int × Int × Int × Int)) (fc_0 : Int) (t7 : Int) (t8 : Int) : Option (((List (Int × Int × Int × Int)) × Int × Int × Int × Unit) ⊕ (Unit ⊕ (Int × Unit))) :=
  cnd (decide (t8 < t7)) (
   chk ((0 : Int) ≤ t8 ∧ t8 < (↑s'.length : Int)) <|
   ltO ((Option.rec ((0 : Int), (0 : Int), (0 : Int), (0 : Int)) (fun val => val) s'[t8.toNat]?)) fun (v0 : Int × Int × Int × Int) =>
   bnd (cases_Find_1 (v0) (fc_0)) fun y1 =>
   cnd (y1.fst) (
    some (.inr (.inr (t8, ())))) (
    ltO (IntKind.i64.wrap (t8 + (1 : Int))) fun (v2 : Int) =>
    some (.inl (s', fc_0, t7, v2, ())))) (
   some (.inr (.inl ())))
noncomputable def slices_IndexFunc_v1_l0 (s : (List (Int × Int × Int × Int)) × Int × Int × Int × Unit) : Option (Unit ⊕ (Int × Unit)) := loopM (fun s : (List (Int × Int × Int × Int)) × Int × Int × Int × Unit => slices_IndexFunc_v1_b0 s.1 s.2.1 s.2.2.1 s.2.2.2.1) s
noncomputable def slices_IndexFunc_v1 (s' : List (Int × Int × Int × Int)) (fc_0 : Int) : Option (Int × Unit) :=
  bnd (slices_IndexFunc_v1_l0 (s', fc_0, (↑s'.length : Int), (0 : Int), ())) fun y3 =>
  sumO y3 (fun t4 =>
   some ((-1 : Int), ())) (fun r5 =>
   some (r5))
noncomputable def cases_Find (cs : List (Int × Int × Int × Int)) (a' : Int) : Option (Int × Unit) :=
  bnd (slices_IndexFunc_v1 (cs) (a')) fun y0 =>
  some (y0.fst, ())
noncomputable def cases_Right_b0 (cs : List (Int × Int × Int × Int)) (t5 : List (Int × Int × Int × Int)) (t6 : Int) (t7 : Int) : Option (((List (Int × Int × Int × Int)) × (List (Int × Int × Int × Int)) × Int × Int × Unit) ⊕ (((List (Int × Int × Int × Int)) × Unit) ⊕ (Bool × Unit))) :=
  cnd (decide (t7 < t6)) (
   chk ((0 : Int) ≤ t7 ∧ t7 < (↑t5.length : Int)) <|
   ltO ((Option.rec ((0 : Int), (0 : Int), (0 : Int), (0 : Int)) (fun val => val) t5[t7.toNat]?)) fun (v0 : Int × Int × Int × Int) =>
   chk ((!decide (v0.snd.snd.snd < (0 : Int))) = true → (!decide (v0.snd.snd.snd < (0 : Int))) = true) <|
   chk ((!decide (v0.snd.snd.snd < (0 : Int))) = true → (!decide (v0.snd.snd.snd < (0 : Int))) = true) <|
   chk (decide (v0.snd.snd.snd < (0 : Int)) = false → (!decide (v0.snd.snd.snd < (0 : Int))) = true) <|
   ltO (decide (v0.snd.snd.snd < (0 : Int)) || decide (v0.snd.snd.snd > (5 : Int))) fun (v1 : Bool) =>
   chk ((!v1) = true → (!v1) = true) <|
   chk ((!v1) = true → (!v1) = true) <|
   chk ((!v1) = true → (!v1) = true) <|
   bndG (!v1) (clock_Clamp (v0.snd.fst)) ((0 : Int), ()) fun y2 =>
   chk ((!v1) = true → (!v1) = true) <|
   chk ((!v1) = true → (!v1) = true) <|
   ltO (v0.snd.fst != y2.fst) fun (v3 : Bool) =>
   chk (v1 = false → (!v1) = true) <|
   ltO (v1 || v3) fun (v4 : Bool) =>
   chk ((!v4) = true → (!v4) = true) <|
   chk ((!v4) = true → (!v4) = true) <|
   chk ((!v4) = true → (!v4) = true) <|
   bndG (!v4) (clock_Clamp (v0.snd.snd.fst)) ((0 : Int), ()) fun y5 =>
   chk ((!v4) = true → (!v4) = true) <|
   chk ((!v4) = true → (!v4) = true) <|
   ltO (v0.snd.snd.fst != y5.fst) fun (v6 : Bool) =>
   chk (v4 = false → (!v4) = true) <|
   ltO (v4 || v6) fun (v7 : Bool) =>
   chk ((!v7) = true → (!v7) = true) <|
   bndG (!v7) (cases_Open (v0)) (false, ()) fun y8 =>
   chk ((!v7) = true → (!v7) = true) <|
   chk ((!v7 && y8.fst) = true → (!v7 && y8.fst) = true) <|
   chk ((!v7 && y8.fst) = true → (!v7 && y8.fst) = true) <|
   ltO (v0.snd.snd.fst != (0 : Int)) fun (v9 : Bool) =>
   chk ((!v7 && y8.fst) = true → (!v7 && y8.fst) = true) <|
   chk ((!v7 && y8.fst && !v9) = true → (!v7 && y8.fst && !v9) = true) <|
   chk ((!v7 && y8.fst && !v9) = true → (!v7 && y8.fst && !v9) = true) <|
   chk ((!v7 && y8.fst && !v9) = true → (!v7 && y8.fst && !v9) = true) <|
   bndG (!v7 && y8.fst && !v9) (cases_Find (cs) (v0.fst)) ((0 : Int), ()) fun y10 =>
   chk ((!v7 && y8.fst && !v9) = true → (!v7 && y8.fst && !v9) = true) <|
   chk ((!v7 && y8.fst && !v9) = true → (!v7 && y8.fst && !v9) = true) <|
   ltO (y10.fst != t7) fun (v11 : Bool) =>
   chk ((!v7 && y8.fst) = true → (!v7 && y8.fst) = true) <|
   chk ((!v7 && y8.fst) = true → v9 = false → (!v7 && y8.fst && !v9) = true) <|
   ltO (v9 || v11) fun (v12 : Bool) =>
   chk ((!v7) = true → (!v7) = true) <|
   chk ((!v7) = true → y8.fst = true → (!v7 && y8.fst) = true) <|
   ltO (y8.fst && v12) fun (v13 : Bool) =>
   chk (v7 = false → (!v7) = true) <|
   ltO (v7 || v13) fun (v14 : Bool) =>
   chk ((!v14) = true → (!v14) = true) <|
   bndG (!v14) (cases_Open (v0)) (false, ()) fun y15 =>
   chk ((!v14) = true → (!v14) = true) <|
   chk ((!v14) = true → (!v14) = true) <|
   chk ((!v14 && !y15.fst) = true → (!v14 && !y15.fst) = true) <|
   chk ((!v14 && !y15.fst) = true → (!v14 && !y15.fst) = true) <|
   chk ((!v14 && !y15.fst) = true → (!v14 && !y15.fst) = true) <|
   chk ((!v14 && !y15.fst) = true → (!v14 && !y15.fst) = true) <|
   chk ((!v14) = true → (!v14) = true) <|
   chk ((!v14) = true → (!y15.fst) = true → (!v14 && !y15.fst) = true) <|
   ltO (!y15.fst && decide (v0.snd.snd.fst < v0.snd.fst)) fun (v16 : Bool) =>
   chk (v14 = false → (!v14) = true) <|
   ltO (v14 || v16) fun (v17 : Bool) =>
   cnd (v17) (
    some (.inr (.inr (false, ())))) (
    ltO (IntKind.i64.wrap (t7 + (1 : Int))) fun (v18 : Int) =>
    some (.inl (cs, t5, t6, v18, ())))) (
   some (.inr (.inl (cs, ()))))
noncomputable def cases_Right_l0 (s : (List (Int × Int × Int × Int)) × (List (Int × Int × Int × Int)) × Int × Int × Unit) : Option (((List (Int × Int × Int × Int)) × Unit) ⊕ (Bool × Unit)) := loopM (fun s : (List (Int × Int × Int × Int)) × (List (Int × Int × Int × Int)) × Int × Int × Unit => cases_Right_b0 s.1 s.2.1 s.2.2.1 s.2.2.2.1) s
noncomputable def cases_Right (cs : List (Int × Int × Int × Int)) : Option (Bool × Unit) :=
  bnd (cases_Right_l0 (cs, cs, (↑cs.length : Int), (0 : Int), ())) fun y19 =>
  sumO y19 (fun t20 =>
   some (decide ((↑t20.fst.length : Int) ≤ (16 : Int)), ())) (fun r21 =>
   some (r21))
noncomputable def codec_Right (s' : Int × Int × (List THold) × (List TSweep) × (List (Int × List TSight)) × (List TProbe) × List (Int × Int × Int × Int)) : Option (Bool × Unit) :=
  bnd (clock_Clamp (s'.fst)) fun y0 =>
  ltO (s'.fst == y0.fst) fun (v1 : Bool) =>
  chk (v1 = true → v1 = true) <|
  chk (v1 = true → v1 = true) <|
  chk (v1 = true → v1 = true) <|
  ltO (v1 && decide (s'.snd.fst ≥ (0 : Int))) fun (v2 : Bool) =>
  chk (v2 = true → v2 = true) <|
  chk (v2 = true → v2 = true) <|
  chk (v2 = true → v2 = true) <|
  ltO (v2 && decide (s'.snd.fst ≤ (65535 : Int))) fun (v3 : Bool) =>
  chk (v3 = true → v3 = true) <|
  chk (v3 = true → v3 = true) <|
  bndG (v3) (held_Right (s'.snd.snd.fst)) (false, ()) fun y4 =>
  chk (v3 = true → v3 = true) <|
  ltO (v3 && y4.fst) fun (v5 : Bool) =>
  chk (v5 = true → v5 = true) <|
  chk (v5 = true → v5 = true) <|
  bndG (v5) (sweep_Right (s'.snd.snd.snd.fst)) (false, ()) fun y6 =>
  chk (v5 = true → v5 = true) <|
  ltO (v5 && y6.fst) fun (v7 : Bool) =>
  chk (v7 = true → v7 = true) <|
  chk (v7 = true → v7 = true) <|
  bndG (v7) (seen_Right (s'.snd.snd.snd.snd.fst)) (false, ()) fun y8 =>
  chk (v7 = true → v7 = true) <|
  ltO (v7 && y8.fst) fun (v9 : Bool) =>
  chk (v9 = true → v9 = true) <|
  chk (v9 = true → v9 = true) <|
  bndG (v9) (probe_Right (s'.snd.snd.snd.snd.snd.fst)) (false, ()) fun y10 =>
  chk (v9 = true → v9 = true) <|
  ltO (v9 && y10.fst) fun (v11 : Bool) =>
  chk (v11 = true → v11 = true) <|
  chk (v11 = true → v11 = true) <|
  bndG (v11) (cases_Right (s'.snd.snd.snd.snd.snd.snd)) (false, ()) fun y12 =>
  chk (v11 = true → v11 = true) <|
  ltO (v11 && y12.fst) fun (v13 : Bool) =>
  some (v13, ())
noncomputable def codec_ReadState (b : List Int) : Option ((Int × Int × (List THold) × (List TSweep) × (List (Int × List TSight)) × (List TProbe) × List (Int × Int × Int × Int)) × Bool × Unit) :=
  bnd (codec_reader_num ((b, false))) fun y0 =>
  bnd (codec_reader_small (y0.snd.fst)) fun y1 =>
  bnd (codec_read (y1.snd.fst)) fun y2 =>
  bnd (codec_read_v1 (y2.fst)) fun y3 =>
  bnd (codec_read_v3 (y3.fst)) fun y4 =>
  bnd (codec_read_v4 (y4.fst)) fun y5 =>
  bnd (codec_read_v5 (y5.fst)) fun y6 =>
  chk ((!y6.fst.snd) = true → (!y6.fst.snd) = true) <|
  chk ((!y6.fst.snd) = true → (!y6.fst.snd) = true) <|
  chk ((!y6.fst.snd) = true → (!y6.fst.snd) = true) <|
  chk ((!y6.fst.snd) = true → (!y6.fst.snd) = true) <|
  chk ((!y6.fst.snd) = true → (!y6.fst.snd) = true) <|
  chk (y6.fst.snd = false → (!y6.fst.snd) = true) <|
  ltO (y6.fst.snd || decide ((↑y6.fst.fst.length : Int) > (0 : Int))) fun (v7 : Bool) =>
  chk ((!v7) = true → (!v7) = true) <|
  bndG (!v7) (codec_Right ((y0.fst, y1.fst, y2.snd.fst, y3.snd.fst, y4.snd.fst, y5.snd.fst, y6.snd.fst))) (false, ()) fun y8 =>
  chk ((!v7) = true → (!v7) = true) <|
  chk (v7 = false → (!v7) = true) <|
  ltO (v7 || !y8.fst) fun (v9 : Bool) =>
  cnd (v9) (
   some (((0 : Int), (0 : Int), [], [], [], [], []), false, ())) (
   some ((y0.fst, y1.fst, y2.snd.fst, y3.snd.fst, y4.snd.fst, y5.snd.fst, y6.snd.fst), true, ()))
noncomputable def codec_Event (e : Int × THold × (Int × Int) × Int × TMac × Int) : Option ((List Int) × Unit) :=
  ltO (IntKind.u8.wrap e.fst) fun (v0 : Int) =>
  ltO (e.fst == (1 : Int)) fun (v1 : Bool) =>
  cnd (v1) (
   bnd (codec_holder (e.snd.fst) ([v0])) fun y2 =>
   some (y2.fst, ())) (
   ltO (e.fst == (3 : Int)) fun (v3 : Bool) =>
   cnd (v3) (
    bnd (codec_block (e.snd.snd.fst) ([v0])) fun y4 =>
    some (y4.fst, ())) (
    ltO (e.fst == (4 : Int)) fun (v5 : Bool) =>
    cnd (v5) (
     bnd (codec_block (e.snd.snd.fst) ([v0])) fun y6 =>
     some (y6.fst, ())) (
     ltO (e.fst == (5 : Int)) fun (v7 : Bool) =>
     cnd (v7) (
      bnd (codec_ip (e.snd.fst.fst) ([v0])) fun y8 =>
      ltO (IntKind.u8.wrap e.snd.snd.snd.fst) fun (v9 : Int) =>
      chk (room (1 : Nat) (y8.fst.length + [v9].length)) <|
      chk ((0 : Int) ≤ (0 : Int) ∧ (0 : Int) ≤ (6 : Int) ∧ (6 : Int) ≤ (6 : Int)) <|
      chk (room (1 : Nat) ((y8.fst ++ [v9]).length + [e.snd.snd.snd.snd.fst.fst, e.snd.snd.snd.snd.fst.snd.fst, e.snd.snd.snd.snd.fst.snd.snd.fst, e.snd.snd.snd.snd.fst.snd.snd.snd.fst, e.snd.snd.snd.snd.fst.snd.snd.snd.snd.fst, e.snd.snd.snd.snd.fst.snd.snd.snd.snd.snd].length)) <|
      some (y8.fst ++ [v9] ++ [e.snd.snd.snd.snd.fst.fst, e.snd.snd.snd.snd.fst.snd.fst, e.snd.snd.snd.snd.fst.snd.snd.fst, e.snd.snd.snd.snd.fst.snd.snd.snd.fst, e.snd.snd.snd.snd.fst.snd.snd.snd.snd.fst, e.snd.snd.snd.snd.fst.snd.snd.snd.snd.snd], ())) (
      ltO (e.fst == (2 : Int)) fun (v10 : Bool) =>
      cnd (v10) (
       bnd (codec_ip (e.snd.fst.fst) ([v0])) fun y11 =>
       some (y11.fst, ())) (
       ltO (e.fst == (6 : Int)) fun (v12 : Bool) =>
       cnd (v12) (
        bnd (codec_ip (e.snd.fst.fst) ([v0])) fun y13 =>
        some (y13.fst, ())) (
        ltO (e.fst == (7 : Int)) fun (v14 : Bool) =>
        cnd (v14) (
         bnd (codec_ip (e.snd.fst.fst) ([v0])) fun y15 =>
         some (y15.fst, ())) (
         some ([v0], ()))))))))
noncomputable def terrierlaw19_awake : Option (Bool × Unit) :=
  bnd (codec_ReadEvent ([(2 : Int), (10 : Int), (0 : Int), (0 : Int), (1 : Int)])) fun y0 =>
  bnd (codec_State (((7 : Int), (0 : Int), [], [], [], [], []))) fun y1 =>
  bnd (codec_ReadState (y1.fst)) fun y2 =>
  chk (y0.snd.fst = true → y0.snd.fst = true) <|
  chk (y0.snd.fst = true → y0.snd.fst = true) <|
  ltO (y0.fst.fst == (2 : Int)) fun (v3 : Bool) =>
  chk (y0.snd.fst = true → y0.snd.fst = true) <|
  ltO (y0.snd.fst && v3) fun (v4 : Bool) =>
  chk (v4 = true → v4 = true) <|
  chk (v4 = true → v4 = true) <|
  chk (v4 = true → v4 = true) <|
  ltO (y0.fst.snd.fst.fst == (167772161 : Int)) fun (v5 : Bool) =>
  chk (v4 = true → v4 = true) <|
  ltO (v4 && v5) fun (v6 : Bool) =>
  chk (v6 = true → v6 = true) <|
  ltO (v6 && y2.snd.fst) fun (v7 : Bool) =>
  chk (v7 = true → v7 = true) <|
  chk (v7 = true → v7 = true) <|
  ltO (y2.fst.fst == (7 : Int)) fun (v8 : Bool) =>
  chk (v7 = true → v7 = true) <|
  ltO (v7 && v8) fun (v9 : Bool) =>
  chk (v9 = true → v9 = true) <|
  bndG (v9) (codec_Event (zEv)) ([], ()) fun y10 =>
  chk (v9 = true → v9 = true) <|
  chk (v9 = true → v9 = true) <|
  ltO ((↑y10.fst.length : Int) == (1 : Int)) fun (v11 : Bool) =>
  chk (v9 = true → v9 = true) <|
  ltO (v9 && v11) fun (v12 : Bool) =>
  some (v12, ())
noncomputable def terrierlaw11_Station (n : Int) : Option (TMac × Unit) :=
  cnd (decide (n ≥ (128 : Int))) (
   some (zMac, ())) (
   chk (¬(3 : Int) = (0 : Int)) <|
   ltO (n.tmod (3 : Int)) fun (v0 : Int) =>
   ltO (IntKind.u8.wrap ((1 : Int) + v0)) fun (v1 : Int) =>
   some (((2 : Int), (0 : Int), (0 : Int), (0 : Int), (0 : Int), v1), ()))
noncomputable def terrierlaw18_Act_Event (a' : Int × Int × Int × Int × Int × Int) : Option (TEv × Unit) :=
  chk (¬(16 : Int) = (0 : Int)) <|
  ltO (a'.fst.tmod (16 : Int)) fun (v0 : Int) =>
  chk ((0 : Int) ≤ v0 ∧ v0 < (16 : Int)) <|
  chk (v0.toNat < (16 : Nat)) <|
  chk (¬(16 : Int) = (0 : Int)) <|
  ltO (a'.snd.fst.tmod (16 : Int)) fun (v1 : Int) =>
  ltO (IntKind.u32.wrap v1) fun (v2 : Int) =>
  ltO (IntKind.u32.wrap ((167772160 : Int) + v2)) fun (v3 : Int) =>
  chk (¬(8 : Int) = (0 : Int)) <|
  ltO (a'.snd.snd.snd.snd.fst.tmod (8 : Int)) fun (v4 : Int) =>
  chk (¬(8 : Int) = (0 : Int)) <|
  ltO (a'.snd.snd.snd.snd.fst.tmod (8 : Int)) fun (v5 : Int) =>
  ltO (IntKind.u8.wrap (v5 + (1 : Int))) fun (v6 : Int) =>
  chk ((0 : Int) ≤ v4 ∧ v4 ≤ v6 ∧ v6 ≤ (8 : Int)) <|
  chk ((↑((1 : Nat) + (sliceA v4.toNat v6.toNat [(97 : UInt8), (98 : UInt8), (99 : UInt8), (100 : UInt8), (101 : UInt8), (102 : UInt8), (103 : UInt8), (104 : UInt8)]).length) : Int) ≤ (9223372036854775807 : Int)) <|
  ltO ([(111 : UInt8)] ++ sliceA v4.toNat v6.toNat [(97 : UInt8), (98 : UInt8), (99 : UInt8), (100 : UInt8), (101 : UInt8), (102 : UInt8), (103 : UInt8), (104 : UInt8)]) fun (v7 : List UInt8) =>
  bnd (terrierlaw11_Station (a'.snd.snd.snd.fst)) fun y8 =>
  chk (¬(64 : Int) = (0 : Int)) <|
  ltO (a'.snd.fst.tmod (64 : Int)) fun (v9 : Int) =>
  ltO (IntKind.u32.wrap v9) fun (v10 : Int) =>
  ltO (IntKind.u32.wrap ((167772160 : Int) + v10)) fun (v11 : Int) =>
  chk (¬(5 : Int) = (0 : Int)) <|
  ltO (a'.snd.snd.fst.tmod (5 : Int)) fun (v12 : Int) =>
  ltO (IntKind.u8.wrap ((8 : Int) + v12)) fun (v13 : Int) =>
  bnd (terrierlaw01_Block (v11) (v13)) fun y14 =>
  chk (¬(4 : Int) = (0 : Int)) <|
  ltO (a'.snd.snd.snd.snd.fst.tmod (4 : Int)) fun (v15 : Int) =>
  ltO (IntKind.i64.wrap v15) fun (v16 : Int) =>
  chk (¬(2 : Int) = (0 : Int)) <|
  ltO (IntKind.u8.wrap (a'.snd.snd.snd.fst.tdiv (2 : Int))) fun (v17 : Int) =>
  bnd (terrierlaw11_Station (v17)) fun y18 =>
  some (([(0 : Int), (0 : Int), (0 : Int), (1 : Int), (1 : Int), (2 : Int), (3 : Int), (4 : Int), (5 : Int), (5 : Int), (5 : Int), (6 : Int), (6 : Int), (7 : Int), (5 : Int), (8 : Int)].getD v0.toNat (0 : Int), (v3, v7, y8.fst), y14.fst, v16, y18.fst, (0 : Int)), ())
noncomputable def terrierlaw18_Events_b1 (k : Int) (t12 : List TMac) (t13 : Int) (t14 : Int) (out : List TEv) (a'_0 : Int) (a'_1 : Int) (a'_2 : Int) (a'_3 : Int) (a'_4 : Int) (a'_5 : Int) (e_0 : Int) (e_1 : Int) (e_2 : List UInt8) (e_3 : Int) (e_4 : Int) (e_5 : Int) (e_6 : Int) (e_7 : Int) (e_8 : Int) (e_9 : Int) (e_10 : Int) (e_11 : Int) (e_12 : Int) (e_13 : Int) (e_14 : Int) (e_15 : Int) (e_16 : Int) (e_17 : Int) (e_18 : Int) : Option ((Int × (List TMac) × Int × Int × (List TEv) × Int × Int × Int × Int × Int × Int × Int × Int × (List UInt8) × Int × Int × Int × Int × Int × Int × Int × Int × Int × Int × Int × Int × Int × Int × Int × Int × Unit) ⊕ (((List TMac) × Int × Int × (List TEv) × Unit) ⊕ ((List TEv) × Unit))) :=
  chk (¬(12 : Int) = (0 : Int)) <|
  ltO (a'_5.tmod (12 : Int)) fun (v2 : Int) =>
  ltO (IntKind.i64.wrap v2) fun (v3 : Int) =>
  chk (decide (k < v3) = true → decide (k < v3) = true) <|
  chk (decide (k < v3) = true → decide (k < v3) = true) <|
  ltO (e_0 == (0 : Int)) fun (v4 : Bool) =>
  chk (decide (k < v3) = true → decide (k < v3) = true) <|
  ltO (decide (k < v3) && v4) fun (v5 : Bool) =>
  cnd (v5) (
   chk (room (80 : Nat) (out.length + [(e_0, (e_1, e_2, e_3, e_4, e_5, e_6, e_7, e_8), (e_9, e_10), e_11, (e_12, e_13, e_14, e_15, e_16, e_17), e_18)].length)) <|
   ltO (IntKind.i64.wrap (k + (1 : Int))) fun (v6 : Int) =>
   some (.inl (v6, t12, t13, t14, out ++ [(e_0, (e_1, e_2, e_3, e_4, e_5, e_6, e_7, e_8), (e_9, e_10), e_11, (e_12, e_13, e_14, e_15, e_16, e_17), e_18)], a'_0, a'_1, a'_2, a'_3, a'_4, a'_5, e_0, e_1, e_2, e_3, e_4, e_5, e_6, e_7, e_8, e_9, e_10, e_11, e_12, e_13, e_14, e_15, e_16, e_17, e_18, ()))) (
   some (.inr (.inl (t12, t13, t14, out, ()))))
noncomputable def terrierlaw18_Events_l1 (s : Int × (List TMac) × Int × Int × (List TEv) × Int × Int × Int × Int × Int × Int × Int × Int × (List UInt8) × Int × Int × Int × Int × Int × Int × Int × Int × Int × Int × Int × Int × Int × Int × Int × Int × Unit) : Option (((List TMac) × Int × Int × (List TEv) × Unit) ⊕ ((List TEv) × Unit)) := loopM (fun s : Int × (List TMac) × Int × Int × (List TEv) × Int × Int × Int × Int × Int × Int × Int × Int × (List UInt8) × Int × Int × Int × Int × Int × Int × Int × Int × Int × Int × Int × Int × Int × Int × Int × Int × Unit => terrierlaw18_Events_b1 s.1 s.2.1 s.2.2.1 s.2.2.2.1 s.2.2.2.2.1 s.2.2.2.2.2.1 s.2.2.2.2.2.2.1 s.2.2.2.2.2.2.2.1 s.2.2.2.2.2.2.2.2.1 s.2.2.2.2.2.2.2.2.2.1 s.2.2.2.2.2.2.2.2.2.2.1 s.2.2.2.2.2.2.2.2.2.2.2.1 s.2.2.2.2.2.2.2.2.2.2.2.2.1 s.2.2.2.2.2.2.2.2.2.2.2.2.2.1 s.2.2.2.2.2.2.2.2.2.2.2.2.2.2.1 s.2.2.2.2.2.2.2.2.2.2.2.2.2.2.2.1 s.2.2.2.2.2.2.2.2.2.2.2.2.2.2.2.2.1 s.2.2.2.2.2.2.2.2.2.2.2.2.2.2.2.2.2.1 s.2.2.2.2.2.2.2.2.2.2.2.2.2.2.2.2.2.2.1 s.2.2.2.2.2.2.2.2.2.2.2.2.2.2.2.2.2.2.2.1 s.2.2.2.2.2.2.2.2.2.2.2.2.2.2.2.2.2.2.2.2.1 s.2.2.2.2.2.2.2.2.2.2.2.2.2.2.2.2.2.2.2.2.2.1 s.2.2.2.2.2.2.2.2.2.2.2.2.2.2.2.2.2.2.2.2.2.2.1 s.2.2.2.2.2.2.2.2.2.2.2.2.2.2.2.2.2.2.2.2.2.2.2.1 s.2.2.2.2.2.2.2.2.2.2.2.2.2.2.2.2.2.2.2.2.2.2.2.2.1 s.2.2.2.2.2.2.2.2.2.2.2.2.2.2.2.2.2.2.2.2.2.2.2.2.2.1 s.2.2.2.2.2.2.2.2.2.2.2.2.2.2.2.2.2.2.2.2.2.2.2.2.2.2.1 s.2.2.2.2.2.2.2.2.2.2.2.2.2.2.2.2.2.2.2.2.2.2.2.2.2.2.2.1 s.2.2.2.2.2.2.2.2.2.2.2.2.2.2.2.2.2.2.2.2.2.2.2.2.2.2.2.2.1 s.2.2.2.2.2.2.2.2.2.2.2.2.2.2.2.2.2.2.2.2.2.2.2.2.2.2.2.2.2.1) s
noncomputable def terrierlaw18_Events_b0 (t12 : List TMac) (t13 : Int) (t14 : Int) (out : List TEv) : Option (((List TMac) × Int × Int × (List TEv) × Unit) ⊕ (((List TEv) × Unit) ⊕ ((List TEv) × Unit))) :=
  cnd (decide (t14 < t13)) (
   chk ((0 : Int) ≤ t14 ∧ t14 < (↑t12.length : Int)) <|
   ltO ((Option.rec zMac (fun val => val) t12[t14.toNat]?)) fun (v0 : Int × Int × Int × Int × Int × Int) =>
   bnd (terrierlaw18_Act_Event (v0)) fun y1 =>
   chk (room (80 : Nat) (out.length + [(y1.fst)].length)) <|
   bnd (terrierlaw18_Events_l1 ((0 : Int), t12, t13, t14, out ++ [(y1.fst)], v0.fst, v0.snd.fst, v0.snd.snd.fst, v0.snd.snd.snd.fst, v0.snd.snd.snd.snd.fst, v0.snd.snd.snd.snd.snd, y1.fst.fst, y1.fst.snd.fst.fst, y1.fst.snd.fst.snd.fst, y1.fst.snd.fst.snd.snd.fst, y1.fst.snd.fst.snd.snd.snd.fst, y1.fst.snd.fst.snd.snd.snd.snd.fst, y1.fst.snd.fst.snd.snd.snd.snd.snd.fst, y1.fst.snd.fst.snd.snd.snd.snd.snd.snd.fst, y1.fst.snd.fst.snd.snd.snd.snd.snd.snd.snd, y1.fst.snd.snd.fst.fst, y1.fst.snd.snd.fst.snd, y1.fst.snd.snd.snd.fst, y1.fst.snd.snd.snd.snd.fst.fst, y1.fst.snd.snd.snd.snd.fst.snd.fst, y1.fst.snd.snd.snd.snd.fst.snd.snd.fst, y1.fst.snd.snd.snd.snd.fst.snd.snd.snd.fst, y1.fst.snd.snd.snd.snd.fst.snd.snd.snd.snd.fst, y1.fst.snd.snd.snd.snd.fst.snd.snd.snd.snd.snd, y1.fst.snd.snd.snd.snd.snd, ())) fun y7 =>
   sumO y7 (fun t8 =>
    ltO (IntKind.i64.wrap (t8.snd.snd.fst + (1 : Int))) fun (v10 : Int) =>
    some (.inl (t8.fst, t8.snd.fst, v10, t8.snd.snd.snd.fst, ()))) (fun r9 =>
    some (.inr (.inr (r9))))) (
   some (.inr (.inl (out, ()))))
noncomputable def terrierlaw18_Events_l0 (s : (List TMac) × Int × Int × (List TEv) × Unit) : Option (((List TEv) × Unit) ⊕ ((List TEv) × Unit)) := loopM (fun s : (List TMac) × Int × Int × (List TEv) × Unit => terrierlaw18_Events_b0 s.1 s.2.1 s.2.2.1 s.2.2.2.1) s
noncomputable def terrierlaw18_Events (acts : List TMac) : Option ((List TEv) × Unit) :=
  chk ((0 : Int) ≤ (0 : Int) ∧ ((0 : Int) ≤ if (60 : Int) < (↑acts.length : Int) then (60 : Int) else (↑acts.length : Int)) ∧ (if (60 : Int) < (↑acts.length : Int) then (60 : Int) else (↑acts.length : Int)) ≤ (↑acts.length : Int)) <|
  bnd (terrierlaw18_Events_l0 (sliceA (0 : Nat) (if (60 : Int) < (↑acts.length : Int) then (60 : Int) else (↑acts.length : Int)).toNat acts, (↑(sliceA (0 : Nat) (if (60 : Int) < (↑acts.length : Int) then (60 : Int) else (↑acts.length : Int)).toNat acts).length : Int), (0 : Int), [], ())) fun y11 =>
  sumO y11 (fun t12 =>
   some (t12.fst, ())) (fun r13 =>
   some (r13))
end Go.Tr
