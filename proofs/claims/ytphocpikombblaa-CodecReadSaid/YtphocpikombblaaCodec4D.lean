/- The functions that these laws reach, as Lean functions: printed by a program of this session's. Conditions: none. -/
import Derived.Test.YtphocpikombblaaBD
import Derived.Test.YtphocpikombblaaBE
import Derived.Test.YtphocpikombblaaAddrD
import Derived.Test.YtphocpikombblaaCodec1D
import Derived.Test.YtphocpikombblaaMacD
namespace Go.Tr
open Go
set_option linter.unusedVariables false
set_option maxRecDepth 100000
noncomputable def terrierlaw19_CodecRead_b0 (at' : Int) (by' : Int) (t24 : Int) (t25 : Int) (all : List (List Int)) (x : List TEv) : Option ((Int × Int × Int × Int × (List (List Int)) × (List TEv) × Unit) ⊕ (((List (List Int)) × Unit) ⊕ (Bool × Unit))) :=
  cnd (decide (t25 < t24)) (
   chk ((0 : Int) ≤ t25 ∧ t25 < (↑x.length : Int)) <|
   chk (t25.toNat < x.length) <|
   bnd (codec_Event (((x.getD t25.toNat zEv).fst, ((x.getD t25.toNat zEv).snd.fst.fst, (x.getD t25.toNat zEv).snd.fst.snd.fst, (x.getD t25.toNat zEv).snd.fst.snd.snd.fst, (x.getD t25.toNat zEv).snd.fst.snd.snd.snd.fst, (x.getD t25.toNat zEv).snd.fst.snd.snd.snd.snd.fst, (x.getD t25.toNat zEv).snd.fst.snd.snd.snd.snd.snd.fst, (x.getD t25.toNat zEv).snd.fst.snd.snd.snd.snd.snd.snd.fst, (x.getD t25.toNat zEv).snd.fst.snd.snd.snd.snd.snd.snd.snd), ((x.getD t25.toNat zEv).snd.snd.fst.fst, (x.getD t25.toNat zEv).snd.snd.fst.snd), (x.getD t25.toNat zEv).snd.snd.snd.fst, ((x.getD t25.toNat zEv).snd.snd.snd.snd.fst.fst, (x.getD t25.toNat zEv).snd.snd.snd.snd.fst.snd.fst, (x.getD t25.toNat zEv).snd.snd.snd.snd.fst.snd.snd.fst, (x.getD t25.toNat zEv).snd.snd.snd.snd.fst.snd.snd.snd.fst, (x.getD t25.toNat zEv).snd.snd.snd.snd.fst.snd.snd.snd.snd.fst, (x.getD t25.toNat zEv).snd.snd.snd.snd.fst.snd.snd.snd.snd.snd), (x.getD t25.toNat zEv).snd.snd.snd.snd.snd))) fun y2 =>
   ltO ((↑y2.fst.length : Int) == (0 : Int)) fun (v3 : Bool) =>
   cnd (v3) (
    some (.inr (.inr (false, ())))) (
    chk (room (1 : Nat) y2.fst.length) <|
    ltO (IntKind.i64.wrap at') fun (v4 : Int) =>
    chk (¬(↑y2.fst.length : Int) = (0 : Int)) <|
    ltO (v4.tmod (↑y2.fst.length : Int)) fun (v5 : Int) =>
    chk ((0 : Int) ≤ v5 ∧ v5 < (↑y2.fst.length : Int)) <|
    chk (v5.toNat < y2.fst.length) <|
    ltO (IntKind.u8.wrap (bxorI IntKind.u8 (y2.fst.getD v5.toNat (0 : Int)) by')) fun (v6 : Int) =>
    chk ((0 : Int) ≤ v5 ∧ v5 < (↑y2.fst.length : Int)) <|
    chk (v5.toNat < y2.fst.length) <|
    ltO (IntKind.i64.wrap at') fun (v7 : Int) =>
    chk (¬(↑y2.fst.length : Int) = (0 : Int)) <|
    ltO (v7.tmod (↑y2.fst.length : Int)) fun (v8 : Int) =>
    chk ((0 : Int) ≤ (0 : Int) ∧ (0 : Int) ≤ v8 ∧ v8 ≤ (↑y2.fst.length : Int)) <|
    chk (room (1 : Nat) y2.fst.length) <|
    chk (room (1 : Nat) (y2.fst.length + [by'].length)) <|
    chk (room (24 : Nat) (all.length + [y2.fst.set v5.toNat v6, sliceA (0 : Nat) v8.toNat y2.fst, y2.fst ++ [by']].length)) <|
    ltO (IntKind.i64.wrap (t25 + (1 : Int))) fun (v9 : Int) =>
    some (.inl (at', by', t24, v9, all ++ [y2.fst.set v5.toNat v6, sliceA (0 : Nat) v8.toNat y2.fst, y2.fst ++ [by']], x, ())))) (
   some (.inr (.inl (all, ()))))
noncomputable def terrierlaw19_CodecRead_l0 (s : Int × Int × Int × Int × (List (List Int)) × (List TEv) × Unit) : Option (((List (List Int)) × Unit) ⊕ (Bool × Unit)) := loopM (fun s : Int × Int × Int × Int × (List (List Int)) × (List TEv) × Unit => terrierlaw19_CodecRead_b0 s.1 s.2.1 s.2.2.1 s.2.2.2.1 s.2.2.2.2.1 s.2.2.2.2.2.1) s
noncomputable def terrierlaw19_CodecRead_b1 (t65 : Int) (t66 : Int) (x : List (List Int)) : Option ((Int × Int × (List (List Int)) × Unit) ⊕ (Unit ⊕ (Bool × Unit))) :=
  cnd (decide (t66 < t65)) (
   chk ((0 : Int) ≤ t66 ∧ t66 < (↑x.length : Int)) <|
   chk (t66.toNat < x.length) <|
   bnd (codec_ReadEvent (x.getD t66.toNat [])) fun y13 =>
   chk (y13.snd.fst = true → y13.snd.fst = true) <|
   bndG (y13.snd.fst) (terrierlaw19_event (y13.fst)) ([], ()) fun y14 =>
   chk (y13.snd.fst = true → y13.snd.fst = true) <|
   ltO (toBytes (x.getD t66.toNat [])) fun (v15 : List UInt8) =>
   chk (y13.snd.fst = true → y13.snd.fst = true) <|
   chk (y13.snd.fst = true → y13.snd.fst = true) <|
   ltO (!y14.fst == v15) fun (v16 : Bool) =>
   chk (y13.snd.fst = true → y13.snd.fst = true) <|
   chk ((y13.snd.fst && !v16) = true → (y13.snd.fst && !v16) = true) <|
   bndG (y13.snd.fst && !v16) (terrierlaw19_may (y13.fst)) (false, ()) fun y17 =>
   chk ((y13.snd.fst && !v16) = true → (y13.snd.fst && !v16) = true) <|
   chk (y13.snd.fst = true → y13.snd.fst = true) <|
   chk (y13.snd.fst = true → v16 = false → (y13.snd.fst && !v16) = true) <|
   ltO (v16 || !y17.fst) fun (v18 : Bool) =>
   chk (y13.snd.fst = true → y13.snd.fst = true) <|
   ltO (y13.snd.fst && v18) fun (v19 : Bool) =>
   chk ((!v19) = true → (!v19) = true) <|
   chk ((!v19) = true → (!v19) = true) <|
   chk ((!v19 && !y13.snd.fst) = true → (!v19 && !y13.snd.fst) = true) <|
   chk ((!v19 && !y13.snd.fst) = true → (!v19 && !y13.snd.fst) = true) <|
   ltO (!(y13.fst.fst == (0 : Int) && (y13.fst.snd.fst.fst == (0 : Int) && (y13.fst.snd.fst.snd.fst == [] && (y13.fst.snd.fst.snd.snd.fst == (0 : Int) && (y13.fst.snd.fst.snd.snd.snd.fst == (0 : Int) && (y13.fst.snd.fst.snd.snd.snd.snd.fst == (0 : Int) && (y13.fst.snd.fst.snd.snd.snd.snd.snd.fst == (0 : Int) && (y13.fst.snd.fst.snd.snd.snd.snd.snd.snd.fst == (0 : Int) && y13.fst.snd.fst.snd.snd.snd.snd.snd.snd.snd == (0 : Int))))))) && (y13.fst.snd.snd.fst.fst == (0 : Int) && y13.fst.snd.snd.fst.snd == (0 : Int) && (y13.fst.snd.snd.snd.fst == (0 : Int) && (y13.fst.snd.snd.snd.snd.fst.fst == (0 : Int) && (y13.fst.snd.snd.snd.snd.fst.snd.fst == (0 : Int) && (y13.fst.snd.snd.snd.snd.fst.snd.snd.fst == (0 : Int) && (y13.fst.snd.snd.snd.snd.fst.snd.snd.snd.fst == (0 : Int) && (y13.fst.snd.snd.snd.snd.fst.snd.snd.snd.snd.fst == (0 : Int) && y13.fst.snd.snd.snd.snd.fst.snd.snd.snd.snd.snd == (0 : Int))))) && y13.fst.snd.snd.snd.snd.snd == (0 : Int))))))) fun (v20 : Bool) =>
   chk ((!v19) = true → (!v19) = true) <|
   chk ((!v19) = true → (!y13.snd.fst) = true → (!v19 && !y13.snd.fst) = true) <|
   ltO (!y13.snd.fst && v20) fun (v21 : Bool) =>
   chk (v19 = false → (!v19) = true) <|
   ltO (v19 || v21) fun (v22 : Bool) =>
   cnd (v22) (
    some (.inr (.inr (false, ())))) (
    ltO (IntKind.i64.wrap (t66 + (1 : Int))) fun (v23 : Int) =>
    some (.inl (t65, v23, x, ())))) (
   some (.inr (.inl ())))
noncomputable def terrierlaw19_CodecRead_l1 (s : Int × Int × (List (List Int)) × Unit) : Option (Unit ⊕ (Bool × Unit)) := loopM (fun s : Int × Int × (List (List Int)) × Unit => terrierlaw19_CodecRead_b1 s.1 s.2.1 s.2.2.1) s
noncomputable def terrierlaw19_CodecRead (b : List Int) (acts : List TMac) (at' : Int) (by' : Int) : Option (Bool × Unit) :=
  bnd (terrierlaw19_awake) fun y0 =>
  cnd (!y0.fst) (
   some (false, ())) (
   bnd (terrierlaw18_Events (acts)) fun y1 =>
   bnd (terrierlaw19_CodecRead_l0 (at', by', (↑y1.fst.length : Int), (0 : Int), [b], y1.fst, ())) fun y10 =>
   sumO y10 (fun t11 =>
    bnd (terrierlaw19_CodecRead_l1 ((↑t11.fst.length : Int), (0 : Int), t11.fst, ())) fun y24 =>
    sumO y24 (fun t25 =>
     some (true, ())) (fun r26 =>
     some (r26))) (fun r12 =>
    some (r12)))
end Go.Tr
