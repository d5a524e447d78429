/- The functions that these laws reach, as Lean functions: printed by a program of this session's. Conditions: none. -/
import Derived.Test.YtdbpknejbpiebaaBD
import Derived.Test.YtdbpknejbpiebaaBE
import Derived.Test.YtdbpknejbpiebaaAddrD
import Derived.Test.YtdbpknejbpiebaaCodec1D
import Derived.Test.YtdbpknejbpiebaaSweepD
namespace Go.Tr
open Go
set_option linter.unusedVariables false
set_option maxRecDepth 100000
noncomputable def terrierlaw14_SweepOnce_b1 (ss : List TSweep) (now : Int) (a' : Int) (is' : Bool) (t39 : List Int) (t40 : Int) (t41 : Int) (t45 : List TSweep) (t46 : Int) (t47 : Int) (seen : List (Int × Bool)) : Option (((List TSweep) × Int × Int × Bool × (List Int) × Int × Int × (List TSweep) × Int × Int × (List (Int × Bool)) × Unit) ⊕ (((List TSweep) × Int × Int × Bool × (List Int) × Int × Int × (List (Int × Bool)) × Unit) ⊕ (Bool × Unit))) :=
  cnd (decide (t47 < t46)) (
   chk ((0 : Int) ≤ t47 ∧ t47 < (↑t45.length : Int)) <|
   ltO ((Option.rec zSweep (fun val => val) t45[t47.toNat]?)) fun (v7 : (Int × Int) × Int × Int) =>
   chk ((!is') = true → (!is') = true) <|
   chk ((!is') = true → (!is') = true) <|
   chk ((!is') = true → (!is') = true) <|
   bndG (!is') (addr_Has (v7.fst) (a')) (false, ()) fun y8 =>
   chk ((!is') = true → (!is') = true) <|
   chk ((!is' && y8.fst) = true → (!is' && y8.fst) = true) <|
   chk ((!is' && y8.fst) = true → (!is' && y8.fst) = true) <|
   ltO (IntKind.i64.wrap (now + (1 : Int))) fun (v9 : Int) =>
   chk ((!is' && y8.fst) = true → (!is' && y8.fst) = true) <|
   chk ((!is' && y8.fst) = true → (!is' && y8.fst) = true) <|
   chk ((!is') = true → (!is') = true) <|
   chk ((!is') = true → y8.fst = true → (!is' && y8.fst) = true) <|
   ltO (y8.fst && decide (v7.snd.fst ≤ v9)) fun (v10 : Bool) =>
   chk (is' = false → (!is') = true) <|
   ltO (is' || v10) fun (v11 : Bool) =>
   ltO (IntKind.i64.wrap (t47 + (1 : Int))) fun (v12 : Int) =>
   some (.inl (ss, now, a', v11, t39, t40, t41, t45, t46, v12, seen, ()))) (
   some (.inr (.inl (ss, now, a', is', t39, t40, t41, seen, ()))))
noncomputable def terrierlaw14_SweepOnce_l1 (s : (List TSweep) × Int × Int × Bool × (List Int) × Int × Int × (List TSweep) × Int × Int × (List (Int × Bool)) × Unit) : Option (((List TSweep) × Int × Int × Bool × (List Int) × Int × Int × (List (Int × Bool)) × Unit) ⊕ (Bool × Unit)) := loopM (fun s : (List TSweep) × Int × Int × Bool × (List Int) × Int × Int × (List TSweep) × Int × Int × (List (Int × Bool)) × Unit => terrierlaw14_SweepOnce_b1 s.1 s.2.1 s.2.2.1 s.2.2.2.1 s.2.2.2.2.1 s.2.2.2.2.2.1 s.2.2.2.2.2.2.1 s.2.2.2.2.2.2.2.1 s.2.2.2.2.2.2.2.2.1 s.2.2.2.2.2.2.2.2.2.1 s.2.2.2.2.2.2.2.2.2.2.1) s
noncomputable def terrierlaw14_SweepOnce_b0 (ss : List TSweep) (now : Int) (t39 : List Int) (t40 : Int) (t41 : Int) (seen : List (Int × Bool)) : Option (((List TSweep) × Int × (List Int) × Int × Int × (List (Int × Bool)) × Unit) ⊕ (Unit ⊕ (Bool × Unit))) :=
  cnd (decide (t41 < t40)) (
   chk ((0 : Int) ≤ t41 ∧ t41 < (↑t39.length : Int)) <|
   ltO (t39.getD t41.toNat (0 : Int)) fun (v6 : Int) =>
   bnd (terrierlaw14_SweepOnce_l1 (ss, now, v6, false, t39, t40, t41, ss, (↑ss.length : Int), (0 : Int), seen, ())) fun y13 =>
   sumO y13 (fun t14 =>
    chk ((!lkZ t14.snd.snd.snd.snd.snd.snd.snd.fst t14.snd.snd.fst false) = true → (!lkZ t14.snd.snd.snd.snd.snd.snd.snd.fst t14.snd.snd.fst false) = true) <|
    chk (lkZ t14.snd.snd.snd.snd.snd.snd.snd.fst t14.snd.snd.fst false = false → (!lkZ t14.snd.snd.snd.snd.snd.snd.snd.fst t14.snd.snd.fst false) = true) <|
    ltO (lkZ t14.snd.snd.snd.snd.snd.snd.snd.fst t14.snd.snd.fst false || !t14.snd.snd.snd.fst) fun (v16 : Bool) =>
    cnd (v16) (
     some (.inr (.inr (false, ())))) (
     ltO (IntKind.i64.wrap (t14.snd.snd.snd.snd.snd.snd.fst + (1 : Int))) fun (v17 : Int) =>
     some (.inl (t14.fst, t14.snd.fst, t14.snd.snd.snd.snd.fst, t14.snd.snd.snd.snd.snd.fst, v17, updZ t14.snd.snd.snd.snd.snd.snd.snd.fst t14.snd.snd.fst true, ())))) (fun r15 =>
    some (.inr (.inr (r15))))) (
   some (.inr (.inl ())))
noncomputable def terrierlaw14_SweepOnce_l0 (s : (List TSweep) × Int × (List Int) × Int × Int × (List (Int × Bool)) × Unit) : Option (Unit ⊕ (Bool × Unit)) := loopM (fun s : (List TSweep) × Int × (List Int) × Int × Int × (List (Int × Bool)) × Unit => terrierlaw14_SweepOnce_b0 s.1 s.2.1 s.2.2.1 s.2.2.2.1 s.2.2.2.2.1 s.2.2.2.2.2.1) s
noncomputable def terrierlaw14_SweepOnce (x : Int × Int × Int × Int × Int × Int × Int × Int × Int) (acts : List (Int × Int × Int)) (room : Int) : Option (Bool × Unit) :=
  bnd (terrierlaw14_awake) fun y0 =>
  cnd (!y0.fst) (
   some (false, ())) (
   bnd (terrierlaw10_Choice_Config (x)) fun y1 =>
   bnd (terrierlaw14_Some (y1.fst) (acts)) fun y2 =>
   ltO (IntKind.i64.wrap (y2.fst + (1 : Int))) fun (v3 : Int) =>
   ltO (IntKind.i64.wrap room) fun (v4 : Int) =>
   bnd (sweep_Plan (y1.fst) (y2.snd.fst) (v3) (v4)) fun y5 =>
   bnd (terrierlaw14_SweepOnce_l0 (y2.snd.fst, y2.fst, y5.fst, (↑y5.fst.length : Int), (0 : Int), [], ())) fun y18 =>
   sumO y18 (fun t19 =>
    some (true, ())) (fun r20 =>
    some (r20)))
end Go.Tr
