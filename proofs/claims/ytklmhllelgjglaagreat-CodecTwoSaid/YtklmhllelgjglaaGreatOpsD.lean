/- The functions that these laws reach, as Lean functions: printed by a program of this session's. Conditions: none. -/
import Derived.Test.YtklmhllelgjglaaGreatBD
import Derived.Test.YtklmhllelgjglaaGreatBE
import Derived.Test.YtklmhllelgjglaaGreatAddrD
import Derived.Test.YtklmhllelgjglaaGreatCodec1D
import Derived.Test.YtklmhllelgjglaaGreatCodec2D
import Derived.Test.YtklmhllelgjglaaGreatMacD
import Derived.Test.YtklmhllelgjglaaGreatSweepD
import Derived.Test.YtklmhllelgjglaaGreatSweep2D
namespace Go.Tr
open Go
set_option linter.unusedVariables false
set_option maxRecDepth 100000
noncomputable def slices_Clone_Case (xs : List (Int × Int × Int × Int)) : Option (List (Int × Int × Int × Int) × Unit) :=
  clone 32 xs
noncomputable def clock_Since (now : Int) (t : Int) : Option (Int × Unit) :=
  bnd (clock_Clamp (now)) fun y0 =>
  bnd (clock_Clamp (t)) fun y1 =>
  ltO (IntKind.i64.wrap (y0.fst - y1.fst)) fun (v2 : Int) =>
  some (v2, ())
noncomputable def cases_Tick_b0 (now : Int) (t13 : Int) (t14 : Int) (f : Int × Int × Int × Int × Int × Int × Int × Int × Int) (out : List (Int × Int × Int × Int)) : Option ((Int × Int × Int × TCfg × (List (Int × Int × Int × Int)) × Unit) ⊕ (((List (Int × Int × Int × Int)) × Unit) ⊕ ((List (Int × Int × Int × Int)) × Unit))) :=
  cnd (decide (t14 < t13)) (
   chk ((0 : Int) ≤ t14 ∧ t14 < (↑out.length : Int)) <|
   chk (t14.toNat < out.length) <|
   ltO ((out.getD t14.toNat ((0 : Int), (0 : Int), (0 : Int), (0 : Int))).snd.snd.snd == (0 : Int)) fun (v1 : Bool) =>
   chk (v1 = true → v1 = true) <|
   chk (v1 = true → v1 = true) <|
   chk (v1 = true → v1 = true) <|
   bndG (v1) (clock_Since (now) ((out.getD t14.toNat ((0 : Int), (0 : Int), (0 : Int), (0 : Int))).snd.fst)) ((0 : Int), ()) fun y2 =>
   chk (v1 = true → v1 = true) <|
   chk (v1 = true → v1 = true) <|
   chk (v1 = true → v1 = true) <|
   chk (v1 = true → v1 = true) <|
   ltO (v1 && decide (y2.fst ≥ f.snd.snd.snd.snd.snd.snd.snd.fst)) fun (v3 : Bool) =>
   cnd (v3) (
    bnd (clock_Clamp (now)) fun y4 =>
    chk ((0 : Int) ≤ t14 ∧ t14 < (↑out.length : Int)) <|
    chk (t14.toNat < out.length) <|
    chk ((0 : Int) ≤ t14 ∧ t14 < (↑(out.set t14.toNat ((out.getD t14.toNat ((0 : Int), (0 : Int), (0 : Int), (0 : Int))).fst, (out.getD t14.toNat ((0 : Int), (0 : Int), (0 : Int), (0 : Int))).snd.fst, (out.getD t14.toNat ((0 : Int), (0 : Int), (0 : Int), (0 : Int))).snd.snd.fst, (3 : Int))).length : Int)) <|
    chk (t14.toNat < (out.set t14.toNat ((out.getD t14.toNat ((0 : Int), (0 : Int), (0 : Int), (0 : Int))).fst, (out.getD t14.toNat ((0 : Int), (0 : Int), (0 : Int), (0 : Int))).snd.fst, (out.getD t14.toNat ((0 : Int), (0 : Int), (0 : Int), (0 : Int))).snd.snd.fst, (3 : Int))).length) <|
    ltO (IntKind.i64.wrap (t14 + (1 : Int))) fun (v5 : Int) =>
    some (.inl (now, t13, v5, f, (out.set t14.toNat ((out.getD t14.toNat ((0 : Int), (0 : Int), (0 : Int), (0 : Int))).fst, (out.getD t14.toNat ((0 : Int), (0 : Int), (0 : Int), (0 : Int))).snd.fst, (out.getD t14.toNat ((0 : Int), (0 : Int), (0 : Int), (0 : Int))).snd.snd.fst, (3 : Int))).set t14.toNat (((out.set t14.toNat ((out.getD t14.toNat ((0 : Int), (0 : Int), (0 : Int), (0 : Int))).fst, (out.getD t14.toNat ((0 : Int), (0 : Int), (0 : Int), (0 : Int))).snd.fst, (out.getD t14.toNat ((0 : Int), (0 : Int), (0 : Int), (0 : Int))).snd.snd.fst, (3 : Int))).getD t14.toNat ((0 : Int), (0 : Int), (0 : Int), (0 : Int))).fst, ((out.set t14.toNat ((out.getD t14.toNat ((0 : Int), (0 : Int), (0 : Int), (0 : Int))).fst, (out.getD t14.toNat ((0 : Int), (0 : Int), (0 : Int), (0 : Int))).snd.fst, (out.getD t14.toNat ((0 : Int), (0 : Int), (0 : Int), (0 : Int))).snd.snd.fst, (3 : Int))).getD t14.toNat ((0 : Int), (0 : Int), (0 : Int), (0 : Int))).snd.fst, y4.fst, ((out.set t14.toNat ((out.getD t14.toNat ((0 : Int), (0 : Int), (0 : Int), (0 : Int))).fst, (out.getD t14.toNat ((0 : Int), (0 : Int), (0 : Int), (0 : Int))).snd.fst, (out.getD t14.toNat ((0 : Int), (0 : Int), (0 : Int), (0 : Int))).snd.snd.fst, (3 : Int))).getD t14.toNat ((0 : Int), (0 : Int), (0 : Int), (0 : Int))).snd.snd.snd), ()))) (
    ltO (IntKind.i64.wrap (t14 + (1 : Int))) fun (v6 : Int) =>
    some (.inl (now, t13, v6, f, out, ())))) (
   some (.inr (.inl (out, ()))))
noncomputable def cases_Tick_l0 (s : Int × Int × Int × TCfg × (List (Int × Int × Int × Int)) × Unit) : Option (((List (Int × Int × Int × Int)) × Unit) ⊕ ((List (Int × Int × Int × Int)) × Unit)) := loopM (fun s : Int × Int × Int × TCfg × (List (Int × Int × Int × Int)) × Unit => cases_Tick_b0 s.1 s.2.1 s.2.2.1 s.2.2.2.1 s.2.2.2.2.1) s
noncomputable def cases_Tick (f : Int × Int × Int × Int × Int × Int × Int × Int × Int) (cs : List (Int × Int × Int × Int)) (now : Int) : Option ((List (Int × Int × Int × Int)) × Unit) :=
  bnd (slices_Clone_Case (cs)) fun y0 =>
  bnd (cases_Tick_l0 (now, (↑y0.fst.length : Int), (0 : Int), f, y0.fst, ())) fun y7 =>
  sumO y7 (fun t8 =>
   some (t8.fst, ())) (fun r9 =>
   some (r9))
noncomputable def held_find_1 (k : Int) (t1 : List THold) (t2 : Int) : Option (Bool × Unit) :=
  chk ((0 : Int) ≤ k ∧ k < (↑(List.length t1) : Int)) <|
  ltO ((Option.rec zHold (fun val => val) t1[k.toNat]?)) fun (v0 : Int × (List UInt8) × Int × Int × Int × Int × Int × Int) =>
  some (decide (v0.fst ≥ t2), ())
noncomputable def sort_Search_b0 (fc_0 : List THold) (fc_1 : Int) (i : Int) (j : Int) : Option (((List THold) × Int × Int × Int × Unit) ⊕ ((Int × Unit) ⊕ (Int × Unit))) :=
  cnd (decide (i < j)) (
   ltO (IntKind.i64.wrap (i + j)) fun (v0 : Int) =>
   ltO (IntKind.u64.wrap v0) fun (v1 : Int) =>
   chk ((0 : Int) ≤ (1 : Int)) <|
   ltO (shrI IntKind.u64 v1 (1 : Int)) fun (v2 : Int) =>
   ltO (IntKind.i64.wrap v2) fun (v3 : Int) =>
   bnd (held_find_1 (v3) (fc_0) (fc_1)) fun y4 =>
   cnd (!y4.fst) (
    ltO (IntKind.i64.wrap (v3 + (1 : Int))) fun (v5 : Int) =>
    some (.inl (fc_0, fc_1, v5, j, ()))) (
    some (.inl (fc_0, fc_1, i, v3, ())))) (
   some (.inr (.inl (i, ()))))
noncomputable def sort_Search_l0 (s : (List THold) × Int × Int × Int × Unit) : Option ((Int × Unit) ⊕ (Int × Unit)) := loopM (fun s : (List THold) × Int × Int × Int × Unit => sort_Search_b0 s.1 s.2.1 s.2.2.1 s.2.2.2.1) s
noncomputable def sort_Search (n : Int) (fc_0 : List THold) (fc_1 : Int) : Option (Int × Unit) :=
  bnd (sort_Search_l0 (fc_0, fc_1, (0 : Int), n, ())) fun y6 =>
  sumO y6 (fun t7 =>
   some (t7.fst, ())) (fun r8 =>
   some (r8))
noncomputable def held_find (hs : List THold) (a' : Int) : Option (Int × Bool × Unit) :=
  bnd (sort_Search ((↑hs.length : Int)) (hs) (a')) fun y0 =>
  chk (decide (y0.fst < (↑hs.length : Int)) = true → decide (y0.fst < (↑hs.length : Int)) = true) <|
  chk (decide (y0.fst < (↑hs.length : Int)) = true → decide (y0.fst < (↑hs.length : Int)) = true) <|
  chk (decide (y0.fst < (↑hs.length : Int)) = true → (0 : Int) ≤ y0.fst ∧ y0.fst < (↑hs.length : Int)) <|
  ltO ((Option.rec zHold (fun val => val) hs[y0.fst.toNat]?)) fun (v1 : Int × (List UInt8) × Int × Int × Int × Int × Int × Int) =>
  chk (decide (y0.fst < (↑hs.length : Int)) = true → decide (y0.fst < (↑hs.length : Int)) = true) <|
  chk (decide (y0.fst < (↑hs.length : Int)) = true → decide (y0.fst < (↑hs.length : Int)) = true) <|
  chk (decide (y0.fst < (↑hs.length : Int)) = true → decide (y0.fst < (↑hs.length : Int)) = true) <|
  chk (decide (y0.fst < (↑hs.length : Int)) = true → decide (y0.fst < (↑hs.length : Int)) = true) <|
  ltO (v1.fst == a') fun (v2 : Bool) =>
  chk (decide (y0.fst < (↑hs.length : Int)) = true → decide (y0.fst < (↑hs.length : Int)) = true) <|
  ltO (decide (y0.fst < (↑hs.length : Int)) && v2) fun (v3 : Bool) =>
  some (y0.fst, v3, ())
noncomputable def held_Get (hs : List THold) (a' : Int) : Option (THold × Bool × Unit) :=
  bnd (held_find (hs) (a')) fun y0 =>
  cnd (y0.snd.fst) (
   chk ((0 : Int) ≤ y0.fst ∧ y0.fst < (↑hs.length : Int)) <|
   ltO ((Option.rec zHold (fun val => val) hs[y0.fst.toNat]?)) fun (v1 : Int × (List UInt8) × Int × Int × Int × Int × Int × Int) =>
   some (v1, true, ())) (
   some (zHold, false, ()))
noncomputable def seen_find_1 (k : Int) (t1 : List (Int × List TSight)) (t2 : Int) : Option (Bool × Unit) :=
  chk ((0 : Int) ≤ k ∧ k < (↑(List.length t1) : Int)) <|
  ltO ((Option.rec ((0 : Int), []) (fun val => val) t1[k.toNat]?)) fun (v0 : Int × List TSight) =>
  some (decide (v0.fst ≥ t2), ())
noncomputable def sort_Search_v1_b0 (fc_0 : List (Int × List TSight)) (fc_1 : Int) (i : Int) (j : Int) : Option (((List (Int × List TSight)) × Int × Int × Int × Unit) ⊕ ((Int × Unit) ⊕ (Int × Unit))) :=
  cnd (decide (i < j)) (
   ltO (IntKind.i64.wrap (i + j)) fun (v0 : Int) =>
   ltO (IntKind.u64.wrap v0) fun (v1 : Int) =>
   chk ((0 : Int) ≤ (1 : Int)) <|
   ltO (shrI IntKind.u64 v1 (1 : Int)) fun (v2 : Int) =>
   ltO (IntKind.i64.wrap v2) fun (v3 : Int) =>
   bnd (seen_find_1 (v3) (fc_0) (fc_1)) fun y4 =>
   cnd (!y4.fst) (
    ltO (IntKind.i64.wrap (v3 + (1 : Int))) fun (v5 : Int) =>
    some (.inl (fc_0, fc_1, v5, j, ()))) (
    some (.inl (fc_0, fc_1, i, v3, ())))) (
   some (.inr (.inl (i, ()))))
noncomputable def sort_Search_v1_l0 (s : (List (Int × List TSight)) × Int × Int × Int × Unit) : Option ((Int × Unit) ⊕ (Int × Unit)) := loopM (fun s : (List (Int × List TSight)) × Int × Int × Int × Unit => sort_Search_v1_b0 s.1 s.2.1 s.2.2.1 s.2.2.2.1) s
noncomputable def sort_Search_v1 (n : Int) (fc_0 : List (Int × List TSight)) (fc_1 : Int) : Option (Int × Unit) :=
  bnd (sort_Search_v1_l0 (fc_0, fc_1, (0 : Int), n, ())) fun y6 =>
  sumO y6 (fun t7 =>
   some (t7.fst, ())) (fun r8 =>
   some (r8))
noncomputable def seen_find (ks : List (Int × List TSight)) (a' : Int) : Option (Int × Bool × Unit) :=
  bnd (sort_Search_v1 ((↑ks.length : Int)) (ks) (a')) fun y0 =>
  chk (decide (y0.fst < (↑ks.length : Int)) = true → decide (y0.fst < (↑ks.length : Int)) = true) <|
  chk (decide (y0.fst < (↑ks.length : Int)) = true → decide (y0.fst < (↑ks.length : Int)) = true) <|
  chk (decide (y0.fst < (↑ks.length : Int)) = true → (0 : Int) ≤ y0.fst ∧ y0.fst < (↑ks.length : Int)) <|
  ltO ((Option.rec ((0 : Int), []) (fun val => val) ks[y0.fst.toNat]?)) fun (v1 : Int × List TSight) =>
  chk (decide (y0.fst < (↑ks.length : Int)) = true → decide (y0.fst < (↑ks.length : Int)) = true) <|
  chk (decide (y0.fst < (↑ks.length : Int)) = true → decide (y0.fst < (↑ks.length : Int)) = true) <|
  chk (decide (y0.fst < (↑ks.length : Int)) = true → decide (y0.fst < (↑ks.length : Int)) = true) <|
  chk (decide (y0.fst < (↑ks.length : Int)) = true → decide (y0.fst < (↑ks.length : Int)) = true) <|
  ltO (v1.fst == a') fun (v2 : Bool) =>
  chk (decide (y0.fst < (↑ks.length : Int)) = true → decide (y0.fst < (↑ks.length : Int)) = true) <|
  ltO (decide (y0.fst < (↑ks.length : Int)) && v2) fun (v3 : Bool) =>
  some (y0.fst, v3, ())
noncomputable def seen_Of (ks : List (Int × List TSight)) (a' : Int) : Option ((List TSight) × Unit) :=
  bnd (seen_find (ks) (a')) fun y0 =>
  cnd (y0.snd.fst) (
   chk ((0 : Int) ≤ y0.fst ∧ y0.fst < (↑ks.length : Int)) <|
   ltO ((Option.rec ((0 : Int), []) (fun val => val) ks[y0.fst.toNat]?)) fun (v1 : Int × List TSight) =>
   chk (room (24 : Nat) v1.snd.length) <|
   some (v1.snd, ())) (
   some ([], ()))
noncomputable def clock_Within (now : Int) (t : Int) (n : Int) : Option (Bool × Unit) :=
  bnd (clock_Since (now) (t)) fun y0 =>
  chk (decide (y0.fst ≥ (0 : Int)) = true → decide (y0.fst ≥ (0 : Int)) = true) <|
  chk (decide (y0.fst ≥ (0 : Int)) = true → decide (y0.fst ≥ (0 : Int)) = true) <|
  bndG (decide (y0.fst ≥ (0 : Int))) (clock_Since (now) (t)) ((0 : Int), ()) fun y1 =>
  chk (decide (y0.fst ≥ (0 : Int)) = true → decide (y0.fst ≥ (0 : Int)) = true) <|
  chk (decide (y0.fst ≥ (0 : Int)) = true → decide (y0.fst ≥ (0 : Int)) = true) <|
  chk (decide (y0.fst ≥ (0 : Int)) = true → decide (y0.fst ≥ (0 : Int)) = true) <|
  ltO (decide (y0.fst ≥ (0 : Int)) && decide (y1.fst < n)) fun (v2 : Bool) =>
  some (v2, ())
noncomputable def status_fresh_b0 (now : Int) (t19 : List TSight) (t20 : Int) (t21 : Int) (out : List TSight) (c : Int × Int × Int × Int × Int × Int × Int × Int × Int) : Option ((Int × (List TSight) × Int × Int × (List TSight) × TCfg × Unit) ⊕ (((List TSight) × Unit) ⊕ ((List TSight) × Unit))) :=
  cnd (decide (t21 < t20)) (
   chk ((0 : Int) ≤ t21 ∧ t21 < (↑t19.length : Int)) <|
   ltO ((Option.rec zSight (fun val => val) t19[t21.toNat]?)) fun (v2 : Int × TMac × Int) =>
   bnd (clock_Within (now) (v2.snd.snd) (c.fst)) fun y3 =>
   cnd (y3.fst) (
    chk (room (24 : Nat) (out.length + [(v2)].length)) <|
    ltO (IntKind.i64.wrap (t21 + (1 : Int))) fun (v4 : Int) =>
    some (.inl (now, t19, t20, v4, out ++ [(v2)], c, ()))) (
    ltO (IntKind.i64.wrap (t21 + (1 : Int))) fun (v5 : Int) =>
    some (.inl (now, t19, t20, v5, out, c, ())))) (
   some (.inr (.inl (out, ()))))
noncomputable def status_fresh_l0 (s : Int × (List TSight) × Int × Int × (List TSight) × TCfg × Unit) : Option (((List TSight) × Unit) ⊕ ((List TSight) × Unit)) := loopM (fun s : Int × (List TSight) × Int × Int × (List TSight) × TCfg × Unit => status_fresh_b0 s.1 s.2.1 s.2.2.1 s.2.2.2.1 s.2.2.2.2.1 s.2.2.2.2.2.1) s
noncomputable def status_fresh (c : Int × Int × Int × Int × Int × Int × Int × Int × Int) (ss : List TSight) (now : Int) : Option ((List TSight) × Unit) :=
  ltO (IntKind.i64.wrap ((↑ss.length : Int) - if c.snd.snd.fst > (0 : Int) then c.snd.snd.fst else (0 : Int))) fun (v0 : Int) =>
  ltO (IntKind.i64.wrap (v0 - (1 : Int))) fun (v1 : Int) =>
  chk (((0 : Int) ≤ if v1 > (0 : Int) then v1 else (0 : Int)) ∧ (if v1 > (0 : Int) then v1 else (0 : Int)) ≤ (↑ss.length : Int) ∧ (↑ss.length : Int) ≤ (↑ss.length : Int)) <|
  bnd (status_fresh_l0 (now, sliceA (if v1 > (0 : Int) then v1 else (0 : Int)).toNat (↑ss.length : Int).toNat ss, (↑(sliceA (if v1 > (0 : Int) then v1 else (0 : Int)).toNat (↑ss.length : Int).toNat ss).length : Int), (0 : Int), [], c, ())) fun y6 =>
  sumO y6 (fun t7 =>
   some (t7.fst, ())) (fun r8 =>
   some (r8))
noncomputable def status_apart_b0 (t6 : List TSight) (t7 : Int) (t8 : Int) (first_0 : Int) (first_1 : Int) (first_2 : Int) (first_3 : Int) (first_4 : Int) (first_5 : Int) : Option (((List TSight) × Int × Int × Int × Int × Int × Int × Int × Int × Unit) ⊕ (Unit ⊕ (Bool × Unit))) :=
  cnd (decide (t8 < t7)) (
   chk ((0 : Int) ≤ t8 ∧ t8 < (↑t6.length : Int)) <|
   ltO ((Option.rec zSight (fun val => val) t6[t8.toNat]?)) fun (v0 : Int × TMac × Int) =>
   bnd (mac_None (v0.snd.fst)) fun y1 =>
   cnd (y1.fst) (
    ltO (IntKind.i64.wrap (t8 + (1 : Int))) fun (v2 : Int) =>
    some (.inl (t6, t7, v2, first_0, first_1, first_2, first_3, first_4, first_5, ()))) (
    bnd (mac_None ((first_0, first_1, first_2, first_3, first_4, first_5))) fun y3 =>
    cnd (y3.fst) (
     ltO (IntKind.i64.wrap (t8 + (1 : Int))) fun (v4 : Int) =>
     some (.inl (t6, t7, v4, v0.snd.fst.fst, v0.snd.fst.snd.fst, v0.snd.fst.snd.snd.fst, v0.snd.fst.snd.snd.snd.fst, v0.snd.fst.snd.snd.snd.snd.fst, v0.snd.fst.snd.snd.snd.snd.snd, ()))) (
     ltO (!(first_0 == v0.snd.fst.fst && (first_1 == v0.snd.fst.snd.fst && (first_2 == v0.snd.fst.snd.snd.fst && (first_3 == v0.snd.fst.snd.snd.snd.fst && (first_4 == v0.snd.fst.snd.snd.snd.snd.fst && first_5 == v0.snd.fst.snd.snd.snd.snd.snd)))))) fun (v5 : Bool) =>
     cnd (v5) (
      some (.inr (.inr (true, ())))) (
      ltO (IntKind.i64.wrap (t8 + (1 : Int))) fun (v6 : Int) =>
      some (.inl (t6, t7, v6, first_0, first_1, first_2, first_3, first_4, first_5, ())))))) (
   some (.inr (.inl ())))
noncomputable def status_apart_l0 (s : (List TSight) × Int × Int × Int × Int × Int × Int × Int × Int × Unit) : Option (Unit ⊕ (Bool × Unit)) := loopM (fun s : (List TSight) × Int × Int × Int × Int × Int × Int × Int × Int × Unit => status_apart_b0 s.1 s.2.1 s.2.2.1 s.2.2.2.1 s.2.2.2.2.1 s.2.2.2.2.2.1 s.2.2.2.2.2.2.1 s.2.2.2.2.2.2.2.1 s.2.2.2.2.2.2.2.2.1) s
noncomputable def status_apart (ss : List TSight) : Option (Bool × Unit) :=
  bnd (status_apart_l0 (ss, (↑ss.length : Int), (0 : Int), (0 : Int), (0 : Int), (0 : Int), (0 : Int), (0 : Int), (0 : Int), ())) fun y7 =>
  sumO y7 (fun t8 =>
   some (false, ())) (fun r9 =>
   some (r9))
noncomputable def status_foreign_b0 (t7 : List TSight) (t8 : Int) (t9 : Int) (h_0 : Int) (h_1 : List UInt8) (h_2 : Int) (h_3 : Int) (h_4 : Int) (h_5 : Int) (h_6 : Int) (h_7 : Int) : Option (((List TSight) × Int × Int × Int × (List UInt8) × Int × Int × Int × Int × Int × Int × Unit) ⊕ (Unit ⊕ (Bool × Unit))) :=
  cnd (decide (t9 < t8)) (
   chk ((0 : Int) ≤ t9 ∧ t9 < (↑t7.length : Int)) <|
   ltO ((Option.rec zSight (fun val => val) t7[t9.toNat]?)) fun (v0 : Int × TMac × Int) =>
   bnd (mac_None (v0.snd.fst)) fun y1 =>
   chk ((!y1.fst) = true → (!y1.fst) = true) <|
   chk ((!y1.fst) = true → (!y1.fst) = true) <|
   bndG (!y1.fst) (mac_None ((h_2, h_3, h_4, h_5, h_6, h_7))) (false, ()) fun y2 =>
   chk ((!y1.fst) = true → (!y1.fst) = true) <|
   chk ((!y1.fst) = true → (!y1.fst) = true) <|
   ltO (!y1.fst && !y2.fst) fun (v3 : Bool) =>
   chk (v3 = true → v3 = true) <|
   chk (v3 = true → v3 = true) <|
   chk (v3 = true → v3 = true) <|
   chk (v3 = true → v3 = true) <|
   ltO (!(v0.snd.fst.fst == h_2 && (v0.snd.fst.snd.fst == h_3 && (v0.snd.fst.snd.snd.fst == h_4 && (v0.snd.fst.snd.snd.snd.fst == h_5 && (v0.snd.fst.snd.snd.snd.snd.fst == h_6 && v0.snd.fst.snd.snd.snd.snd.snd == h_7)))))) fun (v4 : Bool) =>
   chk (v3 = true → v3 = true) <|
   ltO (v3 && v4) fun (v5 : Bool) =>
   cnd (v5) (
    some (.inr (.inr (true, ())))) (
    ltO (IntKind.i64.wrap (t9 + (1 : Int))) fun (v6 : Int) =>
    some (.inl (t7, t8, v6, h_0, h_1, h_2, h_3, h_4, h_5, h_6, h_7, ())))) (
   some (.inr (.inl ())))
noncomputable def status_foreign_l0 (s : (List TSight) × Int × Int × Int × (List UInt8) × Int × Int × Int × Int × Int × Int × Unit) : Option (Unit ⊕ (Bool × Unit)) := loopM (fun s : (List TSight) × Int × Int × Int × (List UInt8) × Int × Int × Int × Int × Int × Int × Unit => status_foreign_b0 s.1 s.2.1 s.2.2.1 s.2.2.2.1 s.2.2.2.2.1 s.2.2.2.2.2.1 s.2.2.2.2.2.2.1 s.2.2.2.2.2.2.2.1 s.2.2.2.2.2.2.2.2.1 s.2.2.2.2.2.2.2.2.2.1 s.2.2.2.2.2.2.2.2.2.2.1) s
noncomputable def status_foreign (h : Int × (List UInt8) × Int × Int × Int × Int × Int × Int) (ss : List TSight) : Option (Bool × Unit) :=
  bnd (status_foreign_l0 (ss, (↑ss.length : Int), (0 : Int), h.fst, h.snd.fst, h.snd.snd.fst, h.snd.snd.snd.fst, h.snd.snd.snd.snd.fst, h.snd.snd.snd.snd.snd.fst, h.snd.snd.snd.snd.snd.snd.fst, h.snd.snd.snd.snd.snd.snd.snd, ())) fun y7 =>
  sumO y7 (fun t8 =>
   some (false, ())) (fun r9 =>
   some (r9))
noncomputable def status_Of (c : Int × Int × Int × Int × Int × Int × Int × Int × Int) (h : Int × (List UInt8) × Int × Int × Int × Int × Int × Int) (ss : List TSight) (now : Int) : Option (Int × Unit) :=
  bnd (status_fresh (c) (ss) (now)) fun y0 =>
  bnd (status_apart (y0.fst)) fun y1 =>
  cnd (y1.fst) (
   some ((5 : Int), ())) (
   ltO (false) fun (v2 : Bool) =>
   chk (v2 = true → v2 = true) <|
   chk (v2 = true → v2 = true) <|
   chk (v2 = true → v2 = true) <|
   ltO (v2 && decide ((↑y0.fst.length : Int) > (0 : Int))) fun (v3 : Bool) =>
   cnd (v3) (
    some ((4 : Int), ())) (
    ltO (!false) fun (v4 : Bool) =>
    chk (v4 = true → v4 = true) <|
    chk (v4 = true → v4 = true) <|
    chk (v4 = true → v4 = true) <|
    chk (v4 = true → v4 = true) <|
    bndG (v4) (status_foreign (h) (y0.fst)) (false, ()) fun y5 =>
    chk (v4 = true → v4 = true) <|
    ltO (v4 && y5.fst) fun (v6 : Bool) =>
    cnd (v6) (
     some ((4 : Int), ())) (
     ltO (false) fun (v7 : Bool) =>
     cnd (v7) (
      some ((0 : Int), ())) (
      cnd (decide ((↑y0.fst.length : Int) ≥ c.snd.snd.fst)) (
       some ((2 : Int), ())) (
       chk (decide ((↑ss.length : Int) > (0 : Int)) = true → decide ((↑ss.length : Int) > (0 : Int)) = true) <|
       chk (decide ((↑ss.length : Int) > (0 : Int)) = true → decide ((↑ss.length : Int) > (0 : Int)) = true) <|
       ltO (IntKind.i64.wrap ((↑ss.length : Int) - (1 : Int))) fun (v8 : Int) =>
       chk (decide ((↑ss.length : Int) > (0 : Int)) = true → decide ((↑ss.length : Int) > (0 : Int)) = true) <|
       chk (decide ((↑ss.length : Int) > (0 : Int)) = true → decide ((↑ss.length : Int) > (0 : Int)) = true) <|
       chk (decide ((↑ss.length : Int) > (0 : Int)) = true → (0 : Int) ≤ v8 ∧ v8 < (↑ss.length : Int)) <|
       ltO ((Option.rec zSight (fun val => val) ss[v8.toNat]?)) fun (v9 : Int × TMac × Int) =>
       chk (decide ((↑ss.length : Int) > (0 : Int)) = true → decide ((↑ss.length : Int) > (0 : Int)) = true) <|
       chk (decide ((↑ss.length : Int) > (0 : Int)) = true → decide ((↑ss.length : Int) > (0 : Int)) = true) <|
       chk (decide ((↑ss.length : Int) > (0 : Int)) = true → decide ((↑ss.length : Int) > (0 : Int)) = true) <|
       chk (decide ((↑ss.length : Int) > (0 : Int)) = true → decide ((↑ss.length : Int) > (0 : Int)) = true) <|
       chk (decide ((↑ss.length : Int) > (0 : Int)) = true → decide ((↑ss.length : Int) > (0 : Int)) = true) <|
       chk (decide ((↑ss.length : Int) > (0 : Int)) = true → decide ((↑ss.length : Int) > (0 : Int)) = true) <|
       bndG (decide ((↑ss.length : Int) > (0 : Int))) (clock_Within (now) (v9.snd.snd) (c.snd.fst)) (false, ()) fun y10 =>
       chk (decide ((↑ss.length : Int) > (0 : Int)) = true → decide ((↑ss.length : Int) > (0 : Int)) = true) <|
       chk (decide ((↑ss.length : Int) > (0 : Int)) = true → decide ((↑ss.length : Int) > (0 : Int)) = true) <|
       ltO (decide ((↑ss.length : Int) > (0 : Int)) && !y10.fst) fun (v11 : Bool) =>
       cnd (v11) (
        some ((3 : Int), ())) (
        some ((1 : Int), ())))))))
noncomputable def status_Of_v1 (c : Int × Int × Int × Int × Int × Int × Int × Int × Int) (ss : List TSight) (now : Int) : Option (Int × Unit) :=
  bnd (status_fresh (c) (ss) (now)) fun y0 =>
  bnd (status_apart (y0.fst)) fun y1 =>
  cnd (y1.fst) (
   some ((5 : Int), ())) (
   ltO (true) fun (v2 : Bool) =>
   chk (v2 = true → v2 = true) <|
   chk (v2 = true → v2 = true) <|
   chk (v2 = true → v2 = true) <|
   ltO (v2 && decide ((↑y0.fst.length : Int) > (0 : Int))) fun (v3 : Bool) =>
   cnd (v3) (
    some ((4 : Int), ())) (
    ltO (!true) fun (v4 : Bool) =>
    chk (v4 = true → False) <|
    chk (v4 = true → False) <|
    chk (v4 = true → v4 = true) <|
    chk (v4 = true → v4 = true) <|
    bndG (v4) (status_foreign (zHold) (y0.fst)) (false, ()) fun y5 =>
    chk (v4 = true → v4 = true) <|
    ltO (v4 && y5.fst) fun (v6 : Bool) =>
    cnd (v6) (
     some ((4 : Int), ())) (
     ltO (true) fun (v7 : Bool) =>
     cnd (v7) (
      some ((0 : Int), ())) (
      cnd (decide ((↑y0.fst.length : Int) ≥ c.snd.snd.fst)) (
       some ((2 : Int), ())) (
       chk (decide ((↑ss.length : Int) > (0 : Int)) = true → decide ((↑ss.length : Int) > (0 : Int)) = true) <|
       chk (decide ((↑ss.length : Int) > (0 : Int)) = true → decide ((↑ss.length : Int) > (0 : Int)) = true) <|
       ltO (IntKind.i64.wrap ((↑ss.length : Int) - (1 : Int))) fun (v8 : Int) =>
       chk (decide ((↑ss.length : Int) > (0 : Int)) = true → decide ((↑ss.length : Int) > (0 : Int)) = true) <|
       chk (decide ((↑ss.length : Int) > (0 : Int)) = true → decide ((↑ss.length : Int) > (0 : Int)) = true) <|
       chk (decide ((↑ss.length : Int) > (0 : Int)) = true → (0 : Int) ≤ v8 ∧ v8 < (↑ss.length : Int)) <|
       ltO ((Option.rec zSight (fun val => val) ss[v8.toNat]?)) fun (v9 : Int × TMac × Int) =>
       chk (decide ((↑ss.length : Int) > (0 : Int)) = true → decide ((↑ss.length : Int) > (0 : Int)) = true) <|
       chk (decide ((↑ss.length : Int) > (0 : Int)) = true → decide ((↑ss.length : Int) > (0 : Int)) = true) <|
       chk (decide ((↑ss.length : Int) > (0 : Int)) = true → decide ((↑ss.length : Int) > (0 : Int)) = true) <|
       chk (decide ((↑ss.length : Int) > (0 : Int)) = true → decide ((↑ss.length : Int) > (0 : Int)) = true) <|
       chk (decide ((↑ss.length : Int) > (0 : Int)) = true → decide ((↑ss.length : Int) > (0 : Int)) = true) <|
       chk (decide ((↑ss.length : Int) > (0 : Int)) = true → decide ((↑ss.length : Int) > (0 : Int)) = true) <|
       bndG (decide ((↑ss.length : Int) > (0 : Int))) (clock_Within (now) (v9.snd.snd) (c.snd.fst)) (false, ()) fun y10 =>
       chk (decide ((↑ss.length : Int) > (0 : Int)) = true → decide ((↑ss.length : Int) > (0 : Int)) = true) <|
       chk (decide ((↑ss.length : Int) > (0 : Int)) = true → decide ((↑ss.length : Int) > (0 : Int)) = true) <|
       ltO (decide ((↑ss.length : Int) > (0 : Int)) && !y10.fst) fun (v11 : Bool) =>
       cnd (v11) (
        some ((3 : Int), ())) (
        some ((1 : Int), ())))))))
noncomputable def ops_Status (c : Int × Int × Int × Int × Int × Int × Int × Int × Int) (s' : Int × Int × (List THold) × (List TSweep) × (List (Int × List TSight)) × (List TProbe) × List (Int × Int × Int × Int)) (a' : Int) : Option (Int × Unit) :=
  bnd (held_Get (s'.snd.snd.fst) (a')) fun y0 =>
  cnd (y0.snd.fst) (
   bnd (seen_Of (s'.snd.snd.snd.snd.fst) (a')) fun y1 =>
   bnd (status_Of (c) (y0.fst) (y1.fst) (s'.fst)) fun y2 =>
   some (y2.fst, ())) (
   bnd (seen_Of (s'.snd.snd.snd.snd.fst) (a')) fun y3 =>
   bnd (status_Of_v1 (c) (y3.fst) (s'.fst)) fun y4 =>
   some (y4.fst, ()))
noncomputable def cases_next (cs : List (Int × Int × Int × Int)) (a' : Int) (from' : Int) (to' : Int) (now : Int) : Option (Int × (List (Int × Int × Int × Int)) × Unit) :=
  bnd (cases_Find (cs) (a')) fun y0 =>
  cnd (decide (y0.fst < (0 : Int))) (
   some ((7 : Int), [], ())) (
   chk ((0 : Int) ≤ y0.fst ∧ y0.fst < (↑cs.length : Int)) <|
   ltO ((Option.rec ((0 : Int), (0 : Int), (0 : Int), (0 : Int)) (fun val => val) cs[y0.fst.toNat]?)) fun (v1 : Int × Int × Int × Int) =>
   ltO (v1.snd.snd.snd != from') fun (v2 : Bool) =>
   cnd (v2) (
    some ((8 : Int), [], ())) (
    bnd (slices_Clone_Case (cs)) fun y3 =>
    chk ((0 : Int) ≤ y0.fst ∧ y0.fst < (↑y3.fst.length : Int)) <|
    chk (y0.fst.toNat < y3.fst.length) <|
    chk ((0 : Int) ≤ y0.fst ∧ y0.fst < (↑(y3.fst.set y0.fst.toNat ((y3.fst.getD y0.fst.toNat ((0 : Int), (0 : Int), (0 : Int), (0 : Int))).fst, (y3.fst.getD y0.fst.toNat ((0 : Int), (0 : Int), (0 : Int), (0 : Int))).snd.fst, (y3.fst.getD y0.fst.toNat ((0 : Int), (0 : Int), (0 : Int), (0 : Int))).snd.snd.fst, to')).length : Int)) <|
    chk (y0.fst.toNat < (y3.fst.set y0.fst.toNat ((y3.fst.getD y0.fst.toNat ((0 : Int), (0 : Int), (0 : Int), (0 : Int))).fst, (y3.fst.getD y0.fst.toNat ((0 : Int), (0 : Int), (0 : Int), (0 : Int))).snd.fst, (y3.fst.getD y0.fst.toNat ((0 : Int), (0 : Int), (0 : Int), (0 : Int))).snd.snd.fst, to')).length) <|
    bnd (cases_Open ((((y3.fst.set y0.fst.toNat ((y3.fst.getD y0.fst.toNat ((0 : Int), (0 : Int), (0 : Int), (0 : Int))).fst, (y3.fst.getD y0.fst.toNat ((0 : Int), (0 : Int), (0 : Int), (0 : Int))).snd.fst, (y3.fst.getD y0.fst.toNat ((0 : Int), (0 : Int), (0 : Int), (0 : Int))).snd.snd.fst, to')).getD y0.fst.toNat ((0 : Int), (0 : Int), (0 : Int), (0 : Int))).fst, ((y3.fst.set y0.fst.toNat ((y3.fst.getD y0.fst.toNat ((0 : Int), (0 : Int), (0 : Int), (0 : Int))).fst, (y3.fst.getD y0.fst.toNat ((0 : Int), (0 : Int), (0 : Int), (0 : Int))).snd.fst, (y3.fst.getD y0.fst.toNat ((0 : Int), (0 : Int), (0 : Int), (0 : Int))).snd.snd.fst, to')).getD y0.fst.toNat ((0 : Int), (0 : Int), (0 : Int), (0 : Int))).snd.fst, ((y3.fst.set y0.fst.toNat ((y3.fst.getD y0.fst.toNat ((0 : Int), (0 : Int), (0 : Int), (0 : Int))).fst, (y3.fst.getD y0.fst.toNat ((0 : Int), (0 : Int), (0 : Int), (0 : Int))).snd.fst, (y3.fst.getD y0.fst.toNat ((0 : Int), (0 : Int), (0 : Int), (0 : Int))).snd.snd.fst, to')).getD y0.fst.toNat ((0 : Int), (0 : Int), (0 : Int), (0 : Int))).snd.snd.fst, ((y3.fst.set y0.fst.toNat ((y3.fst.getD y0.fst.toNat ((0 : Int), (0 : Int), (0 : Int), (0 : Int))).fst, (y3.fst.getD y0.fst.toNat ((0 : Int), (0 : Int), (0 : Int), (0 : Int))).snd.fst, (y3.fst.getD y0.fst.toNat ((0 : Int), (0 : Int), (0 : Int), (0 : Int))).snd.snd.fst, to')).getD y0.fst.toNat ((0 : Int), (0 : Int), (0 : Int), (0 : Int))).snd.snd.snd))) fun y4 =>
    cnd (!y4.fst) (
     bnd (clock_Clamp (now)) fun y5 =>
     chk ((0 : Int) ≤ y0.fst ∧ y0.fst < (↑(y3.fst.set y0.fst.toNat ((y3.fst.getD y0.fst.toNat ((0 : Int), (0 : Int), (0 : Int), (0 : Int))).fst, (y3.fst.getD y0.fst.toNat ((0 : Int), (0 : Int), (0 : Int), (0 : Int))).snd.fst, (y3.fst.getD y0.fst.toNat ((0 : Int), (0 : Int), (0 : Int), (0 : Int))).snd.snd.fst, to')).length : Int)) <|
     chk (y0.fst.toNat < (y3.fst.set y0.fst.toNat ((y3.fst.getD y0.fst.toNat ((0 : Int), (0 : Int), (0 : Int), (0 : Int))).fst, (y3.fst.getD y0.fst.toNat ((0 : Int), (0 : Int), (0 : Int), (0 : Int))).snd.fst, (y3.fst.getD y0.fst.toNat ((0 : Int), (0 : Int), (0 : Int), (0 : Int))).snd.snd.fst, to')).length) <|
     some ((0 : Int), (y3.fst.set y0.fst.toNat ((y3.fst.getD y0.fst.toNat ((0 : Int), (0 : Int), (0 : Int), (0 : Int))).fst, (y3.fst.getD y0.fst.toNat ((0 : Int), (0 : Int), (0 : Int), (0 : Int))).snd.fst, (y3.fst.getD y0.fst.toNat ((0 : Int), (0 : Int), (0 : Int), (0 : Int))).snd.snd.fst, to')).set y0.fst.toNat (((y3.fst.set y0.fst.toNat ((y3.fst.getD y0.fst.toNat ((0 : Int), (0 : Int), (0 : Int), (0 : Int))).fst, (y3.fst.getD y0.fst.toNat ((0 : Int), (0 : Int), (0 : Int), (0 : Int))).snd.fst, (y3.fst.getD y0.fst.toNat ((0 : Int), (0 : Int), (0 : Int), (0 : Int))).snd.snd.fst, to')).getD y0.fst.toNat ((0 : Int), (0 : Int), (0 : Int), (0 : Int))).fst, ((y3.fst.set y0.fst.toNat ((y3.fst.getD y0.fst.toNat ((0 : Int), (0 : Int), (0 : Int), (0 : Int))).fst, (y3.fst.getD y0.fst.toNat ((0 : Int), (0 : Int), (0 : Int), (0 : Int))).snd.fst, (y3.fst.getD y0.fst.toNat ((0 : Int), (0 : Int), (0 : Int), (0 : Int))).snd.snd.fst, to')).getD y0.fst.toNat ((0 : Int), (0 : Int), (0 : Int), (0 : Int))).snd.fst, y5.fst, ((y3.fst.set y0.fst.toNat ((y3.fst.getD y0.fst.toNat ((0 : Int), (0 : Int), (0 : Int), (0 : Int))).fst, (y3.fst.getD y0.fst.toNat ((0 : Int), (0 : Int), (0 : Int), (0 : Int))).snd.fst, (y3.fst.getD y0.fst.toNat ((0 : Int), (0 : Int), (0 : Int), (0 : Int))).snd.snd.fst, to')).getD y0.fst.toNat ((0 : Int), (0 : Int), (0 : Int), (0 : Int))).snd.snd.snd), ())) (
     some ((0 : Int), y3.fst.set y0.fst.toNat ((y3.fst.getD y0.fst.toNat ((0 : Int), (0 : Int), (0 : Int), (0 : Int))).fst, (y3.fst.getD y0.fst.toNat ((0 : Int), (0 : Int), (0 : Int), (0 : Int))).snd.fst, (y3.fst.getD y0.fst.toNat ((0 : Int), (0 : Int), (0 : Int), (0 : Int))).snd.snd.fst, to'), ()))))
noncomputable def cases_Cancel (cs : List (Int × Int × Int × Int)) (a' : Int) (now : Int) : Option (Int × (List (Int × Int × Int × Int)) × Unit) :=
  bnd (cases_Find (cs) (a')) fun y0 =>
  cnd (decide (y0.fst < (0 : Int))) (
   some ((7 : Int), [], ())) (
   chk ((0 : Int) ≤ y0.fst ∧ y0.fst < (↑cs.length : Int)) <|
   ltO ((Option.rec ((0 : Int), (0 : Int), (0 : Int), (0 : Int)) (fun val => val) cs[y0.fst.toNat]?)) fun (v1 : Int × Int × Int × Int) =>
   bnd (cases_next (cs) (a') (v1.snd.snd.snd) ((4 : Int)) (now)) fun y2 =>
   some (y2.fst, y2.snd.fst, ()))
noncomputable def cases_Done (cs : List (Int × Int × Int × Int)) (a' : Int) (now : Int) : Option (Int × (List (Int × Int × Int × Int)) × Unit) :=
  bnd (cases_next (cs) (a') ((1 : Int)) ((5 : Int)) (now)) fun y0 =>
  some (y0.fst, y0.snd.fst, ())
noncomputable def held_Take (hs : List THold) (a' : Int) : Option (Int × (List THold) × Unit) :=
  bnd (held_find (hs) (a')) fun y0 =>
  cnd (!y0.snd.fst) (
   some ((7 : Int), [], ())) (
   chk ((0 : Int) ≤ (0 : Int) ∧ (0 : Int) ≤ y0.fst ∧ y0.fst ≤ (↑hs.length : Int)) <|
   chk (room (32 : Nat) (sliceA (0 : Nat) y0.fst.toNat hs).length) <|
   ltO (IntKind.i64.wrap (y0.fst + (1 : Int))) fun (v1 : Int) =>
   chk ((0 : Int) ≤ v1 ∧ v1 ≤ (↑hs.length : Int) ∧ (↑hs.length : Int) ≤ (↑hs.length : Int)) <|
   chk (room (32 : Nat) ((sliceA (0 : Nat) y0.fst.toNat hs).length + (sliceA v1.toNat (↑hs.length : Int).toNat hs).length)) <|
   some ((0 : Int), sliceA (0 : Nat) y0.fst.toNat hs ++ sliceA v1.toNat (↑hs.length : Int).toNat hs, ()))
noncomputable def ops_execute_b0 (t8 : List (Int × Int × Int × Int)) (t9 : Int) (t10 : Int) (c : Int × Int × Int × Int × Int × Int × Int × Int × Int) (s' : Int × Int × (List THold) × (List TSweep) × (List (Int × List TSight)) × (List TProbe) × List (Int × Int × Int × Int)) (x : Int × Int × (List THold) × (List TSweep) × (List (Int × List TSight)) × (List TProbe) × List (Int × Int × Int × Int)) : Option (((List (Int × Int × Int × Int)) × Int × Int × TCfg × (Int × Int × (List THold) × (List TSweep) × (List (Int × List TSight)) × (List TProbe) × List (Int × Int × Int × Int)) × (Int × Int × (List THold) × (List TSweep) × (List (Int × List TSight)) × (List TProbe) × List (Int × Int × Int × Int)) × Unit) ⊕ (((Int × Int × (List THold) × (List TSweep) × (List (Int × List TSight)) × (List TProbe) × List (Int × Int × Int × Int)) × (Int × Int × (List THold) × (List TSweep) × (List (Int × List TSight)) × (List TProbe) × List (Int × Int × Int × Int)) × Unit) ⊕ ((Int × Int × (List THold) × (List TSweep) × (List (Int × List TSight)) × (List TProbe) × List (Int × Int × Int × Int)) × Unit))) :=
  cnd (decide (t10 < t9)) (
   chk ((0 : Int) ≤ t10 ∧ t10 < (↑t8.length : Int)) <|
   ltO ((Option.rec ((0 : Int), (0 : Int), (0 : Int), (0 : Int)) (fun val => val) t8[t10.toNat]?)) fun (v0 : Int × Int × Int × Int) =>
   ltO (v0.snd.snd.snd != (1 : Int)) fun (v1 : Bool) =>
   cnd (v1) (
    ltO (IntKind.i64.wrap (t10 + (1 : Int))) fun (v2 : Int) =>
    some (.inl (t8, t9, v2, c, s', x, ()))) (
    bnd (ops_Status (c) (s') (v0.fst)) fun y3 =>
    ltO (y3.fst != (3 : Int)) fun (v4 : Bool) =>
    cnd (v4) (
     bnd (cases_Cancel (s'.snd.snd.snd.snd.snd.snd) (v0.fst) (s'.fst)) fun y5 =>
     ltO (IntKind.i64.wrap (t10 + (1 : Int))) fun (v6 : Int) =>
     some (.inl (t8, t9, v6, c, (s'.fst, s'.snd.fst, s'.snd.snd.fst, s'.snd.snd.snd.fst, s'.snd.snd.snd.snd.fst, s'.snd.snd.snd.snd.snd.fst, y5.snd.fst), x, ()))) (
     bnd (cases_Done (s'.snd.snd.snd.snd.snd.snd) (v0.fst) (s'.fst)) fun y7 =>
     bnd (held_Take (s'.snd.snd.fst) (v0.fst)) fun y8 =>
     ltO (IntKind.i64.wrap (t10 + (1 : Int))) fun (v9 : Int) =>
     some (.inl (t8, t9, v9, c, (s'.fst, s'.snd.fst, y8.snd.fst, s'.snd.snd.snd.fst, s'.snd.snd.snd.snd.fst, s'.snd.snd.snd.snd.snd.fst, y7.snd.fst), x, ()))))) (
   some (.inr (.inl (s', x, ()))))
noncomputable def ops_execute_l0 (s : (List (Int × Int × Int × Int)) × Int × Int × TCfg × (Int × Int × (List THold) × (List TSweep) × (List (Int × List TSight)) × (List TProbe) × List (Int × Int × Int × Int)) × (Int × Int × (List THold) × (List TSweep) × (List (Int × List TSight)) × (List TProbe) × List (Int × Int × Int × Int)) × Unit) : Option (((Int × Int × (List THold) × (List TSweep) × (List (Int × List TSight)) × (List TProbe) × List (Int × Int × Int × Int)) × (Int × Int × (List THold) × (List TSweep) × (List (Int × List TSight)) × (List TProbe) × List (Int × Int × Int × Int)) × Unit) ⊕ ((Int × Int × (List THold) × (List TSweep) × (List (Int × List TSight)) × (List TProbe) × List (Int × Int × Int × Int)) × Unit)) := loopM (fun s : (List (Int × Int × Int × Int)) × Int × Int × TCfg × (Int × Int × (List THold) × (List TSweep) × (List (Int × List TSight)) × (List TProbe) × List (Int × Int × Int × Int)) × (Int × Int × (List THold) × (List TSweep) × (List (Int × List TSight)) × (List TProbe) × List (Int × Int × Int × Int)) × Unit => ops_execute_b0 s.1 s.2.1 s.2.2.1 s.2.2.2.1 s.2.2.2.2.1 s.2.2.2.2.2.1) s
noncomputable def ops_execute (c : Int × Int × Int × Int × Int × Int × Int × Int × Int) (s' : Int × Int × (List THold) × (List TSweep) × (List (Int × List TSight)) × (List TProbe) × List (Int × Int × Int × Int)) : Option ((Int × Int × (List THold) × (List TSweep) × (List (Int × List TSight)) × (List TProbe) × List (Int × Int × Int × Int)) × Unit) :=
  bnd (ops_execute_l0 (s'.snd.snd.snd.snd.snd.snd, (↑s'.snd.snd.snd.snd.snd.snd.length : Int), (0 : Int), c, s', ((0 : Int), (0 : Int), [], [], [], [], []), ())) fun y10 =>
  sumO y10 (fun t11 =>
   some (t11.fst, ())) (fun r12 =>
   some (r12))
noncomputable def cases_quiet_1 (c : Int × Int × Int × Int) (t1 : Int) (t2 : Int) (t3 : Int × Int × Int × Int × Int × Int × Int × Int × Int) : Option (Bool × Unit) :=
  ltO (c.fst == t1) fun (v0 : Bool) =>
  chk (v0 = true → v0 = true) <|
  chk (v0 = true → v0 = true) <|
  ltO (c.snd.snd.snd == (2 : Int)) fun (v1 : Bool) =>
  chk (v0 = true → v0 = true) <|
  ltO (v0 && v1) fun (v2 : Bool) =>
  chk (v2 = true → v2 = true) <|
  chk (v2 = true → v2 = true) <|
  chk (v2 = true → v2 = true) <|
  chk (v2 = true → v2 = true) <|
  chk (v2 = true → v2 = true) <|
  bndG (v2) (clock_Within (t2) (c.snd.snd.fst) (t3.snd.snd.snd.snd.snd.snd.snd.snd)) (false, ()) fun y3 =>
  chk (v2 = true → v2 = true) <|
  ltO (v2 && y3.fst) fun (v4 : Bool) =>
  some (v4, ())
noncomputable def slices_IndexFunc_v1_w2_b0 (s' : List (Int × Int × Int × Int)) (fc_0 : Int) (fc_1 : Int) (fc_2 : Int × Int × Int × Int × Int × Int × Int × Int × Int) (t7 : Int) (t8 : Int) : Option (((List (Int × Int × Int × Int)) × Int × Int × TCfg × Int × Int × Unit) ⊕ (Unit ⊕ (Int × Unit))) :=
  cnd (decide (t8 < t7)) (
   chk ((0 : Int) ≤ t8 ∧ t8 < (↑s'.length : Int)) <|
   ltO ((Option.rec ((0 : Int), (0 : Int), (0 : Int), (0 : Int)) (fun val => val) s'[t8.toNat]?)) fun (v0 : Int × Int × Int × Int) =>
   bnd (cases_quiet_1 (v0) (fc_0) (fc_1) (fc_2)) fun y1 =>
   cnd (y1.fst) (
    some (.inr (.inr (t8, ())))) (
    ltO (IntKind.i64.wrap (t8 + (1 : Int))) fun (v2 : Int) =>
    some (.inl (s', fc_0, fc_1, fc_2, t7, v2, ())))) (
   some (.inr (.inl ())))
noncomputable def slices_IndexFunc_v1_w2_l0 (s : (List (Int × Int × Int × Int)) × Int × Int × TCfg × Int × Int × Unit) : Option (Unit ⊕ (Int × Unit)) := loopM (fun s : (List (Int × Int × Int × Int)) × Int × Int × TCfg × Int × Int × Unit => slices_IndexFunc_v1_w2_b0 s.1 s.2.1 s.2.2.1 s.2.2.2.1 s.2.2.2.2.1 s.2.2.2.2.2.1) s
noncomputable def slices_IndexFunc_v1_w2 (s' : List (Int × Int × Int × Int)) (fc_0 : Int) (fc_1 : Int) (fc_2 : Int × Int × Int × Int × Int × Int × Int × Int × Int) : Option (Int × Unit) :=
  bnd (slices_IndexFunc_v1_w2_l0 (s', fc_0, fc_1, fc_2, (↑s'.length : Int), (0 : Int), ())) fun y3 =>
  sumO y3 (fun t4 =>
   some ((-1 : Int), ())) (fun r5 =>
   some (r5))
noncomputable def slices_ContainsFunc_w2 (s' : List (Int × Int × Int × Int)) (fc_0 : Int) (fc_1 : Int) (fc_2 : Int × Int × Int × Int × Int × Int × Int × Int × Int) : Option (Bool × Unit) :=
  bnd (slices_IndexFunc_v1_w2 (s') (fc_0) (fc_1) (fc_2)) fun y0 =>
  some (decide (y0.fst ≥ (0 : Int)), ())
noncomputable def cases_quiet (f : Int × Int × Int × Int × Int × Int × Int × Int × Int) (cs : List (Int × Int × Int × Int)) (a' : Int) (now : Int) : Option (Bool × Unit) :=
  bnd (slices_ContainsFunc_w2 (cs) (a') (now) (f)) fun y0 =>
  some (y0.fst, ())
noncomputable def cases_spare_b0 (cs : List (Int × Int × Int × Int)) (now : Int) (at' : Int) (t10 : List (Int × Int × Int × Int)) (t11 : Int) (t12 : Int) (f : Int × Int × Int × Int × Int × Int × Int × Int × Int) : Option (((List (Int × Int × Int × Int)) × Int × Int × (List (Int × Int × Int × Int)) × Int × Int × TCfg × Unit) ⊕ ((Int × Unit) ⊕ (Int × Unit))) :=
  cnd (decide (t12 < t11)) (
   chk ((0 : Int) ≤ t12 ∧ t12 < (↑t10.length : Int)) <|
   ltO ((Option.rec ((0 : Int), (0 : Int), (0 : Int), (0 : Int)) (fun val => val) t10[t12.toNat]?)) fun (v0 : Int × Int × Int × Int) =>
   bnd (cases_Open (v0)) fun y1 =>
   chk ((!y1.fst) = true → (!y1.fst) = true) <|
   chk ((!y1.fst) = true → (!y1.fst) = true) <|
   ltO (v0.snd.snd.snd == (2 : Int)) fun (v2 : Bool) =>
   chk ((!y1.fst) = true → (!y1.fst) = true) <|
   chk ((!y1.fst && v2) = true → (!y1.fst && v2) = true) <|
   chk ((!y1.fst && v2) = true → (!y1.fst && v2) = true) <|
   chk ((!y1.fst && v2) = true → (!y1.fst && v2) = true) <|
   chk ((!y1.fst && v2) = true → (!y1.fst && v2) = true) <|
   chk ((!y1.fst && v2) = true → (!y1.fst && v2) = true) <|
   bndG (!y1.fst && v2) (clock_Within (now) (v0.snd.snd.fst) (f.snd.snd.snd.snd.snd.snd.snd.snd)) (false, ()) fun y3 =>
   chk ((!y1.fst) = true → (!y1.fst) = true) <|
   chk ((!y1.fst) = true → v2 = true → (!y1.fst && v2) = true) <|
   ltO (v2 && y3.fst) fun (v4 : Bool) =>
   chk (y1.fst = false → (!y1.fst) = true) <|
   ltO (y1.fst || v4) fun (v5 : Bool) =>
   cnd (v5) (
    ltO (IntKind.i64.wrap (t12 + (1 : Int))) fun (v6 : Int) =>
    some (.inl (cs, now, at', t10, t11, v6, f, ()))) (
    chk ((!decide (at' < (0 : Int))) = true → (!decide (at' < (0 : Int))) = true) <|
    chk ((!decide (at' < (0 : Int))) = true → (!decide (at' < (0 : Int))) = true) <|
    chk ((!decide (at' < (0 : Int))) = true → (!decide (at' < (0 : Int))) = true) <|
    chk ((!decide (at' < (0 : Int))) = true → (0 : Int) ≤ at' ∧ at' < (↑cs.length : Int)) <|
    ltO ((Option.rec ((0 : Int), (0 : Int), (0 : Int), (0 : Int)) (fun val => val) cs[at'.toNat]?)) fun (v7 : Int × Int × Int × Int) =>
    chk ((!decide (at' < (0 : Int))) = true → (!decide (at' < (0 : Int))) = true) <|
    chk ((!decide (at' < (0 : Int))) = true → (!decide (at' < (0 : Int))) = true) <|
    chk ((!decide (at' < (0 : Int))) = true → (!decide (at' < (0 : Int))) = true) <|
    chk ((!decide (at' < (0 : Int))) = true → (!decide (at' < (0 : Int))) = true) <|
    chk (decide (at' < (0 : Int)) = false → (!decide (at' < (0 : Int))) = true) <|
    ltO (decide (at' < (0 : Int)) || decide (v0.snd.snd.fst < v7.snd.snd.fst)) fun (v8 : Bool) =>
    cnd (v8) (
     ltO (IntKind.i64.wrap (t12 + (1 : Int))) fun (v9 : Int) =>
     some (.inl (cs, now, t12, t10, t11, v9, f, ()))) (
     ltO (IntKind.i64.wrap (t12 + (1 : Int))) fun (v10 : Int) =>
     some (.inl (cs, now, at', t10, t11, v10, f, ()))))) (
   some (.inr (.inl (at', ()))))
noncomputable def cases_spare_l0 (s : (List (Int × Int × Int × Int)) × Int × Int × (List (Int × Int × Int × Int)) × Int × Int × TCfg × Unit) : Option ((Int × Unit) ⊕ (Int × Unit)) := loopM (fun s : (List (Int × Int × Int × Int)) × Int × Int × (List (Int × Int × Int × Int)) × Int × Int × TCfg × Unit => cases_spare_b0 s.1 s.2.1 s.2.2.1 s.2.2.2.1 s.2.2.2.2.1 s.2.2.2.2.2.1 s.2.2.2.2.2.2.1) s
noncomputable def cases_spare (f : Int × Int × Int × Int × Int × Int × Int × Int × Int) (cs : List (Int × Int × Int × Int)) (now : Int) : Option (Int × Unit) :=
  bnd (cases_spare_l0 (cs, now, (-1 : Int), cs, (↑cs.length : Int), (0 : Int), f, ())) fun y11 =>
  sumO y11 (fun t12 =>
   some (t12.fst, ())) (fun r13 =>
   some (r13))
noncomputable def slices_Delete_Case (i j : Int) (xs : List (Int × Int × Int × Int)) : Option (List (Int × Int × Int × Int) × Unit) :=
  deleteF xs i j
noncomputable def cases_Raise (f : Int × Int × Int × Int × Int × Int × Int × Int × Int) (cs : List (Int × Int × Int × Int)) (a' : Int) (now : Int) : Option (Int × (List (Int × Int × Int × Int)) × Unit) :=
  bnd (cases_Find (cs) (a')) fun y0 =>
  cnd (decide (y0.fst ≥ (0 : Int))) (
   some ((6 : Int), [], ())) (
   bnd (cases_quiet (f) (cs) (a') (now)) fun y1 =>
   cnd (y1.fst) (
    some ((8 : Int), [], ())) (
    bnd (slices_Clone_Case (cs)) fun y2 =>
    cnd (decide ((↑y2.fst.length : Int) ≥ (16 : Int))) (
     bnd (cases_spare (f) (y2.fst) (now)) fun y3 =>
     cnd (decide (y3.fst < (0 : Int))) (
      some ((4 : Int), [], ())) (
      ltO (IntKind.i64.wrap (y3.fst + (1 : Int))) fun (v4 : Int) =>
      bnd (slices_Delete_Case (y3.fst) (v4) (y2.fst)) fun y5 =>
      bnd (clock_Clamp (now)) fun y6 =>
      chk (room (32 : Nat) (y5.fst.length + [(a', y6.fst, (0 : Int), (0 : Int))].length)) <|
      some ((0 : Int), y5.fst ++ [(a', y6.fst, (0 : Int), (0 : Int))], ()))) (
     bnd (clock_Clamp (now)) fun y7 =>
     chk (room (32 : Nat) (y2.fst.length + [(a', y7.fst, (0 : Int), (0 : Int))].length)) <|
     some ((0 : Int), y2.fst ++ [(a', y7.fst, (0 : Int), (0 : Int))], ()))))
noncomputable def ops_raise_b0 (t10 : List THold) (t11 : Int) (t12 : Int) (c : Int × Int × Int × Int × Int × Int × Int × Int × Int) (s' : Int × Int × (List THold) × (List TSweep) × (List (Int × List TSight)) × (List TProbe) × List (Int × Int × Int × Int)) (x : Int × Int × (List THold) × (List TSweep) × (List (Int × List TSight)) × (List TProbe) × List (Int × Int × Int × Int)) : Option (((List THold) × Int × Int × TCfg × (Int × Int × (List THold) × (List TSweep) × (List (Int × List TSight)) × (List TProbe) × List (Int × Int × Int × Int)) × (Int × Int × (List THold) × (List TSweep) × (List (Int × List TSight)) × (List TProbe) × List (Int × Int × Int × Int)) × Unit) ⊕ (((Int × Int × (List THold) × (List TSweep) × (List (Int × List TSight)) × (List TProbe) × List (Int × Int × Int × Int)) × (Int × Int × (List THold) × (List TSweep) × (List (Int × List TSight)) × (List TProbe) × List (Int × Int × Int × Int)) × Unit) ⊕ ((Int × Int × (List THold) × (List TSweep) × (List (Int × List TSight)) × (List TProbe) × List (Int × Int × Int × Int)) × Unit))) :=
  cnd (decide (t12 < t11)) (
   chk ((0 : Int) ≤ t12 ∧ t12 < (↑t10.length : Int)) <|
   ltO ((Option.rec zHold (fun val => val) t10[t12.toNat]?)) fun (v0 : Int × (List UInt8) × Int × Int × Int × Int × Int × Int) =>
   bnd (ops_Status (c) (s') (v0.fst)) fun y1 =>
   ltO (y1.fst != (3 : Int)) fun (v2 : Bool) =>
   cnd (v2) (
    ltO (IntKind.i64.wrap (t12 + (1 : Int))) fun (v3 : Int) =>
    some (.inl (t10, t11, v3, c, s', x, ()))) (
    bnd (cases_Raise (c) (s'.snd.snd.snd.snd.snd.snd) (v0.fst) (s'.fst)) fun y4 =>
    ltO (y4.fst == (0 : Int)) fun (v5 : Bool) =>
    cnd (v5) (
     ltO (IntKind.i64.wrap (t12 + (1 : Int))) fun (v6 : Int) =>
     some (.inl (t10, t11, v6, c, (s'.fst, s'.snd.fst, s'.snd.snd.fst, s'.snd.snd.snd.fst, s'.snd.snd.snd.snd.fst, s'.snd.snd.snd.snd.snd.fst, y4.snd.fst), x, ()))) (
     ltO (IntKind.i64.wrap (t12 + (1 : Int))) fun (v7 : Int) =>
     some (.inl (t10, t11, v7, c, s', x, ()))))) (
   some (.inr (.inl (s', x, ()))))
noncomputable def ops_raise_l0 (s : (List THold) × Int × Int × TCfg × (Int × Int × (List THold) × (List TSweep) × (List (Int × List TSight)) × (List TProbe) × List (Int × Int × Int × Int)) × (Int × Int × (List THold) × (List TSweep) × (List (Int × List TSight)) × (List TProbe) × List (Int × Int × Int × Int)) × Unit) : Option (((Int × Int × (List THold) × (List TSweep) × (List (Int × List TSight)) × (List TProbe) × List (Int × Int × Int × Int)) × (Int × Int × (List THold) × (List TSweep) × (List (Int × List TSight)) × (List TProbe) × List (Int × Int × Int × Int)) × Unit) ⊕ ((Int × Int × (List THold) × (List TSweep) × (List (Int × List TSight)) × (List TProbe) × List (Int × Int × Int × Int)) × Unit)) := loopM (fun s : (List THold) × Int × Int × TCfg × (Int × Int × (List THold) × (List TSweep) × (List (Int × List TSight)) × (List TProbe) × List (Int × Int × Int × Int)) × (Int × Int × (List THold) × (List TSweep) × (List (Int × List TSight)) × (List TProbe) × List (Int × Int × Int × Int)) × Unit => ops_raise_b0 s.1 s.2.1 s.2.2.1 s.2.2.2.1 s.2.2.2.2.1 s.2.2.2.2.2.1) s
noncomputable def ops_raise (c : Int × Int × Int × Int × Int × Int × Int × Int × Int) (s' : Int × Int × (List THold) × (List TSweep) × (List (Int × List TSight)) × (List TProbe) × List (Int × Int × Int × Int)) : Option ((Int × Int × (List THold) × (List TSweep) × (List (Int × List TSight)) × (List TProbe) × List (Int × Int × Int × Int)) × Unit) :=
  bnd (ops_raise_l0 (s'.snd.snd.fst, (↑s'.snd.snd.fst.length : Int), (0 : Int), c, s', ((0 : Int), (0 : Int), [], [], [], [], []), ())) fun y8 =>
  sumO y8 (fun t9 =>
   some (t9.fst, ())) (fun r10 =>
   some (r10))
noncomputable def seen_Last (ks : List (Int × List TSight)) (a' : Int) : Option (Int × Bool × Unit) :=
  bnd (seen_find (ks) (a')) fun y0 =>
  chk ((!!y0.snd.fst) = true → (!!y0.snd.fst) = true) <|
  chk ((!!y0.snd.fst) = true → (!!y0.snd.fst) = true) <|
  chk ((!!y0.snd.fst) = true → (0 : Int) ≤ y0.fst ∧ y0.fst < (↑ks.length : Int)) <|
  ltO ((Option.rec ((0 : Int), []) (fun val => val) ks[y0.fst.toNat]?)) fun (v1 : Int × List TSight) =>
  chk ((!!y0.snd.fst) = true → (!!y0.snd.fst) = true) <|
  chk ((!!y0.snd.fst) = true → (!!y0.snd.fst) = true) <|
  chk ((!!y0.snd.fst) = true → (!!y0.snd.fst) = true) <|
  chk ((!!y0.snd.fst) = true → (!!y0.snd.fst) = true) <|
  ltO ((↑v1.snd.length : Int) == (0 : Int)) fun (v2 : Bool) =>
  chk ((!y0.snd.fst) = false → (!!y0.snd.fst) = true) <|
  ltO (!y0.snd.fst || v2) fun (v3 : Bool) =>
  cnd (v3) (
   some ((0 : Int), false, ())) (
   chk ((0 : Int) ≤ y0.fst ∧ y0.fst < (↑ks.length : Int)) <|
   ltO ((Option.rec ((0 : Int), []) (fun val => val) ks[y0.fst.toNat]?)) fun (v4 : Int × List TSight) =>
   chk ((0 : Int) ≤ y0.fst ∧ y0.fst < (↑ks.length : Int)) <|
   ltO ((Option.rec ((0 : Int), []) (fun val => val) ks[y0.fst.toNat]?)) fun (v5 : Int × List TSight) =>
   ltO (IntKind.i64.wrap ((↑v5.snd.length : Int) - (1 : Int))) fun (v6 : Int) =>
   chk ((0 : Int) ≤ v6 ∧ v6 < (↑v4.snd.length : Int)) <|
   ltO ((Option.rec zSight (fun val => val) v4.snd[v6.toNat]?)) fun (v7 : Int × TMac × Int) =>
   some (v7.snd.snd, true, ()))
noncomputable def ops_forget_1 (a' : Int) (x_0 : Int) (x_1 : Int) (x_2 : List THold) (x_3 : List TSweep) (x_4 : List (Int × List TSight)) (x_5 : List TProbe) (x_6 : List (Int × Int × Int × Int)) (x_0' : Int) (x_1' : Int) (x_2' : Int) (x_3' : Int) (x_4' : Int) (x_5' : Int) (x_6' : Int) (x_7 : Int) (x_8 : Int) : Option (Bool × Int × Int × (List THold) × (List TSweep) × (List (Int × List TSight)) × (List TProbe) × (List (Int × Int × Int × Int)) × Int × Int × Int × Int × Int × Int × Int × Int × Int × Unit) :=
  bnd (held_Get (x_2) (a')) fun y0 =>
  bnd (seen_Last (x_4) (a')) fun y1 =>
  chk ((!y0.snd.fst) = true → (!y0.snd.fst) = true) <|
  chk ((!y0.snd.fst && y1.snd.fst) = true → (!y0.snd.fst && y1.snd.fst) = true) <|
  chk ((!y0.snd.fst && y1.snd.fst) = true → (!y0.snd.fst && y1.snd.fst) = true) <|
  chk ((!y0.snd.fst && y1.snd.fst) = true → (!y0.snd.fst && y1.snd.fst) = true) <|
  chk ((!y0.snd.fst && y1.snd.fst) = true → (!y0.snd.fst && y1.snd.fst) = true) <|
  chk ((!y0.snd.fst && y1.snd.fst) = true → (!y0.snd.fst && y1.snd.fst) = true) <|
  bndG (!y0.snd.fst && y1.snd.fst) (clock_Within (x_0) (y1.fst) (x_1')) (false, ()) fun y2 =>
  chk ((!y0.snd.fst) = true → (!y0.snd.fst) = true) <|
  chk ((!y0.snd.fst) = true → y1.snd.fst = true → (!y0.snd.fst && y1.snd.fst) = true) <|
  ltO (y1.snd.fst && y2.fst) fun (v3 : Bool) =>
  chk (y0.snd.fst = false → (!y0.snd.fst) = true) <|
  ltO (y0.snd.fst || v3) fun (v4 : Bool) =>
  some (v4, x_0, x_1, x_2, x_3, x_4, x_5, x_6, x_0', x_1', x_2', x_3', x_4', x_5', x_6', x_7, x_8, ())
noncomputable def seen_Forget_b0 (t8 : List (Int × List TSight)) (t9 : Int) (t10 : Int) (out : List (Int × List TSight)) (o0_0 : Int) (o0_1 : Int) (o0_2 : List THold) (o0_3 : List TSweep) (o0_4 : List (Int × List TSight)) (o0_5 : List TProbe) (o0_6 : List (Int × Int × Int × Int)) (o1_0 : Int) (o1_1 : Int) (o1_2 : Int) (o1_3 : Int) (o1_4 : Int) (o1_5 : Int) (o1_6 : Int) (o1_7 : Int) (o1_8 : Int) : Option (((List (Int × List TSight)) × Int × Int × (List (Int × List TSight)) × Int × Int × (List THold) × (List TSweep) × (List (Int × List TSight)) × (List TProbe) × (List (Int × Int × Int × Int)) × Int × Int × Int × Int × Int × Int × Int × Int × Int × Unit) ⊕ ((Int × Int × (List THold) × (List TSweep) × (List (Int × List TSight)) × (List TProbe) × (List (Int × Int × Int × Int)) × Int × Int × Int × Int × Int × Int × Int × Int × Int × (List (Int × List TSight)) × Unit) ⊕ ((Int × Int × (List THold) × (List TSweep) × (List (Int × List TSight)) × (List TProbe) × List (Int × Int × Int × Int)) × TCfg × (List (Int × List TSight)) × Unit))) :=
  cnd (decide (t10 < t9)) (
   chk ((0 : Int) ≤ t10 ∧ t10 < (↑t8.length : Int)) <|
   ltO ((Option.rec ((0 : Int), []) (fun val => val) t8[t10.toNat]?)) fun (v0 : Int × List TSight) =>
   bnd (ops_forget_1 (v0.fst) (o0_0) (o0_1) (o0_2) (o0_3) (o0_4) (o0_5) (o0_6) (o1_0) (o1_1) (o1_2) (o1_3) (o1_4) (o1_5) (o1_6) (o1_7) (o1_8)) fun y1 =>
   cnd (y1.fst) (
    chk (room (32 : Nat) (out.length + [(v0)].length)) <|
    ltO (IntKind.i64.wrap (t10 + (1 : Int))) fun (v2 : Int) =>
    some (.inl (t8, t9, v2, out ++ [(v0)], y1.snd.fst, y1.snd.snd.fst, y1.snd.snd.snd.fst, y1.snd.snd.snd.snd.fst, y1.snd.snd.snd.snd.snd.fst, y1.snd.snd.snd.snd.snd.snd.fst, y1.snd.snd.snd.snd.snd.snd.snd.fst, y1.snd.snd.snd.snd.snd.snd.snd.snd.fst, y1.snd.snd.snd.snd.snd.snd.snd.snd.snd.fst, y1.snd.snd.snd.snd.snd.snd.snd.snd.snd.snd.fst, y1.snd.snd.snd.snd.snd.snd.snd.snd.snd.snd.snd.fst, y1.snd.snd.snd.snd.snd.snd.snd.snd.snd.snd.snd.snd.fst, y1.snd.snd.snd.snd.snd.snd.snd.snd.snd.snd.snd.snd.snd.fst, y1.snd.snd.snd.snd.snd.snd.snd.snd.snd.snd.snd.snd.snd.snd.fst, y1.snd.snd.snd.snd.snd.snd.snd.snd.snd.snd.snd.snd.snd.snd.snd.fst, y1.snd.snd.snd.snd.snd.snd.snd.snd.snd.snd.snd.snd.snd.snd.snd.snd.fst, ()))) (
    ltO (IntKind.i64.wrap (t10 + (1 : Int))) fun (v3 : Int) =>
    some (.inl (t8, t9, v3, out, y1.snd.fst, y1.snd.snd.fst, y1.snd.snd.snd.fst, y1.snd.snd.snd.snd.fst, y1.snd.snd.snd.snd.snd.fst, y1.snd.snd.snd.snd.snd.snd.fst, y1.snd.snd.snd.snd.snd.snd.snd.fst, y1.snd.snd.snd.snd.snd.snd.snd.snd.fst, y1.snd.snd.snd.snd.snd.snd.snd.snd.snd.fst, y1.snd.snd.snd.snd.snd.snd.snd.snd.snd.snd.fst, y1.snd.snd.snd.snd.snd.snd.snd.snd.snd.snd.snd.fst, y1.snd.snd.snd.snd.snd.snd.snd.snd.snd.snd.snd.snd.fst, y1.snd.snd.snd.snd.snd.snd.snd.snd.snd.snd.snd.snd.snd.fst, y1.snd.snd.snd.snd.snd.snd.snd.snd.snd.snd.snd.snd.snd.snd.fst, y1.snd.snd.snd.snd.snd.snd.snd.snd.snd.snd.snd.snd.snd.snd.snd.fst, y1.snd.snd.snd.snd.snd.snd.snd.snd.snd.snd.snd.snd.snd.snd.snd.snd.fst, ())))) (
   some (.inr (.inl (o0_0, o0_1, o0_2, o0_3, o0_4, o0_5, o0_6, o1_0, o1_1, o1_2, o1_3, o1_4, o1_5, o1_6, o1_7, o1_8, out, ()))))
noncomputable def seen_Forget_l0 (s : (List (Int × List TSight)) × Int × Int × (List (Int × List TSight)) × Int × Int × (List THold) × (List TSweep) × (List (Int × List TSight)) × (List TProbe) × (List (Int × Int × Int × Int)) × Int × Int × Int × Int × Int × Int × Int × Int × Int × Unit) : Option ((Int × Int × (List THold) × (List TSweep) × (List (Int × List TSight)) × (List TProbe) × (List (Int × Int × Int × Int)) × Int × Int × Int × Int × Int × Int × Int × Int × Int × (List (Int × List TSight)) × Unit) ⊕ ((Int × Int × (List THold) × (List TSweep) × (List (Int × List TSight)) × (List TProbe) × List (Int × Int × Int × Int)) × TCfg × (List (Int × List TSight)) × Unit)) := loopM (fun s : (List (Int × List TSight)) × Int × Int × (List (Int × List TSight)) × Int × Int × (List THold) × (List TSweep) × (List (Int × List TSight)) × (List TProbe) × (List (Int × Int × Int × Int)) × Int × Int × Int × Int × Int × Int × Int × Int × Int × Unit => seen_Forget_b0 s.1 s.2.1 s.2.2.1 s.2.2.2.1 s.2.2.2.2.1 s.2.2.2.2.2.1 s.2.2.2.2.2.2.1 s.2.2.2.2.2.2.2.1 s.2.2.2.2.2.2.2.2.1 s.2.2.2.2.2.2.2.2.2.1 s.2.2.2.2.2.2.2.2.2.2.1 s.2.2.2.2.2.2.2.2.2.2.2.1 s.2.2.2.2.2.2.2.2.2.2.2.2.1 s.2.2.2.2.2.2.2.2.2.2.2.2.2.1 s.2.2.2.2.2.2.2.2.2.2.2.2.2.2.1 s.2.2.2.2.2.2.2.2.2.2.2.2.2.2.2.1 s.2.2.2.2.2.2.2.2.2.2.2.2.2.2.2.2.1 s.2.2.2.2.2.2.2.2.2.2.2.2.2.2.2.2.2.1 s.2.2.2.2.2.2.2.2.2.2.2.2.2.2.2.2.2.2.1 s.2.2.2.2.2.2.2.2.2.2.2.2.2.2.2.2.2.2.2.1) s
noncomputable def seen_Forget (ks : List (Int × List TSight)) (o0 : Int × Int × (List THold) × (List TSweep) × (List (Int × List TSight)) × (List TProbe) × List (Int × Int × Int × Int)) (o1 : Int × Int × Int × Int × Int × Int × Int × Int × Int) : Option ((Int × Int × (List THold) × (List TSweep) × (List (Int × List TSight)) × (List TProbe) × List (Int × Int × Int × Int)) × TCfg × (List (Int × List TSight)) × Unit) :=
  bnd (seen_Forget_l0 (ks, (↑ks.length : Int), (0 : Int), [], o0.fst, o0.snd.fst, o0.snd.snd.fst, o0.snd.snd.snd.fst, o0.snd.snd.snd.snd.fst, o0.snd.snd.snd.snd.snd.fst, o0.snd.snd.snd.snd.snd.snd, o1.fst, o1.snd.fst, o1.snd.snd.fst, o1.snd.snd.snd.fst, o1.snd.snd.snd.snd.fst, o1.snd.snd.snd.snd.snd.fst, o1.snd.snd.snd.snd.snd.snd.fst, o1.snd.snd.snd.snd.snd.snd.snd.fst, o1.snd.snd.snd.snd.snd.snd.snd.snd, ())) fun y4 =>
  sumO y4 (fun t5 =>
   some ((t5.fst, t5.snd.fst, t5.snd.snd.fst, t5.snd.snd.snd.fst, t5.snd.snd.snd.snd.fst, t5.snd.snd.snd.snd.snd.fst, t5.snd.snd.snd.snd.snd.snd.fst), (t5.snd.snd.snd.snd.snd.snd.snd.fst, t5.snd.snd.snd.snd.snd.snd.snd.snd.fst, t5.snd.snd.snd.snd.snd.snd.snd.snd.snd.fst, t5.snd.snd.snd.snd.snd.snd.snd.snd.snd.snd.fst, t5.snd.snd.snd.snd.snd.snd.snd.snd.snd.snd.snd.fst, t5.snd.snd.snd.snd.snd.snd.snd.snd.snd.snd.snd.snd.fst, t5.snd.snd.snd.snd.snd.snd.snd.snd.snd.snd.snd.snd.snd.fst, t5.snd.snd.snd.snd.snd.snd.snd.snd.snd.snd.snd.snd.snd.snd.fst, t5.snd.snd.snd.snd.snd.snd.snd.snd.snd.snd.snd.snd.snd.snd.snd.fst), t5.snd.snd.snd.snd.snd.snd.snd.snd.snd.snd.snd.snd.snd.snd.snd.snd.fst, ())) (fun r6 =>
   some (r6))
noncomputable def ops_forget (c : Int × Int × Int × Int × Int × Int × Int × Int × Int) (s' : Int × Int × (List THold) × (List TSweep) × (List (Int × List TSight)) × (List TProbe) × List (Int × Int × Int × Int)) : Option ((Int × Int × (List THold) × (List TSweep) × (List (Int × List TSight)) × (List TProbe) × List (Int × Int × Int × Int)) × Unit) :=
  bnd (seen_Forget (s'.snd.snd.snd.snd.fst) (s') (c)) fun y0 =>
  some ((y0.fst.fst, y0.fst.snd.fst, y0.fst.snd.snd.fst, y0.fst.snd.snd.snd.fst, y0.snd.snd.fst, y0.fst.snd.snd.snd.snd.snd), ())
noncomputable def probe_Late_b0 (now : Int) (room : Int) (t14 : List TProbe) (t15 : Int) (t16 : Int) (out : List TProbe) (again : List TProbe) (c : Int × Int × Int × Int × Int × Int × Int × Int × Int) : Option ((Int × Int × (List TProbe) × Int × Int × (List TProbe) × (List TProbe) × TCfg × Unit) ⊕ (((List TProbe) × (List TProbe) × Unit) ⊕ ((List TProbe) × (List TProbe) × Unit))) :=
  cnd (decide (t16 < t15)) (
   chk ((0 : Int) ≤ t16 ∧ t16 < (↑t14.length : Int)) <|
   ltO ((Option.rec ((0 : Int), (0 : Int), (0 : Int), (0 : Int), (0 : Int)) (fun val => val) t14[t16.toNat]?)) fun (v0 : Int × Int × Int × Int × Int) =>
   bnd (clock_Since (now) (v0.snd.snd.snd.fst)) fun y1 =>
   cnd (decide (y1.fst < c.snd.snd.snd.snd.snd.fst)) (
    chk (Tr.room (40 : Nat) (out.length + [(v0)].length)) <|
    ltO (IntKind.i64.wrap (t16 + (1 : Int))) fun (v2 : Int) =>
    some (.inl (now, room, t14, t15, v2, out ++ [(v0)], again, c, ()))) (
    cnd (decide (v0.snd.snd.snd.snd ≥ c.snd.snd.snd.snd.snd.snd.fst)) (
     ltO (IntKind.i64.wrap (t16 + (1 : Int))) fun (v3 : Int) =>
     some (.inl (now, room, t14, t15, v3, out, again, c, ()))) (
     cnd (decide ((↑again.length : Int) < room)) (
      ltO (IntKind.i64.wrap (v0.snd.snd.snd.snd + (1 : Int))) fun (v4 : Int) =>
      bnd (clock_Clamp (now)) fun y5 =>
      chk (Tr.room (40 : Nat) (again.length + [(v0.fst, v0.snd.fst, v0.snd.snd.fst, y5.fst, v4)].length)) <|
      chk (Tr.room (40 : Nat) (out.length + [(v0.fst, v0.snd.fst, v0.snd.snd.fst, y5.fst, v4)].length)) <|
      ltO (IntKind.i64.wrap (t16 + (1 : Int))) fun (v6 : Int) =>
      some (.inl (now, room, t14, t15, v6, out ++ [(v0.fst, v0.snd.fst, v0.snd.snd.fst, y5.fst, v4)], again ++ [(v0.fst, v0.snd.fst, v0.snd.snd.fst, y5.fst, v4)], c, ()))) (
      chk (Tr.room (40 : Nat) (out.length + [(v0)].length)) <|
      ltO (IntKind.i64.wrap (t16 + (1 : Int))) fun (v7 : Int) =>
      some (.inl (now, room, t14, t15, v7, out ++ [(v0)], again, c, ())))))) (
   some (.inr (.inl (out, again, ()))))
noncomputable def probe_Late_l0 (s : Int × Int × (List TProbe) × Int × Int × (List TProbe) × (List TProbe) × TCfg × Unit) : Option (((List TProbe) × (List TProbe) × Unit) ⊕ ((List TProbe) × (List TProbe) × Unit)) := loopM (fun s : Int × Int × (List TProbe) × Int × Int × (List TProbe) × (List TProbe) × TCfg × Unit => probe_Late_b0 s.1 s.2.1 s.2.2.1 s.2.2.2.1 s.2.2.2.2.1 s.2.2.2.2.2.1 s.2.2.2.2.2.2.1 s.2.2.2.2.2.2.2.1) s
noncomputable def probe_Late (c : Int × Int × Int × Int × Int × Int × Int × Int × Int) (ps : List TProbe) (now : Int) (room : Int) : Option ((List TProbe) × (List TProbe) × Unit) :=
  bnd (probe_Late_l0 (now, room, ps, (↑ps.length : Int), (0 : Int), [], [], c, ())) fun y8 =>
  sumO y8 (fun t9 =>
   some (t9.snd.fst, t9.fst, ())) (fun r10 =>
   some (r10))
noncomputable def probe_Packet (p : Int × Int × Int × Int × Int) : Option ((Bool × Int × Int × TMac × Int × Int) × Unit) :=
  some ((false, (0 : Int), p.fst, zMac, p.snd.fst, p.snd.snd.fst), ())
noncomputable def sweep_Plan_w1_b1 (room : Int) (s' : Nat) (t22 : Int) (t23 : Int) (c : Int × Int × Int × Int × Int × Int × Int × Int × Int) (out : List TSweep) (asks : List Int) (x : List Int) : Option ((Int × Nat × Int × Int × TCfg × (List TSweep) × (List Int) × (List Int) × Unit) ⊕ ((Int × Nat × Int × Int × TCfg × (List TSweep) × (List Int) × (List Int) × Unit) ⊕ ((List Int) × (List TSweep) × Unit))) :=
  chk (decide ((↑asks.length : Int) < room) = true → decide ((↑asks.length : Int) < room) = true) <|
  chk (decide ((↑asks.length : Int) < room) = true → decide ((↑asks.length : Int) < room) = true) <|
  chk (decide ((↑asks.length : Int) < room) = true → decide ((↑asks.length : Int) < room) = true) <|
  chk (decide ((↑asks.length : Int) < room) = true → s' < out.length) <|
  chk (decide ((↑asks.length : Int) < room) = true → decide ((↑asks.length : Int) < room) = true) <|
  chk (decide ((↑asks.length : Int) < room) = true → decide ((↑asks.length : Int) < room) = true) <|
  chk (decide ((↑asks.length : Int) < room) = true → decide ((↑asks.length : Int) < room) = true) <|
  chk (decide ((↑asks.length : Int) < room) = true → s' < out.length) <|
  chk (decide ((↑asks.length : Int) < room) = true → decide ((↑asks.length : Int) < room) = true) <|
  bndG (decide ((↑asks.length : Int) < room)) (addr_Size (((out.getD s' zSweep).fst.fst, (out.getD s' zSweep).fst.snd))) ((0 : Int), ()) fun y2 =>
  chk (decide ((↑asks.length : Int) < room) = true → decide ((↑asks.length : Int) < room) = true) <|
  chk (decide ((↑asks.length : Int) < room) = true → decide ((↑asks.length : Int) < room) = true) <|
  chk (decide ((↑asks.length : Int) < room) = true → decide ((↑asks.length : Int) < room) = true) <|
  ltO (decide ((↑asks.length : Int) < room) && decide ((out.getD s' zSweep).snd.snd < y2.fst)) fun (v3 : Bool) =>
  cnd (v3) (
   chk (s' < out.length) <|
   chk (s' < out.length) <|
   bnd (addr_At (((out.getD s' zSweep).fst.fst, (out.getD s' zSweep).fst.snd)) ((out.getD s' zSweep).snd.snd)) fun y4 =>
   chk (Tr.room (4 : Nat) (asks.length + [y4.fst].length)) <|
   chk (s' < out.length) <|
   ltO (IntKind.i64.wrap ((out.getD s' zSweep).snd.snd + (1 : Int))) fun (v5 : Int) =>
   chk (s' < out.length) <|
   some (.inl (room, s', t22, t23, c, out.set s' (((out.getD s' zSweep).fst.fst, (out.getD s' zSweep).fst.snd), (out.getD s' zSweep).snd.fst, v5), asks ++ [y4.fst], x, ()))) (
   some (.inr (.inl (room, s', t22, t23, c, out, asks, x, ()))))
noncomputable def sweep_Plan_w1_l1 (s : Int × Nat × Int × Int × TCfg × (List TSweep) × (List Int) × (List Int) × Unit) : Option ((Int × Nat × Int × Int × TCfg × (List TSweep) × (List Int) × (List Int) × Unit) ⊕ ((List Int) × (List TSweep) × Unit)) := loopM (fun s : Int × Nat × Int × Int × TCfg × (List TSweep) × (List Int) × (List Int) × Unit => sweep_Plan_w1_b1 s.1 s.2.1 s.2.2.1 s.2.2.2.1 s.2.2.2.2.1 s.2.2.2.2.2.1 s.2.2.2.2.2.2.1 s.2.2.2.2.2.2.2.1) s
noncomputable def sweep_Plan_w1_b0 (room : Int) (t22 : Int) (t23 : Int) (asks : List Int) (c : Int × Int × Int × Int × Int × Int × Int × Int × Int) (out : List TSweep) (x : List Int) : Option ((Int × Int × Int × (List Int) × TCfg × (List TSweep) × (List Int) × Unit) ⊕ (((List TSweep) × (List Int) × Unit) ⊕ ((List Int) × (List TSweep) × Unit))) :=
  cnd (decide (t23 < t22)) (
   chk ((0 : Int) ≤ t23 ∧ t23 < (↑x.length : Int)) <|
   chk (t23.toNat < x.length) <|
   chk ((0 : Int) ≤ x.getD t23.toNat (0 : Int) ∧ x.getD t23.toNat (0 : Int) < (↑out.length : Int)) <|
   bnd (sweep_Plan_w1_l1 (room, (x.getD t23.toNat (0 : Int)).toNat, t22, t23, c, out, asks, x, ())) fun y6 =>
   sumO y6 (fun t7 =>
    chk (t7.snd.fst < t7.snd.snd.snd.snd.snd.fst.length) <|
    chk (t7.snd.fst < t7.snd.snd.snd.snd.snd.fst.length) <|
    bnd (addr_Size (((t7.snd.snd.snd.snd.snd.fst.getD t7.snd.fst zSweep).fst.fst, (t7.snd.snd.snd.snd.snd.fst.getD t7.snd.fst zSweep).fst.snd))) fun y9 =>
    cnd (decide ((t7.snd.snd.snd.snd.snd.fst.getD t7.snd.fst zSweep).snd.snd ≥ y9.fst)) (
     chk (t7.snd.fst < t7.snd.snd.snd.snd.snd.fst.length) <|
     bnd (clock_Add ((t7.snd.snd.snd.snd.snd.fst.getD t7.snd.fst zSweep).snd.fst) (t7.snd.snd.snd.snd.fst.snd.snd.snd.fst)) fun y10 =>
     chk (t7.snd.fst < t7.snd.snd.snd.snd.snd.fst.length) <|
     chk (t7.snd.fst < (t7.snd.snd.snd.snd.snd.fst.set t7.snd.fst (((t7.snd.snd.snd.snd.snd.fst.getD t7.snd.fst zSweep).fst.fst, (t7.snd.snd.snd.snd.snd.fst.getD t7.snd.fst zSweep).fst.snd), (t7.snd.snd.snd.snd.snd.fst.getD t7.snd.fst zSweep).snd.fst, (0 : Int))).length) <|
     ltO (IntKind.i64.wrap (t7.snd.snd.snd.fst + (1 : Int))) fun (v11 : Int) =>
     some (.inl (t7.fst, t7.snd.snd.fst, v11, t7.snd.snd.snd.snd.snd.snd.fst, t7.snd.snd.snd.snd.fst, (t7.snd.snd.snd.snd.snd.fst.set t7.snd.fst (((t7.snd.snd.snd.snd.snd.fst.getD t7.snd.fst zSweep).fst.fst, (t7.snd.snd.snd.snd.snd.fst.getD t7.snd.fst zSweep).fst.snd), (t7.snd.snd.snd.snd.snd.fst.getD t7.snd.fst zSweep).snd.fst, (0 : Int))).set t7.snd.fst ((((t7.snd.snd.snd.snd.snd.fst.set t7.snd.fst (((t7.snd.snd.snd.snd.snd.fst.getD t7.snd.fst zSweep).fst.fst, (t7.snd.snd.snd.snd.snd.fst.getD t7.snd.fst zSweep).fst.snd), (t7.snd.snd.snd.snd.snd.fst.getD t7.snd.fst zSweep).snd.fst, (0 : Int))).getD t7.snd.fst zSweep).fst.fst, ((t7.snd.snd.snd.snd.snd.fst.set t7.snd.fst (((t7.snd.snd.snd.snd.snd.fst.getD t7.snd.fst zSweep).fst.fst, (t7.snd.snd.snd.snd.snd.fst.getD t7.snd.fst zSweep).fst.snd), (t7.snd.snd.snd.snd.snd.fst.getD t7.snd.fst zSweep).snd.fst, (0 : Int))).getD t7.snd.fst zSweep).fst.snd), y10.fst, ((t7.snd.snd.snd.snd.snd.fst.set t7.snd.fst (((t7.snd.snd.snd.snd.snd.fst.getD t7.snd.fst zSweep).fst.fst, (t7.snd.snd.snd.snd.snd.fst.getD t7.snd.fst zSweep).fst.snd), (t7.snd.snd.snd.snd.snd.fst.getD t7.snd.fst zSweep).snd.fst, (0 : Int))).getD t7.snd.fst zSweep).snd.snd), t7.snd.snd.snd.snd.snd.snd.snd.fst, ()))) (
     ltO (IntKind.i64.wrap (t7.snd.snd.snd.fst + (1 : Int))) fun (v12 : Int) =>
     some (.inl (t7.fst, t7.snd.snd.fst, v12, t7.snd.snd.snd.snd.snd.snd.fst, t7.snd.snd.snd.snd.fst, t7.snd.snd.snd.snd.snd.fst, t7.snd.snd.snd.snd.snd.snd.snd.fst, ())))) (fun r8 =>
    some (.inr (.inr (r8))))) (
   some (.inr (.inl (out, asks, ()))))
noncomputable def sweep_Plan_w1_l0 (s : Int × Int × Int × (List Int) × TCfg × (List TSweep) × (List Int) × Unit) : Option (((List TSweep) × (List Int) × Unit) ⊕ ((List Int) × (List TSweep) × Unit)) := loopM (fun s : Int × Int × Int × (List Int) × TCfg × (List TSweep) × (List Int) × Unit => sweep_Plan_w1_b0 s.1 s.2.1 s.2.2.1 s.2.2.2.1 s.2.2.2.2.1 s.2.2.2.2.2.1 s.2.2.2.2.2.2.1) s
noncomputable def sweep_Plan_w1 (c : Int × Int × Int × Int × Int × Int × Int × Int × Int) (ss : List TSweep) (now : Int) (room : Int) : Option ((List Int) × (List TSweep) × Unit) :=
  bnd (slices_Clone_Sweep (ss)) fun y0 =>
  bnd (sweep_order (y0.fst) (now)) fun y1 =>
  bnd (sweep_Plan_w1_l0 (room, (↑y1.fst.length : Int), (0 : Int), [], c, y0.fst, y1.fst, ())) fun y13 =>
  sumO y13 (fun t14 =>
   some (t14.snd.fst, t14.fst, ())) (fun r15 =>
   some (r15))
noncomputable def probe_Of (a' : Int) (seq : Int) (now : Int) : Option (TProbe × Unit) :=
  ltO (IntKind.u32.wrap (bandI IntKind.u32 a' (65535 : Int))) fun (v0 : Int) =>
  ltO (IntKind.i64.wrap v0) fun (v1 : Int) =>
  ltO (IntKind.i64.wrap (bandI IntKind.i64 seq (65535 : Int))) fun (v2 : Int) =>
  bnd (clock_Clamp (now)) fun y3 =>
  some ((a', v1, v2, y3.fst, (0 : Int)), ())
noncomputable def probe_Put_1 (x : Int × Int × Int × Int × Int) (t1 : Int × Int × Int × Int × Int) : Option (Bool × Unit) :=
  ltO (x.fst == t1.fst) fun (v0 : Bool) =>
  some (v0, ())
noncomputable def slices_IndexFunc_v2_b0 (s' : List TProbe) (fc_0 : Int × Int × Int × Int × Int) (t7 : Int) (t8 : Int) : Option (((List TProbe) × TProbe × Int × Int × Unit) ⊕ (Unit ⊕ (Int × Unit))) :=
  cnd (decide (t8 < t7)) (
   chk ((0 : Int) ≤ t8 ∧ t8 < (↑s'.length : Int)) <|
   ltO ((Option.rec ((0 : Int), (0 : Int), (0 : Int), (0 : Int), (0 : Int)) (fun val => val) s'[t8.toNat]?)) fun (v0 : Int × Int × Int × Int × Int) =>
   bnd (probe_Put_1 (v0) (fc_0)) fun y1 =>
   cnd (y1.fst) (
    some (.inr (.inr (t8, ())))) (
    ltO (IntKind.i64.wrap (t8 + (1 : Int))) fun (v2 : Int) =>
    some (.inl (s', fc_0, t7, v2, ())))) (
   some (.inr (.inl ())))
noncomputable def slices_IndexFunc_v2_l0 (s : (List TProbe) × TProbe × Int × Int × Unit) : Option (Unit ⊕ (Int × Unit)) := loopM (fun s : (List TProbe) × TProbe × Int × Int × Unit => slices_IndexFunc_v2_b0 s.1 s.2.1 s.2.2.1 s.2.2.2.1) s
noncomputable def slices_IndexFunc_v2 (s' : List TProbe) (fc_0 : Int × Int × Int × Int × Int) : Option (Int × Unit) :=
  bnd (slices_IndexFunc_v2_l0 (s', fc_0, (↑s'.length : Int), (0 : Int), ())) fun y3 =>
  sumO y3 (fun t4 =>
   some ((-1 : Int), ())) (fun r5 =>
   some (r5))
noncomputable def slices_ContainsFunc_v1 (s' : List TProbe) (fc_0 : Int × Int × Int × Int × Int) : Option (Bool × Unit) :=
  bnd (slices_IndexFunc_v2 (s') (fc_0)) fun y0 =>
  some (decide (y0.fst ≥ (0 : Int)), ())
noncomputable def slices_Clone_Probe (xs : List TProbe) : Option (List TProbe × Unit) :=
  clone 40 xs
noncomputable def probe_Put (ps : List TProbe) (p : Int × Int × Int × Int × Int) : Option (Int × (List TProbe) × Unit) :=
  bnd (slices_ContainsFunc_v1 (ps) (p)) fun y0 =>
  cnd (y0.fst) (
   some ((6 : Int), [], ())) (
   cnd (decide ((↑ps.length : Int) ≥ (16 : Int))) (
    some ((4 : Int), [], ())) (
    bnd (slices_Clone_Probe (ps)) fun y1 =>
    chk (room (40 : Nat) (y1.fst.length + [(p)].length)) <|
    some ((0 : Int), y1.fst ++ [(p)], ())))
noncomputable def ops_ask_b0 (again : List TProbe) (t30 : List TProbe) (t31 : Int) (t32 : Int) (out : List (Bool × Int × Int × TMac × Int × Int)) (c : Int × Int × Int × Int × Int × Int × Int × Int × Int) (s' : Int × Int × (List THold) × (List TSweep) × (List (Int × List TSight)) × (List TProbe) × List (Int × Int × Int × Int)) (x : Int × Int × (List THold) × (List TSweep) × (List (Int × List TSight)) × (List TProbe) × List (Int × Int × Int × Int)) (ps : List TProbe) : Option (((List TProbe) × (List TProbe) × Int × Int × (List (Bool × Int × Int × TMac × Int × Int)) × TCfg × (Int × Int × (List THold) × (List TSweep) × (List (Int × List TSight)) × (List TProbe) × List (Int × Int × Int × Int)) × (Int × Int × (List THold) × (List TSweep) × (List (Int × List TSight)) × (List TProbe) × List (Int × Int × Int × Int)) × (List TProbe) × Unit) ⊕ (((List TProbe) × TCfg × (Int × Int × (List THold) × (List TSweep) × (List (Int × List TSight)) × (List TProbe) × List (Int × Int × Int × Int)) × (Int × Int × (List THold) × (List TSweep) × (List (Int × List TSight)) × (List TProbe) × List (Int × Int × Int × Int)) × (List (Bool × Int × Int × TMac × Int × Int)) × (List TProbe) × Unit) ⊕ ((Int × Int × (List THold) × (List TSweep) × (List (Int × List TSight)) × (List TProbe) × List (Int × Int × Int × Int)) × (List (Bool × Int × Int × TMac × Int × Int)) × Unit))) :=
  cnd (decide (t32 < t31)) (
   chk ((0 : Int) ≤ t32 ∧ t32 < (↑t30.length : Int)) <|
   ltO ((Option.rec ((0 : Int), (0 : Int), (0 : Int), (0 : Int), (0 : Int)) (fun val => val) t30[t32.toNat]?)) fun (v1 : Int × Int × Int × Int × Int) =>
   bnd (probe_Packet (v1)) fun y2 =>
   chk (room (40 : Nat) (out.length + [(y2.fst)].length)) <|
   ltO (IntKind.i64.wrap (t32 + (1 : Int))) fun (v3 : Int) =>
   some (.inl (again, t30, t31, v3, out ++ [(y2.fst)], c, s', x, ps, ()))) (
   some (.inr (.inl (again, c, s', x, out, ps, ()))))
noncomputable def ops_ask_l0 (s : (List TProbe) × (List TProbe) × Int × Int × (List (Bool × Int × Int × TMac × Int × Int)) × TCfg × (Int × Int × (List THold) × (List TSweep) × (List (Int × List TSight)) × (List TProbe) × List (Int × Int × Int × Int)) × (Int × Int × (List THold) × (List TSweep) × (List (Int × List TSight)) × (List TProbe) × List (Int × Int × Int × Int)) × (List TProbe) × Unit) : Option (((List TProbe) × TCfg × (Int × Int × (List THold) × (List TSweep) × (List (Int × List TSight)) × (List TProbe) × List (Int × Int × Int × Int)) × (Int × Int × (List THold) × (List TSweep) × (List (Int × List TSight)) × (List TProbe) × List (Int × Int × Int × Int)) × (List (Bool × Int × Int × TMac × Int × Int)) × (List TProbe) × Unit) ⊕ ((Int × Int × (List THold) × (List TSweep) × (List (Int × List TSight)) × (List TProbe) × List (Int × Int × Int × Int)) × (List (Bool × Int × Int × TMac × Int × Int)) × Unit)) := loopM (fun s : (List TProbe) × (List TProbe) × Int × Int × (List (Bool × Int × Int × TMac × Int × Int)) × TCfg × (Int × Int × (List THold) × (List TSweep) × (List (Int × List TSight)) × (List TProbe) × List (Int × Int × Int × Int)) × (Int × Int × (List THold) × (List TSweep) × (List (Int × List TSight)) × (List TProbe) × List (Int × Int × Int × Int)) × (List TProbe) × Unit => ops_ask_b0 s.1 s.2.1 s.2.2.1 s.2.2.2.1 s.2.2.2.2.1 s.2.2.2.2.2.1 s.2.2.2.2.2.2.1 s.2.2.2.2.2.2.2.1 s.2.2.2.2.2.2.2.2.1) s
noncomputable def ops_ask_b1 (t66 : List Int) (t67 : Int) (t68 : Int) (s' : Int × Int × (List THold) × (List TSweep) × (List (Int × List TSight)) × (List TProbe) × List (Int × Int × Int × Int)) (x : Int × Int × (List THold) × (List TSweep) × (List (Int × List TSight)) × (List TProbe) × List (Int × Int × Int × Int)) (out : List (Bool × Int × Int × TMac × Int × Int)) : Option (((List Int) × Int × Int × (Int × Int × (List THold) × (List TSweep) × (List (Int × List TSight)) × (List TProbe) × List (Int × Int × Int × Int)) × (Int × Int × (List THold) × (List TSweep) × (List (Int × List TSight)) × (List TProbe) × List (Int × Int × Int × Int)) × (List (Bool × Int × Int × TMac × Int × Int)) × Unit) ⊕ (((Int × Int × (List THold) × (List TSweep) × (List (Int × List TSight)) × (List TProbe) × List (Int × Int × Int × Int)) × (Int × Int × (List THold) × (List TSweep) × (List (Int × List TSight)) × (List TProbe) × List (Int × Int × Int × Int)) × (List (Bool × Int × Int × TMac × Int × Int)) × Unit) ⊕ ((Int × Int × (List THold) × (List TSweep) × (List (Int × List TSight)) × (List TProbe) × List (Int × Int × Int × Int)) × (List (Bool × Int × Int × TMac × Int × Int)) × Unit))) :=
  cnd (decide (t68 < t67)) (
   chk ((0 : Int) ≤ t68 ∧ t68 < (↑t66.length : Int)) <|
   ltO (t66.getD t68.toNat (0 : Int)) fun (v10 : Int) =>
   ltO (IntKind.i64.wrap (s'.snd.fst + (1 : Int))) fun (v11 : Int) =>
   ltO (IntKind.i64.wrap (bandI IntKind.i64 v11 (65535 : Int))) fun (v12 : Int) =>
   bnd (probe_Of (v10) (v12) (s'.fst)) fun y13 =>
   bnd (probe_Put (s'.snd.snd.snd.snd.snd.fst) (y13.fst)) fun y14 =>
   ltO (y14.fst == (0 : Int)) fun (v15 : Bool) =>
   cnd (v15) (
    bnd (probe_Packet (y13.fst)) fun y16 =>
    chk (room (40 : Nat) (out.length + [(y16.fst)].length)) <|
    ltO (IntKind.i64.wrap (t68 + (1 : Int))) fun (v17 : Int) =>
    some (.inl (t66, t67, v17, (s'.fst, v12, s'.snd.snd.fst, s'.snd.snd.snd.fst, s'.snd.snd.snd.snd.fst, y14.snd.fst, s'.snd.snd.snd.snd.snd.snd), x, out ++ [(y16.fst)], ()))) (
    ltO (IntKind.i64.wrap (t68 + (1 : Int))) fun (v18 : Int) =>
    some (.inl (t66, t67, v18, (s'.fst, v12, s'.snd.snd), x, out, ())))) (
   some (.inr (.inl (s', x, out, ()))))
noncomputable def ops_ask_l1 (s : (List Int) × Int × Int × (Int × Int × (List THold) × (List TSweep) × (List (Int × List TSight)) × (List TProbe) × List (Int × Int × Int × Int)) × (Int × Int × (List THold) × (List TSweep) × (List (Int × List TSight)) × (List TProbe) × List (Int × Int × Int × Int)) × (List (Bool × Int × Int × TMac × Int × Int)) × Unit) : Option (((Int × Int × (List THold) × (List TSweep) × (List (Int × List TSight)) × (List TProbe) × List (Int × Int × Int × Int)) × (Int × Int × (List THold) × (List TSweep) × (List (Int × List TSight)) × (List TProbe) × List (Int × Int × Int × Int)) × (List (Bool × Int × Int × TMac × Int × Int)) × Unit) ⊕ ((Int × Int × (List THold) × (List TSweep) × (List (Int × List TSight)) × (List TProbe) × List (Int × Int × Int × Int)) × (List (Bool × Int × Int × TMac × Int × Int)) × Unit)) := loopM (fun s : (List Int) × Int × Int × (Int × Int × (List THold) × (List TSweep) × (List (Int × List TSight)) × (List TProbe) × List (Int × Int × Int × Int)) × (Int × Int × (List THold) × (List TSweep) × (List (Int × List TSight)) × (List TProbe) × List (Int × Int × Int × Int)) × (List (Bool × Int × Int × TMac × Int × Int)) × Unit => ops_ask_b1 s.1 s.2.1 s.2.2.1 s.2.2.2.1 s.2.2.2.2.1 s.2.2.2.2.2.1) s
noncomputable def ops_ask (c : Int × Int × Int × Int × Int × Int × Int × Int × Int) (s' : Int × Int × (List THold) × (List TSweep) × (List (Int × List TSight)) × (List TProbe) × List (Int × Int × Int × Int)) : Option ((Int × Int × (List THold) × (List TSweep) × (List (Int × List TSight)) × (List TProbe) × List (Int × Int × Int × Int)) × (List (Bool × Int × Int × TMac × Int × Int)) × Unit) :=
  bnd (probe_Late (c) (s'.snd.snd.snd.snd.snd.fst) (s'.fst) (c.snd.snd.snd.snd.fst)) fun y0 =>
  bnd (ops_ask_l0 (y0.fst, y0.fst, (↑y0.fst.length : Int), (0 : Int), [], c, s', ((0 : Int), (0 : Int), [], [], [], [], []), y0.snd.fst, ())) fun y4 =>
  sumO y4 (fun t5 =>
   ltO (IntKind.i64.wrap (t5.snd.fst.snd.snd.snd.snd.fst - (↑t5.fst.length : Int))) fun (v7 : Int) =>
   ltO (IntKind.i64.wrap ((16 : Int) - (↑t5.snd.snd.snd.snd.snd.fst.length : Int))) fun (v8 : Int) =>
   bnd (sweep_Plan_w1 (t5.snd.fst) (t5.snd.snd.fst.snd.snd.snd.fst) (t5.snd.snd.fst.fst) (if (if v8 < v7 then v8 else v7) > (0 : Int) then if v8 < v7 then v8 else v7 else (0 : Int))) fun y9 =>
   bnd (ops_ask_l1 (y9.fst, (↑y9.fst.length : Int), (0 : Int), (t5.snd.snd.fst.fst, t5.snd.snd.fst.snd.fst, t5.snd.snd.fst.snd.snd.fst, y9.snd.fst, t5.snd.snd.fst.snd.snd.snd.snd.fst, t5.snd.snd.snd.snd.snd.fst, t5.snd.snd.fst.snd.snd.snd.snd.snd.snd), t5.snd.snd.snd.fst, t5.snd.snd.snd.snd.fst, ())) fun y19 =>
   sumO y19 (fun t20 =>
    some (t20.fst, t20.snd.snd.fst, ())) (fun r21 =>
    some (r21))) (fun r6 =>
   some (r6))
noncomputable def ops_tick (c : Int × Int × Int × Int × Int × Int × Int × Int × Int) (s' : Int × Int × (List THold) × (List TSweep) × (List (Int × List TSight)) × (List TProbe) × List (Int × Int × Int × Int)) : Option ((Int × Int × (List THold) × (List TSweep) × (List (Int × List TSight)) × (List TProbe) × List (Int × Int × Int × Int)) × (List (Bool × Int × Int × TMac × Int × Int)) × Unit) :=
  bnd (clock_Add (s'.fst) ((1 : Int))) fun y0 =>
  bnd (cases_Tick (c) (s'.snd.snd.snd.snd.snd.snd) (y0.fst)) fun y1 =>
  bnd (ops_execute (c) ((y0.fst, s'.snd.fst, s'.snd.snd.fst, s'.snd.snd.snd.fst, s'.snd.snd.snd.snd.fst, s'.snd.snd.snd.snd.snd.fst, y1.fst))) fun y2 =>
  bnd (ops_raise (c) (y2.fst)) fun y3 =>
  bnd (ops_forget (c) (y3.fst)) fun y4 =>
  bnd (ops_ask (c) (y4.fst)) fun y5 =>
  some (y5.fst, y5.snd.fst, ())
noncomputable def held_Put (hs : List THold) (h : Int × (List UInt8) × Int × Int × Int × Int × Int × Int) : Option (Int × (List THold) × Unit) :=
  bnd (held_find (hs) (h.fst)) fun y0 =>
  bnd (held_May (h.snd.fst)) fun y1 =>
  cnd (!y1.fst) (
   some ((12 : Int), [], ())) (
   cnd (y0.snd.fst) (
    some ((6 : Int), [], ())) (
    cnd (decide ((↑hs.length : Int) ≥ (48 : Int))) (
     some ((4 : Int), [], ())) (
     chk ((0 : Int) ≤ (0 : Int) ∧ (0 : Int) ≤ y0.fst ∧ y0.fst ≤ (↑hs.length : Int)) <|
     chk (room (32 : Nat) (sliceA (0 : Nat) y0.fst.toNat hs).length) <|
     chk (room (32 : Nat) ((sliceA (0 : Nat) y0.fst.toNat hs).length + [(h)].length)) <|
     chk ((0 : Int) ≤ y0.fst ∧ y0.fst ≤ (↑hs.length : Int) ∧ (↑hs.length : Int) ≤ (↑hs.length : Int)) <|
     chk (room (32 : Nat) ((sliceA (0 : Nat) y0.fst.toNat hs ++ [(h)]).length + (sliceA y0.fst.toNat (↑hs.length : Int).toNat hs).length)) <|
     some ((0 : Int), sliceA (0 : Nat) y0.fst.toNat hs ++ [(h)] ++ sliceA y0.fst.toNat (↑hs.length : Int).toNat hs, ()))))
noncomputable def ops_lay (l : List THold) (e : Int) (at'_0 : Int) (at'_1 : Int) (at'_2 : List THold) (at'_3 : List TSweep) (at'_4 : List (Int × List TSight)) (at'_5 : List TProbe) (at'_6 : List (Int × Int × Int × Int)) : Option (Int × Int × Int × (List THold) × (List TSweep) × (List (Int × List TSight)) × (List TProbe) × (List (Int × Int × Int × Int)) × Unit) :=
  ltO (e == (0 : Int)) fun (v0 : Bool) =>
  cnd (v0) (
   some (e, at'_0, at'_1, l, at'_3, at'_4, at'_5, at'_6, ())) (
   some (e, at'_0, at'_1, at'_2, at'_3, at'_4, at'_5, at'_6, ()))
noncomputable def ops_drop (s' : Int × Int × (List THold) × (List TSweep) × (List (Int × List TSight)) × (List TProbe) × List (Int × Int × Int × Int)) (a' : Int) : Option ((Int × Int × (List THold) × (List TSweep) × (List (Int × List TSight)) × (List TProbe) × List (Int × Int × Int × Int)) × Int × Unit) :=
  bnd (held_Take (s'.snd.snd.fst) (a')) fun y0 =>
  ltO (y0.fst != (0 : Int)) fun (v1 : Bool) =>
  cnd (v1) (
   some (s', y0.fst, ())) (
   bnd (cases_Cancel (s'.snd.snd.snd.snd.snd.snd) (a') (s'.fst)) fun y2 =>
   ltO (y2.fst == (0 : Int)) fun (v3 : Bool) =>
   cnd (v3) (
    some ((s'.fst, s'.snd.fst, y0.snd.fst, s'.snd.snd.snd.fst, s'.snd.snd.snd.snd.fst, s'.snd.snd.snd.snd.snd.fst, y2.snd.fst), (0 : Int), ())) (
    some ((s'.fst, s'.snd.fst, y0.snd.fst, s'.snd.snd.snd), (0 : Int), ())))
noncomputable def ops_lay_v1 (l : List TSweep) (e : Int) (at'_0 : Int) (at'_1 : Int) (at'_2 : List THold) (at'_3 : List TSweep) (at'_4 : List (Int × List TSight)) (at'_5 : List TProbe) (at'_6 : List (Int × Int × Int × Int)) : Option (Int × Int × Int × (List THold) × (List TSweep) × (List (Int × List TSight)) × (List TProbe) × (List (Int × Int × Int × Int)) × Unit) :=
  ltO (e == (0 : Int)) fun (v0 : Bool) =>
  cnd (v0) (
   some (e, at'_0, at'_1, at'_2, l, at'_4, at'_5, at'_6, ())) (
   some (e, at'_0, at'_1, at'_2, at'_3, at'_4, at'_5, at'_6, ()))
noncomputable def ops_answered_1 (p : Int × Int × Int × Int × Int) (t1 : Int) : Option (Bool × Unit) :=
  ltO (p.fst == t1) fun (v0 : Bool) =>
  some (v0, ())
noncomputable def slices_IndexFunc_v5_b0 (s' : List TProbe) (fc_0 : Int) (t7 : Int) (t8 : Int) : Option (((List TProbe) × Int × Int × Int × Unit) ⊕ (Unit ⊕ (Int × Unit))) :=
  cnd (decide (t8 < t7)) (
   chk ((0 : Int) ≤ t8 ∧ t8 < (↑s'.length : Int)) <|
   ltO ((Option.rec ((0 : Int), (0 : Int), (0 : Int), (0 : Int), (0 : Int)) (fun val => val) s'[t8.toNat]?)) fun (v0 : Int × Int × Int × Int × Int) =>
   bnd (ops_answered_1 (v0) (fc_0)) fun y1 =>
   cnd (y1.fst) (
    some (.inr (.inr (t8, ())))) (
    ltO (IntKind.i64.wrap (t8 + (1 : Int))) fun (v2 : Int) =>
    some (.inl (s', fc_0, t7, v2, ())))) (
   some (.inr (.inl ())))
noncomputable def slices_IndexFunc_v5_l0 (s : (List TProbe) × Int × Int × Int × Unit) : Option (Unit ⊕ (Int × Unit)) := loopM (fun s : (List TProbe) × Int × Int × Int × Unit => slices_IndexFunc_v5_b0 s.1 s.2.1 s.2.2.1 s.2.2.2.1) s
noncomputable def slices_IndexFunc_v5 (s' : List TProbe) (fc_0 : Int) : Option (Int × Unit) :=
  bnd (slices_IndexFunc_v5_l0 (s', fc_0, (↑s'.length : Int), (0 : Int), ())) fun y3 =>
  sumO y3 (fun t4 =>
   some ((-1 : Int), ())) (fun r5 =>
   some (r5))
noncomputable def slices_Delete_Probe (i j : Int) (xs : List TProbe) : Option (List TProbe × Unit) :=
  deleteF xs i j
noncomputable def ops_answered (s' : Int × Int × (List THold) × (List TSweep) × (List (Int × List TSight)) × (List TProbe) × List (Int × Int × Int × Int)) (a' : Int) : Option ((Int × Int × (List THold) × (List TSweep) × (List (Int × List TSight)) × (List TProbe) × List (Int × Int × Int × Int)) × Int × Unit) :=
  bnd (slices_IndexFunc_v5 (s'.snd.snd.snd.snd.snd.fst) (a')) fun y0 =>
  cnd (decide (y0.fst < (0 : Int))) (
   some (s', (7 : Int), ())) (
   bnd (slices_Clone_Probe (s'.snd.snd.snd.snd.snd.fst)) fun y1 =>
   ltO (IntKind.i64.wrap (y0.fst + (1 : Int))) fun (v2 : Int) =>
   bnd (slices_Delete_Probe (y0.fst) (v2) (y1.fst)) fun y3 =>
   some ((s'.fst, s'.snd.fst, s'.snd.snd.fst, s'.snd.snd.snd.fst, s'.snd.snd.snd.snd.fst, y3.fst, s'.snd.snd.snd.snd.snd.snd), (0 : Int), ()))
noncomputable def seen_Keep (ss : List TSight) (s' : Int × TMac × Int) : Option ((List TSight) × Unit) :=
  chk (room (24 : Nat) ss.length) <|
  chk (room (24 : Nat) (ss.length + [(s')].length)) <|
  ltO (IntKind.i64.wrap ((↑(ss ++ [(s')]).length : Int) - (8 : Int))) fun (v0 : Int) =>
  chk (((0 : Int) ≤ if v0 > (0 : Int) then v0 else (0 : Int)) ∧ (if v0 > (0 : Int) then v0 else (0 : Int)) ≤ (↑(ss ++ [(s')]).length : Int) ∧ (↑(ss ++ [(s')]).length : Int) ≤ (↑(ss ++ [(s')]).length : Int)) <|
  chk ((if v0 > (0 : Int) then v0 else (0 : Int)).toNat + ((↑(ss ++ [(s')]).length : Int).toNat - (if v0 > (0 : Int) then v0 else (0 : Int)).toNat) ≤ (ss ++ [(s')]).length) <|
  some (sliceA (if v0 > (0 : Int) then v0 else (0 : Int)).toNat ((if v0 > (0 : Int) then v0 else (0 : Int)).toNat + ((↑(ss ++ [(s')]).length : Int).toNat - (if v0 > (0 : Int) then v0 else (0 : Int)).toNat)) (ss ++ [(s')]), ())
noncomputable def seen_Put (ks : List (Int × List TSight)) (a' : Int) (s' : Int × TMac × Int) : Option (Int × (List (Int × List TSight)) × Unit) :=
  bnd (seen_find (ks) (a')) fun y0 =>
  chk ((!decide (s'.fst < (0 : Int))) = true → (!decide (s'.fst < (0 : Int))) = true) <|
  chk ((!decide (s'.fst < (0 : Int))) = true → (!decide (s'.fst < (0 : Int))) = true) <|
  chk (decide (s'.fst < (0 : Int)) = false → (!decide (s'.fst < (0 : Int))) = true) <|
  ltO (decide (s'.fst < (0 : Int)) || decide (s'.fst ≥ (4 : Int))) fun (v1 : Bool) =>
  cnd (v1) (
   some ((12 : Int), [], ())) (
   bnd (seen_Last (ks) (a')) fun y2 =>
   cnd (decide (s'.snd.snd < if y2.fst > (0 : Int) then y2.fst else (0 : Int))) (
    some ((3 : Int), [], ())) (
    chk ((!y0.snd.fst) = true → (!y0.snd.fst) = true) <|
    chk ((!y0.snd.fst) = true → (!y0.snd.fst) = true) <|
    chk ((!y0.snd.fst) = true → (!y0.snd.fst) = true) <|
    ltO (!y0.snd.fst && decide ((↑ks.length : Int) ≥ (96 : Int))) fun (v3 : Bool) =>
    cnd (v3) (
     some ((4 : Int), [], ())) (
     chk (room (32 : Nat) ks.length) <|
     cnd (y0.snd.fst) (
      chk ((0 : Int) ≤ y0.fst ∧ y0.fst < (↑ks.length : Int)) <|
      chk (y0.fst.toNat < ks.length) <|
      bnd (seen_Keep ((ks.getD y0.fst.toNat ((0 : Int), [])).snd) (s')) fun y4 =>
      chk ((0 : Int) ≤ y0.fst ∧ y0.fst < (↑ks.length : Int)) <|
      chk (y0.fst.toNat < ks.length) <|
      some ((0 : Int), ks.set y0.fst.toNat ((ks.getD y0.fst.toNat ((0 : Int), [])).fst, y4.fst), ())) (
      chk (room (32 : Nat) (ks.length + (1 : Nat))) <|
      ltO (IntKind.i64.wrap (y0.fst + (1 : Int))) fun (v5 : Int) =>
      chk ((0 : Int) ≤ v5 ∧ v5 ≤ (↑(ks ++ [((0 : Int), [])]).length : Int) ∧ (↑(ks ++ [((0 : Int), [])]).length : Int) ≤ (↑(ks ++ [((0 : Int), [])]).length : Int)) <|
      chk ((0 : Int) ≤ y0.fst ∧ y0.fst ≤ (↑(ks ++ [((0 : Int), [])]).length : Int) ∧ (↑(ks ++ [((0 : Int), [])]).length : Int) ≤ (↑(ks ++ [((0 : Int), [])]).length : Int)) <|
      chk (y0.fst.toNat + ((↑(ks ++ [((0 : Int), [])]).length : Int).toNat - y0.fst.toNat) ≤ (ks ++ [((0 : Int), [])]).length) <|
      chk (v5.toNat + ((↑(ks ++ [((0 : Int), [])]).length : Int).toNat - v5.toNat) ≤ (ks ++ [((0 : Int), [])]).length) <|
      chk ((0 : Int) ≤ y0.fst ∧ y0.fst < (↑(cpyA v5.toNat ((↑(ks ++ [((0 : Int), [])]).length : Int).toNat - v5.toNat) (sliceA y0.fst.toNat (y0.fst.toNat + ((↑(ks ++ [((0 : Int), [])]).length : Int).toNat - y0.fst.toNat)) (ks ++ [((0 : Int), [])])) (ks ++ [((0 : Int), [])])).length : Int)) <|
      chk (y0.fst.toNat < (cpyA v5.toNat ((↑(ks ++ [((0 : Int), [])]).length : Int).toNat - v5.toNat) (sliceA y0.fst.toNat (y0.fst.toNat + ((↑(ks ++ [((0 : Int), [])]).length : Int).toNat - y0.fst.toNat)) (ks ++ [((0 : Int), [])])) (ks ++ [((0 : Int), [])])).length) <|
      some ((0 : Int), (cpyA v5.toNat ((↑(ks ++ [((0 : Int), [])]).length : Int).toNat - v5.toNat) (sliceA y0.fst.toNat (y0.fst.toNat + ((↑(ks ++ [((0 : Int), [])]).length : Int).toNat - y0.fst.toNat)) (ks ++ [((0 : Int), [])])) (ks ++ [((0 : Int), [])])).set y0.fst.toNat (a', [(s')]), ())))))
noncomputable def ops_saw (s' : Int × Int × (List THold) × (List TSweep) × (List (Int × List TSight)) × (List TProbe) × List (Int × Int × Int × Int)) (e : Int × THold × (Int × Int) × Int × TMac × Int) : Option ((Int × Int × (List THold) × (List TSweep) × (List (Int × List TSight)) × (List TProbe) × List (Int × Int × Int × Int)) × Int × Unit) :=
  ltO (e.snd.snd.snd.fst == (0 : Int)) fun (v0 : Bool) =>
  cnd (v0) (
   bnd (ops_answered (s') (e.snd.fst.fst)) fun y1 =>
   ltO (y1.snd.fst != (0 : Int)) fun (v2 : Bool) =>
   cnd (v2) (
    some (s', y1.snd.fst, ())) (
    bnd (seen_Put (y1.fst.snd.snd.snd.snd.fst) (e.snd.fst.fst) ((e.snd.snd.snd.fst, zMac, s'.fst))) fun y3 =>
    ltO (y3.fst != (0 : Int)) fun (v4 : Bool) =>
    cnd (v4) (
     some (y1.fst, y3.fst, ())) (
     bnd (cases_Cancel (y1.fst.snd.snd.snd.snd.snd.snd) (e.snd.fst.fst) (y1.fst.fst)) fun y5 =>
     ltO (y5.fst == (0 : Int)) fun (v6 : Bool) =>
     cnd (v6) (
      some ((y1.fst.fst, y1.fst.snd.fst, y1.fst.snd.snd.fst, y1.fst.snd.snd.snd.fst, y3.snd.fst, y1.fst.snd.snd.snd.snd.snd.fst, y5.snd.fst), (0 : Int), ())) (
      some ((y1.fst.fst, y1.fst.snd.fst, y1.fst.snd.snd.fst, y1.fst.snd.snd.snd.fst, y3.snd.fst, y1.fst.snd.snd.snd.snd.snd), (0 : Int), ()))))) (
   bnd (seen_Put (s'.snd.snd.snd.snd.fst) (e.snd.fst.fst) ((e.snd.snd.snd.fst, e.snd.snd.snd.snd.fst, s'.fst))) fun y7 =>
   ltO (y7.fst != (0 : Int)) fun (v8 : Bool) =>
   cnd (v8) (
    some (s', y7.fst, ())) (
    bnd (cases_Cancel (s'.snd.snd.snd.snd.snd.snd) (e.snd.fst.fst) (s'.fst)) fun y9 =>
    ltO (y9.fst == (0 : Int)) fun (v10 : Bool) =>
    cnd (v10) (
     some ((s'.fst, s'.snd.fst, s'.snd.snd.fst, s'.snd.snd.snd.fst, y7.snd.fst, s'.snd.snd.snd.snd.snd.fst, y9.snd.fst), (0 : Int), ())) (
     some ((s'.fst, s'.snd.fst, s'.snd.snd.fst, s'.snd.snd.snd.fst, y7.snd.fst, s'.snd.snd.snd.snd.snd), (0 : Int), ()))))
noncomputable def cases_Approve (cs : List (Int × Int × Int × Int)) (a' : Int) (now : Int) : Option (Int × (List (Int × Int × Int × Int)) × Unit) :=
  bnd (cases_next (cs) (a') ((0 : Int)) ((1 : Int)) (now)) fun y0 =>
  some (y0.fst, y0.snd.fst, ())
noncomputable def ops_lay_v2 (l : List (Int × Int × Int × Int)) (e : Int) (at'_0 : Int) (at'_1 : Int) (at'_2 : List THold) (at'_3 : List TSweep) (at'_4 : List (Int × List TSight)) (at'_5 : List TProbe) (at'_6 : List (Int × Int × Int × Int)) : Option (Int × Int × Int × (List THold) × (List TSweep) × (List (Int × List TSight)) × (List TProbe) × (List (Int × Int × Int × Int)) × Unit) :=
  ltO (e == (0 : Int)) fun (v0 : Bool) =>
  cnd (v0) (
   some (e, at'_0, at'_1, at'_2, at'_3, at'_4, at'_5, l, ())) (
   some (e, at'_0, at'_1, at'_2, at'_3, at'_4, at'_5, at'_6, ()))
noncomputable def cases_Reject (cs : List (Int × Int × Int × Int)) (a' : Int) (now : Int) : Option (Int × (List (Int × Int × Int × Int)) × Unit) :=
  bnd (cases_next (cs) (a') ((0 : Int)) ((2 : Int)) (now)) fun y0 =>
  some (y0.fst, y0.snd.fst, ())
noncomputable def ops_Do (c : Int × Int × Int × Int × Int × Int × Int × Int × Int) (s' : Int × Int × (List THold) × (List TSweep) × (List (Int × List TSight)) × (List TProbe) × List (Int × Int × Int × Int)) (e : Int × THold × (Int × Int) × Int × TMac × Int) : Option ((Int × Int × (List THold) × (List TSweep) × (List (Int × List TSight)) × (List TProbe) × List (Int × Int × Int × Int)) × Int × (List (Bool × Int × Int × TMac × Int × Int)) × Unit) :=
  ltO (e.fst == (0 : Int)) fun (v0 : Bool) =>
  cnd (v0) (
   bnd (ops_tick (c) (s')) fun y1 =>
   some (y1.fst, (0 : Int), y1.snd.fst, ())) (
   ltO (e.fst == (1 : Int)) fun (v2 : Bool) =>
   cnd (v2) (
    bnd (held_Put (s'.snd.snd.fst) (e.snd.fst)) fun y3 =>
    bnd (ops_lay (y3.snd.fst) (y3.fst) (s'.fst) (s'.snd.fst) (s'.snd.snd.fst) (s'.snd.snd.snd.fst) (s'.snd.snd.snd.snd.fst) (s'.snd.snd.snd.snd.snd.fst) (s'.snd.snd.snd.snd.snd.snd)) fun y4 =>
    ltO (y4.fst != (0 : Int)) fun (v5 : Bool) =>
    cnd (v5) (
     some (s', y4.fst, [], ())) (
     some ((y4.snd.fst, y4.snd.snd.fst, y4.snd.snd.snd.fst, y4.snd.snd.snd.snd.fst, y4.snd.snd.snd.snd.snd.fst, y4.snd.snd.snd.snd.snd.snd.fst, y4.snd.snd.snd.snd.snd.snd.snd.fst), (0 : Int), [], ()))) (
    ltO (e.fst == (2 : Int)) fun (v6 : Bool) =>
    cnd (v6) (
     bnd (ops_drop (s') (e.snd.fst.fst)) fun y7 =>
     ltO (y7.snd.fst != (0 : Int)) fun (v8 : Bool) =>
     cnd (v8) (
      some (s', y7.snd.fst, [], ())) (
      some (y7.fst, (0 : Int), [], ()))) (
     ltO (e.fst == (3 : Int)) fun (v9 : Bool) =>
     cnd (v9) (
      bnd (sweep_Put (s'.snd.snd.snd.fst) (e.snd.snd.fst) (s'.fst)) fun y10 =>
      bnd (ops_lay_v1 (y10.snd.fst) (y10.fst) (s'.fst) (s'.snd.fst) (s'.snd.snd.fst) (s'.snd.snd.snd.fst) (s'.snd.snd.snd.snd.fst) (s'.snd.snd.snd.snd.snd.fst) (s'.snd.snd.snd.snd.snd.snd)) fun y11 =>
      ltO (y11.fst != (0 : Int)) fun (v12 : Bool) =>
      cnd (v12) (
       some (s', y11.fst, [], ())) (
       some ((y11.snd.fst, y11.snd.snd.fst, y11.snd.snd.snd.fst, y11.snd.snd.snd.snd.fst, y11.snd.snd.snd.snd.snd.fst, y11.snd.snd.snd.snd.snd.snd.fst, y11.snd.snd.snd.snd.snd.snd.snd.fst), (0 : Int), [], ()))) (
      ltO (e.fst == (4 : Int)) fun (v13 : Bool) =>
      cnd (v13) (
       bnd (sweep_Take (s'.snd.snd.snd.fst) (e.snd.snd.fst)) fun y14 =>
       bnd (ops_lay_v1 (y14.snd.fst) (y14.fst) (s'.fst) (s'.snd.fst) (s'.snd.snd.fst) (s'.snd.snd.snd.fst) (s'.snd.snd.snd.snd.fst) (s'.snd.snd.snd.snd.snd.fst) (s'.snd.snd.snd.snd.snd.snd)) fun y15 =>
       ltO (y15.fst != (0 : Int)) fun (v16 : Bool) =>
       cnd (v16) (
        some (s', y15.fst, [], ())) (
        some ((y15.snd.fst, y15.snd.snd.fst, y15.snd.snd.snd.fst, y15.snd.snd.snd.snd.fst, y15.snd.snd.snd.snd.snd.fst, y15.snd.snd.snd.snd.snd.snd.fst, y15.snd.snd.snd.snd.snd.snd.snd.fst), (0 : Int), [], ()))) (
       ltO (e.fst == (5 : Int)) fun (v17 : Bool) =>
       cnd (v17) (
        bnd (ops_saw (s') (e)) fun y18 =>
        ltO (y18.snd.fst != (0 : Int)) fun (v19 : Bool) =>
        cnd (v19) (
         some (s', y18.snd.fst, [], ())) (
         some (y18.fst, (0 : Int), [], ()))) (
        ltO (e.fst == (6 : Int)) fun (v20 : Bool) =>
        cnd (v20) (
         bnd (cases_Approve (s'.snd.snd.snd.snd.snd.snd) (e.snd.fst.fst) (s'.fst)) fun y21 =>
         bnd (ops_lay_v2 (y21.snd.fst) (y21.fst) (s'.fst) (s'.snd.fst) (s'.snd.snd.fst) (s'.snd.snd.snd.fst) (s'.snd.snd.snd.snd.fst) (s'.snd.snd.snd.snd.snd.fst) (s'.snd.snd.snd.snd.snd.snd)) fun y22 =>
         ltO (y22.fst != (0 : Int)) fun (v23 : Bool) =>
         cnd (v23) (
          some (s', y22.fst, [], ())) (
          some ((y22.snd.fst, y22.snd.snd.fst, y22.snd.snd.snd.fst, y22.snd.snd.snd.snd.fst, y22.snd.snd.snd.snd.snd.fst, y22.snd.snd.snd.snd.snd.snd.fst, y22.snd.snd.snd.snd.snd.snd.snd.fst), (0 : Int), [], ()))) (
         ltO (e.fst == (7 : Int)) fun (v24 : Bool) =>
         cnd (v24) (
          bnd (cases_Reject (s'.snd.snd.snd.snd.snd.snd) (e.snd.fst.fst) (s'.fst)) fun y25 =>
          bnd (ops_lay_v2 (y25.snd.fst) (y25.fst) (s'.fst) (s'.snd.fst) (s'.snd.snd.fst) (s'.snd.snd.snd.fst) (s'.snd.snd.snd.snd.fst) (s'.snd.snd.snd.snd.snd.fst) (s'.snd.snd.snd.snd.snd.snd)) fun y26 =>
          ltO (y26.fst != (0 : Int)) fun (v27 : Bool) =>
          cnd (v27) (
           some (s', y26.fst, [], ())) (
           some ((y26.snd.fst, y26.snd.snd.fst, y26.snd.snd.snd.fst, y26.snd.snd.snd.snd.fst, y26.snd.snd.snd.snd.snd.fst, y26.snd.snd.snd.snd.snd.snd.fst, y26.snd.snd.snd.snd.snd.snd.snd.fst), (0 : Int), [], ()))) (
          ltO ((12 : Int) != (0 : Int)) fun (v28 : Bool) =>
          cnd (v28) (
           some (s', (12 : Int), [], ())) (
           some (s', (0 : Int), [], ()))))))))))
noncomputable def terrierlaw18_Some_b0 (t10 : Int) (t11 : Int) (c : Int × Int × Int × Int × Int × Int × Int × Int × Int) (x : Int × Int × (List THold) × (List TSweep) × (List (Int × List TSight)) × (List TProbe) × List (Int × Int × Int × Int)) (s' : Int × Int × (List THold) × (List TSweep) × (List (Int × List TSight)) × (List TProbe) × List (Int × Int × Int × Int)) (x' : List TEv) : Option ((Int × Int × TCfg × (Int × Int × (List THold) × (List TSweep) × (List (Int × List TSight)) × (List TProbe) × List (Int × Int × Int × Int)) × (Int × Int × (List THold) × (List TSweep) × (List (Int × List TSight)) × (List TProbe) × List (Int × Int × Int × Int)) × (List TEv) × Unit) ⊕ (((Int × Int × (List THold) × (List TSweep) × (List (Int × List TSight)) × (List TProbe) × List (Int × Int × Int × Int)) × (Int × Int × (List THold) × (List TSweep) × (List (Int × List TSight)) × (List TProbe) × List (Int × Int × Int × Int)) × Unit) ⊕ ((Int × Int × (List THold) × (List TSweep) × (List (Int × List TSight)) × (List TProbe) × List (Int × Int × Int × Int)) × Unit))) :=
  cnd (decide (t11 < t10)) (
   chk ((0 : Int) ≤ t11 ∧ t11 < (↑x'.length : Int)) <|
   chk (t11.toNat < x'.length) <|
   bnd (ops_Do (c) (s') (((x'.getD t11.toNat zEv).fst, ((x'.getD t11.toNat zEv).snd.fst.fst, (x'.getD t11.toNat zEv).snd.fst.snd.fst, (x'.getD t11.toNat zEv).snd.fst.snd.snd.fst, (x'.getD t11.toNat zEv).snd.fst.snd.snd.snd.fst, (x'.getD t11.toNat zEv).snd.fst.snd.snd.snd.snd.fst, (x'.getD t11.toNat zEv).snd.fst.snd.snd.snd.snd.snd.fst, (x'.getD t11.toNat zEv).snd.fst.snd.snd.snd.snd.snd.snd.fst, (x'.getD t11.toNat zEv).snd.fst.snd.snd.snd.snd.snd.snd.snd), ((x'.getD t11.toNat zEv).snd.snd.fst.fst, (x'.getD t11.toNat zEv).snd.snd.fst.snd), (x'.getD t11.toNat zEv).snd.snd.snd.fst, ((x'.getD t11.toNat zEv).snd.snd.snd.snd.fst.fst, (x'.getD t11.toNat zEv).snd.snd.snd.snd.fst.snd.fst, (x'.getD t11.toNat zEv).snd.snd.snd.snd.fst.snd.snd.fst, (x'.getD t11.toNat zEv).snd.snd.snd.snd.fst.snd.snd.snd.fst, (x'.getD t11.toNat zEv).snd.snd.snd.snd.fst.snd.snd.snd.snd.fst, (x'.getD t11.toNat zEv).snd.snd.snd.snd.fst.snd.snd.snd.snd.snd), (x'.getD t11.toNat zEv).snd.snd.snd.snd.snd))) fun y1 =>
   ltO (IntKind.i64.wrap (t11 + (1 : Int))) fun (v2 : Int) =>
   some (.inl (t10, v2, c, x, y1.fst, x', ()))) (
   some (.inr (.inl (x, s', ()))))
noncomputable def terrierlaw18_Some_l0 (s : Int × Int × TCfg × (Int × Int × (List THold) × (List TSweep) × (List (Int × List TSight)) × (List TProbe) × List (Int × Int × Int × Int)) × (Int × Int × (List THold) × (List TSweep) × (List (Int × List TSight)) × (List TProbe) × List (Int × Int × Int × Int)) × (List TEv) × Unit) : Option (((Int × Int × (List THold) × (List TSweep) × (List (Int × List TSight)) × (List TProbe) × List (Int × Int × Int × Int)) × (Int × Int × (List THold) × (List TSweep) × (List (Int × List TSight)) × (List TProbe) × List (Int × Int × Int × Int)) × Unit) ⊕ ((Int × Int × (List THold) × (List TSweep) × (List (Int × List TSight)) × (List TProbe) × List (Int × Int × Int × Int)) × Unit)) := loopM (fun s : Int × Int × TCfg × (Int × Int × (List THold) × (List TSweep) × (List (Int × List TSight)) × (List TProbe) × List (Int × Int × Int × Int)) × (Int × Int × (List THold) × (List TSweep) × (List (Int × List TSight)) × (List TProbe) × List (Int × Int × Int × Int)) × (List TEv) × Unit => terrierlaw18_Some_b0 s.1 s.2.1 s.2.2.1 s.2.2.2.1 s.2.2.2.2.1 s.2.2.2.2.2.1) s
noncomputable def terrierlaw18_Some (c : Int × Int × Int × Int × Int × Int × Int × Int × Int) (acts : List TMac) : Option ((Int × Int × (List THold) × (List TSweep) × (List (Int × List TSight)) × (List TProbe) × List (Int × Int × Int × Int)) × Unit) :=
  bnd (terrierlaw18_Events (acts)) fun y0 =>
  bnd (terrierlaw18_Some_l0 ((↑y0.fst.length : Int), (0 : Int), c, ((0 : Int), (0 : Int), [], [], [], [], []), ((0 : Int), (0 : Int), [], [], [], [], []), y0.fst, ())) fun y3 =>
  sumO y3 (fun t4 =>
   some (t4.snd.fst, ())) (fun r5 =>
   some (r5))
noncomputable def terrierlaw18_Same_b0 (ok : Bool) (t71 : Int) (t72 : Int) (a' : Int × Int × (List THold) × (List TSweep) × (List (Int × List TSight)) × (List TProbe) × List (Int × Int × Int × Int)) (b : Int × Int × (List THold) × (List TSweep) × (List (Int × List TSight)) × (List TProbe) × List (Int × Int × Int × Int)) : Option ((Bool × Int × Int × (Int × Int × (List THold) × (List TSweep) × (List (Int × List TSight)) × (List TProbe) × List (Int × Int × Int × Int)) × (Int × Int × (List THold) × (List TSweep) × (List (Int × List TSight)) × (List TProbe) × List (Int × Int × Int × Int)) × Unit) ⊕ ((Bool × (Int × Int × (List THold) × (List TSweep) × (List (Int × List TSight)) × (List TProbe) × List (Int × Int × Int × Int)) × (Int × Int × (List THold) × (List TSweep) × (List (Int × List TSight)) × (List TProbe) × List (Int × Int × Int × Int)) × Unit) ⊕ (Bool × Unit))) :=
  cnd (decide (t72 < t71)) (
   chk (ok = true → ok = true) <|
   chk (ok = true → ok = true) <|
   chk (ok = true → ok = true) <|
   chk (ok = true → (0 : Int) ≤ t72 ∧ t72 < (↑a'.snd.snd.fst.length : Int)) <|
   ltO ((Option.rec zHold (fun val => val) a'.snd.snd.fst[t72.toNat]?)) fun (v13 : Int × (List UInt8) × Int × Int × Int × Int × Int × Int) =>
   chk (ok = true → ok = true) <|
   chk (ok = true → ok = true) <|
   chk (ok = true → ok = true) <|
   chk (ok = true → ok = true) <|
   chk (ok = true → (0 : Int) ≤ t72 ∧ t72 < (↑b.snd.snd.fst.length : Int)) <|
   ltO ((Option.rec zHold (fun val => val) b.snd.snd.fst[t72.toNat]?)) fun (v14 : Int × (List UInt8) × Int × Int × Int × Int × Int × Int) =>
   chk (ok = true → ok = true) <|
   chk (ok = true → ok = true) <|
   chk (ok = true → ok = true) <|
   ltO (v13 == v14) fun (v15 : Bool) =>
   chk (ok = true → ok = true) <|
   ltO (ok && v15) fun (v16 : Bool) =>
   ltO (IntKind.i64.wrap (t72 + (1 : Int))) fun (v17 : Int) =>
   some (.inl (v16, t71, v17, a', b, ()))) (
   some (.inr (.inl (ok, a', b, ()))))
noncomputable def terrierlaw18_Same_l0 (s : Bool × Int × Int × (Int × Int × (List THold) × (List TSweep) × (List (Int × List TSight)) × (List TProbe) × List (Int × Int × Int × Int)) × (Int × Int × (List THold) × (List TSweep) × (List (Int × List TSight)) × (List TProbe) × List (Int × Int × Int × Int)) × Unit) : Option ((Bool × (Int × Int × (List THold) × (List TSweep) × (List (Int × List TSight)) × (List TProbe) × List (Int × Int × Int × Int)) × (Int × Int × (List THold) × (List TSweep) × (List (Int × List TSight)) × (List TProbe) × List (Int × Int × Int × Int)) × Unit) ⊕ (Bool × Unit)) := loopM (fun s : Bool × Int × Int × (Int × Int × (List THold) × (List TSweep) × (List (Int × List TSight)) × (List TProbe) × List (Int × Int × Int × Int)) × (Int × Int × (List THold) × (List TSweep) × (List (Int × List TSight)) × (List TProbe) × List (Int × Int × Int × Int)) × Unit => terrierlaw18_Same_b0 s.1 s.2.1 s.2.2.1 s.2.2.2.1 s.2.2.2.2.1) s
noncomputable def terrierlaw18_Same_b1 (ok : Bool) (t92 : Int) (t93 : Int) (a' : Int × Int × (List THold) × (List TSweep) × (List (Int × List TSight)) × (List TProbe) × List (Int × Int × Int × Int)) (b : Int × Int × (List THold) × (List TSweep) × (List (Int × List TSight)) × (List TProbe) × List (Int × Int × Int × Int)) : Option ((Bool × Int × Int × (Int × Int × (List THold) × (List TSweep) × (List (Int × List TSight)) × (List TProbe) × List (Int × Int × Int × Int)) × (Int × Int × (List THold) × (List TSweep) × (List (Int × List TSight)) × (List TProbe) × List (Int × Int × Int × Int)) × Unit) ⊕ ((Bool × (Int × Int × (List THold) × (List TSweep) × (List (Int × List TSight)) × (List TProbe) × List (Int × Int × Int × Int)) × (Int × Int × (List THold) × (List TSweep) × (List (Int × List TSight)) × (List TProbe) × List (Int × Int × Int × Int)) × Unit) ⊕ (Bool × Unit))) :=
  cnd (decide (t93 < t92)) (
   chk (ok = true → ok = true) <|
   chk (ok = true → ok = true) <|
   chk (ok = true → ok = true) <|
   chk (ok = true → (0 : Int) ≤ t93 ∧ t93 < (↑a'.snd.snd.snd.fst.length : Int)) <|
   ltO ((Option.rec zSweep (fun val => val) a'.snd.snd.snd.fst[t93.toNat]?)) fun (v21 : (Int × Int) × Int × Int) =>
   chk (ok = true → ok = true) <|
   chk (ok = true → ok = true) <|
   chk (ok = true → ok = true) <|
   chk (ok = true → ok = true) <|
   chk (ok = true → (0 : Int) ≤ t93 ∧ t93 < (↑b.snd.snd.snd.fst.length : Int)) <|
   ltO ((Option.rec zSweep (fun val => val) b.snd.snd.snd.fst[t93.toNat]?)) fun (v22 : (Int × Int) × Int × Int) =>
   chk (ok = true → ok = true) <|
   chk (ok = true → ok = true) <|
   chk (ok = true → ok = true) <|
   ltO (v21 == v22) fun (v23 : Bool) =>
   chk (ok = true → ok = true) <|
   ltO (ok && v23) fun (v24 : Bool) =>
   ltO (IntKind.i64.wrap (t93 + (1 : Int))) fun (v25 : Int) =>
   some (.inl (v24, t92, v25, a', b, ()))) (
   some (.inr (.inl (ok, a', b, ()))))
noncomputable def terrierlaw18_Same_l1 (s : Bool × Int × Int × (Int × Int × (List THold) × (List TSweep) × (List (Int × List TSight)) × (List TProbe) × List (Int × Int × Int × Int)) × (Int × Int × (List THold) × (List TSweep) × (List (Int × List TSight)) × (List TProbe) × List (Int × Int × Int × Int)) × Unit) : Option ((Bool × (Int × Int × (List THold) × (List TSweep) × (List (Int × List TSight)) × (List TProbe) × List (Int × Int × Int × Int)) × (Int × Int × (List THold) × (List TSweep) × (List (Int × List TSight)) × (List TProbe) × List (Int × Int × Int × Int)) × Unit) ⊕ (Bool × Unit)) := loopM (fun s : Bool × Int × Int × (Int × Int × (List THold) × (List TSweep) × (List (Int × List TSight)) × (List TProbe) × List (Int × Int × Int × Int)) × (Int × Int × (List THold) × (List TSweep) × (List (Int × List TSight)) × (List TProbe) × List (Int × Int × Int × Int)) × Unit => terrierlaw18_Same_b1 s.1 s.2.1 s.2.2.1 s.2.2.2.1 s.2.2.2.2.1) s
noncomputable def terrierlaw18_Same_b2 (ok : Bool) (t113 : Int) (t114 : Int) (a' : Int × Int × (List THold) × (List TSweep) × (List (Int × List TSight)) × (List TProbe) × List (Int × Int × Int × Int)) (b : Int × Int × (List THold) × (List TSweep) × (List (Int × List TSight)) × (List TProbe) × List (Int × Int × Int × Int)) : Option ((Bool × Int × Int × (Int × Int × (List THold) × (List TSweep) × (List (Int × List TSight)) × (List TProbe) × List (Int × Int × Int × Int)) × (Int × Int × (List THold) × (List TSweep) × (List (Int × List TSight)) × (List TProbe) × List (Int × Int × Int × Int)) × Unit) ⊕ ((Bool × (Int × Int × (List THold) × (List TSweep) × (List (Int × List TSight)) × (List TProbe) × List (Int × Int × Int × Int)) × (Int × Int × (List THold) × (List TSweep) × (List (Int × List TSight)) × (List TProbe) × List (Int × Int × Int × Int)) × Unit) ⊕ (Bool × Unit))) :=
  cnd (decide (t114 < t113)) (
   chk (ok = true → ok = true) <|
   chk (ok = true → ok = true) <|
   chk (ok = true → ok = true) <|
   chk (ok = true → (0 : Int) ≤ t114 ∧ t114 < (↑a'.snd.snd.snd.snd.snd.fst.length : Int)) <|
   ltO ((Option.rec ((0 : Int), (0 : Int), (0 : Int), (0 : Int), (0 : Int)) (fun val => val) a'.snd.snd.snd.snd.snd.fst[t114.toNat]?)) fun (v29 : Int × Int × Int × Int × Int) =>
   chk (ok = true → ok = true) <|
   chk (ok = true → ok = true) <|
   chk (ok = true → ok = true) <|
   chk (ok = true → ok = true) <|
   chk (ok = true → (0 : Int) ≤ t114 ∧ t114 < (↑b.snd.snd.snd.snd.snd.fst.length : Int)) <|
   ltO ((Option.rec ((0 : Int), (0 : Int), (0 : Int), (0 : Int), (0 : Int)) (fun val => val) b.snd.snd.snd.snd.snd.fst[t114.toNat]?)) fun (v30 : Int × Int × Int × Int × Int) =>
   chk (ok = true → ok = true) <|
   chk (ok = true → ok = true) <|
   chk (ok = true → ok = true) <|
   ltO (v29 == v30) fun (v31 : Bool) =>
   chk (ok = true → ok = true) <|
   ltO (ok && v31) fun (v32 : Bool) =>
   ltO (IntKind.i64.wrap (t114 + (1 : Int))) fun (v33 : Int) =>
   some (.inl (v32, t113, v33, a', b, ()))) (
   some (.inr (.inl (ok, a', b, ()))))
noncomputable def terrierlaw18_Same_l2 (s : Bool × Int × Int × (Int × Int × (List THold) × (List TSweep) × (List (Int × List TSight)) × (List TProbe) × List (Int × Int × Int × Int)) × (Int × Int × (List THold) × (List TSweep) × (List (Int × List TSight)) × (List TProbe) × List (Int × Int × Int × Int)) × Unit) : Option ((Bool × (Int × Int × (List THold) × (List TSweep) × (List (Int × List TSight)) × (List TProbe) × List (Int × Int × Int × Int)) × (Int × Int × (List THold) × (List TSweep) × (List (Int × List TSight)) × (List TProbe) × List (Int × Int × Int × Int)) × Unit) ⊕ (Bool × Unit)) := loopM (fun s : Bool × Int × Int × (Int × Int × (List THold) × (List TSweep) × (List (Int × List TSight)) × (List TProbe) × List (Int × Int × Int × Int)) × (Int × Int × (List THold) × (List TSweep) × (List (Int × List TSight)) × (List TProbe) × List (Int × Int × Int × Int)) × Unit => terrierlaw18_Same_b2 s.1 s.2.1 s.2.2.1 s.2.2.2.1 s.2.2.2.2.1) s
noncomputable def terrierlaw18_Same_b3 (ok : Bool) (t134 : Int) (t135 : Int) (a' : Int × Int × (List THold) × (List TSweep) × (List (Int × List TSight)) × (List TProbe) × List (Int × Int × Int × Int)) (b : Int × Int × (List THold) × (List TSweep) × (List (Int × List TSight)) × (List TProbe) × List (Int × Int × Int × Int)) : Option ((Bool × Int × Int × (Int × Int × (List THold) × (List TSweep) × (List (Int × List TSight)) × (List TProbe) × List (Int × Int × Int × Int)) × (Int × Int × (List THold) × (List TSweep) × (List (Int × List TSight)) × (List TProbe) × List (Int × Int × Int × Int)) × Unit) ⊕ ((Bool × (Int × Int × (List THold) × (List TSweep) × (List (Int × List TSight)) × (List TProbe) × List (Int × Int × Int × Int)) × (Int × Int × (List THold) × (List TSweep) × (List (Int × List TSight)) × (List TProbe) × List (Int × Int × Int × Int)) × Unit) ⊕ (Bool × Unit))) :=
  cnd (decide (t135 < t134)) (
   chk (ok = true → ok = true) <|
   chk (ok = true → ok = true) <|
   chk (ok = true → ok = true) <|
   chk (ok = true → (0 : Int) ≤ t135 ∧ t135 < (↑a'.snd.snd.snd.snd.snd.snd.length : Int)) <|
   ltO ((Option.rec ((0 : Int), (0 : Int), (0 : Int), (0 : Int)) (fun val => val) a'.snd.snd.snd.snd.snd.snd[t135.toNat]?)) fun (v37 : Int × Int × Int × Int) =>
   chk (ok = true → ok = true) <|
   chk (ok = true → ok = true) <|
   chk (ok = true → ok = true) <|
   chk (ok = true → ok = true) <|
   chk (ok = true → (0 : Int) ≤ t135 ∧ t135 < (↑b.snd.snd.snd.snd.snd.snd.length : Int)) <|
   ltO ((Option.rec ((0 : Int), (0 : Int), (0 : Int), (0 : Int)) (fun val => val) b.snd.snd.snd.snd.snd.snd[t135.toNat]?)) fun (v38 : Int × Int × Int × Int) =>
   chk (ok = true → ok = true) <|
   chk (ok = true → ok = true) <|
   chk (ok = true → ok = true) <|
   ltO (v37 == v38) fun (v39 : Bool) =>
   chk (ok = true → ok = true) <|
   ltO (ok && v39) fun (v40 : Bool) =>
   ltO (IntKind.i64.wrap (t135 + (1 : Int))) fun (v41 : Int) =>
   some (.inl (v40, t134, v41, a', b, ()))) (
   some (.inr (.inl (ok, a', b, ()))))
noncomputable def terrierlaw18_Same_l3 (s : Bool × Int × Int × (Int × Int × (List THold) × (List TSweep) × (List (Int × List TSight)) × (List TProbe) × List (Int × Int × Int × Int)) × (Int × Int × (List THold) × (List TSweep) × (List (Int × List TSight)) × (List TProbe) × List (Int × Int × Int × Int)) × Unit) : Option ((Bool × (Int × Int × (List THold) × (List TSweep) × (List (Int × List TSight)) × (List TProbe) × List (Int × Int × Int × Int)) × (Int × Int × (List THold) × (List TSweep) × (List (Int × List TSight)) × (List TProbe) × List (Int × Int × Int × Int)) × Unit) ⊕ (Bool × Unit)) := loopM (fun s : Bool × Int × Int × (Int × Int × (List THold) × (List TSweep) × (List (Int × List TSight)) × (List TProbe) × List (Int × Int × Int × Int)) × (Int × Int × (List THold) × (List TSweep) × (List (Int × List TSight)) × (List TProbe) × List (Int × Int × Int × Int)) × Unit => terrierlaw18_Same_b3 s.1 s.2.1 s.2.2.1 s.2.2.2.1 s.2.2.2.2.1) s
noncomputable def terrierlaw18_Same_b5 (ok : Bool) (k : Int) (i : Int) (t155 : Int) (t156 : Int) (a' : Int × Int × (List THold) × (List TSweep) × (List (Int × List TSight)) × (List TProbe) × List (Int × Int × Int × Int)) (b : Int × Int × (List THold) × (List TSweep) × (List (Int × List TSight)) × (List TProbe) × List (Int × Int × Int × Int)) : Option ((Bool × Int × Int × Int × Int × (Int × Int × (List THold) × (List TSweep) × (List (Int × List TSight)) × (List TProbe) × List (Int × Int × Int × Int)) × (Int × Int × (List THold) × (List TSweep) × (List (Int × List TSight)) × (List TProbe) × List (Int × Int × Int × Int)) × Unit) ⊕ ((Bool × Int × Int × (Int × Int × (List THold) × (List TSweep) × (List (Int × List TSight)) × (List TProbe) × List (Int × Int × Int × Int)) × (Int × Int × (List THold) × (List TSweep) × (List (Int × List TSight)) × (List TProbe) × List (Int × Int × Int × Int)) × Unit) ⊕ (Bool × Unit))) :=
  chk (ok = true → ok = true) <|
  chk (ok = true → ok = true) <|
  chk (ok = true → ok = true) <|
  chk (ok = true → (0 : Int) ≤ k ∧ k < (↑a'.snd.snd.snd.snd.fst.length : Int)) <|
  ltO ((Option.rec ((0 : Int), []) (fun val => val) a'.snd.snd.snd.snd.fst[k.toNat]?)) fun (v53 : Int × List TSight) =>
  chk (ok = true → ok = true) <|
  chk (ok = true → ok = true) <|
  chk (ok = true → ok = true) <|
  chk (ok = true → ok = true) <|
  chk (ok = true → ok = true) <|
  chk (ok = true → ok = true) <|
  ltO (ok && decide (i < (↑v53.snd.length : Int))) fun (v54 : Bool) =>
  cnd (v54) (
   chk ((0 : Int) ≤ k ∧ k < (↑a'.snd.snd.snd.snd.fst.length : Int)) <|
   ltO ((Option.rec ((0 : Int), []) (fun val => val) a'.snd.snd.snd.snd.fst[k.toNat]?)) fun (v55 : Int × List TSight) =>
   chk ((0 : Int) ≤ i ∧ i < (↑v55.snd.length : Int)) <|
   ltO ((Option.rec zSight (fun val => val) v55.snd[i.toNat]?)) fun (v56 : Int × TMac × Int) =>
   chk ((0 : Int) ≤ k ∧ k < (↑b.snd.snd.snd.snd.fst.length : Int)) <|
   ltO ((Option.rec ((0 : Int), []) (fun val => val) b.snd.snd.snd.snd.fst[k.toNat]?)) fun (v57 : Int × List TSight) =>
   chk ((0 : Int) ≤ i ∧ i < (↑v57.snd.length : Int)) <|
   ltO ((Option.rec zSight (fun val => val) v57.snd[i.toNat]?)) fun (v58 : Int × TMac × Int) =>
   ltO (v56 == v58) fun (v59 : Bool) =>
   ltO (IntKind.i64.wrap (i + (1 : Int))) fun (v60 : Int) =>
   some (.inl (v59, k, v60, t155, t156, a', b, ()))) (
   some (.inr (.inl (ok, t155, t156, a', b, ()))))
noncomputable def terrierlaw18_Same_l5 (s : Bool × Int × Int × Int × Int × (Int × Int × (List THold) × (List TSweep) × (List (Int × List TSight)) × (List TProbe) × List (Int × Int × Int × Int)) × (Int × Int × (List THold) × (List TSweep) × (List (Int × List TSight)) × (List TProbe) × List (Int × Int × Int × Int)) × Unit) : Option ((Bool × Int × Int × (Int × Int × (List THold) × (List TSweep) × (List (Int × List TSight)) × (List TProbe) × List (Int × Int × Int × Int)) × (Int × Int × (List THold) × (List TSweep) × (List (Int × List TSight)) × (List TProbe) × List (Int × Int × Int × Int)) × Unit) ⊕ (Bool × Unit)) := loopM (fun s : Bool × Int × Int × Int × Int × (Int × Int × (List THold) × (List TSweep) × (List (Int × List TSight)) × (List TProbe) × List (Int × Int × Int × Int)) × (Int × Int × (List THold) × (List TSweep) × (List (Int × List TSight)) × (List TProbe) × List (Int × Int × Int × Int)) × Unit => terrierlaw18_Same_b5 s.1 s.2.1 s.2.2.1 s.2.2.2.1 s.2.2.2.2.1 s.2.2.2.2.2.1 s.2.2.2.2.2.2.1) s
noncomputable def terrierlaw18_Same_b4 (ok : Bool) (t155 : Int) (t156 : Int) (a' : Int × Int × (List THold) × (List TSweep) × (List (Int × List TSight)) × (List TProbe) × List (Int × Int × Int × Int)) (b : Int × Int × (List THold) × (List TSweep) × (List (Int × List TSight)) × (List TProbe) × List (Int × Int × Int × Int)) : Option ((Bool × Int × Int × (Int × Int × (List THold) × (List TSweep) × (List (Int × List TSight)) × (List TProbe) × List (Int × Int × Int × Int)) × (Int × Int × (List THold) × (List TSweep) × (List (Int × List TSight)) × (List TProbe) × List (Int × Int × Int × Int)) × Unit) ⊕ ((Bool × Unit) ⊕ (Bool × Unit))) :=
  cnd (decide (t156 < t155)) (
   chk (ok = true → ok = true) <|
   chk (ok = true → ok = true) <|
   chk (ok = true → ok = true) <|
   chk (ok = true → (0 : Int) ≤ t156 ∧ t156 < (↑a'.snd.snd.snd.snd.fst.length : Int)) <|
   ltO ((Option.rec ((0 : Int), []) (fun val => val) a'.snd.snd.snd.snd.fst[t156.toNat]?)) fun (v45 : Int × List TSight) =>
   chk (ok = true → ok = true) <|
   chk (ok = true → ok = true) <|
   chk (ok = true → ok = true) <|
   chk (ok = true → ok = true) <|
   chk (ok = true → ok = true) <|
   chk (ok = true → (0 : Int) ≤ t156 ∧ t156 < (↑b.snd.snd.snd.snd.fst.length : Int)) <|
   ltO ((Option.rec ((0 : Int), []) (fun val => val) b.snd.snd.snd.snd.fst[t156.toNat]?)) fun (v46 : Int × List TSight) =>
   chk (ok = true → ok = true) <|
   chk (ok = true → ok = true) <|
   chk (ok = true → ok = true) <|
   chk (ok = true → ok = true) <|
   ltO (v45.fst == v46.fst) fun (v47 : Bool) =>
   chk (ok = true → ok = true) <|
   ltO (ok && v47) fun (v48 : Bool) =>
   chk (v48 = true → v48 = true) <|
   chk (v48 = true → v48 = true) <|
   chk (v48 = true → v48 = true) <|
   chk (v48 = true → (0 : Int) ≤ t156 ∧ t156 < (↑a'.snd.snd.snd.snd.fst.length : Int)) <|
   ltO ((Option.rec ((0 : Int), []) (fun val => val) a'.snd.snd.snd.snd.fst[t156.toNat]?)) fun (v49 : Int × List TSight) =>
   chk (v48 = true → v48 = true) <|
   chk (v48 = true → v48 = true) <|
   chk (v48 = true → v48 = true) <|
   chk (v48 = true → v48 = true) <|
   chk (v48 = true → v48 = true) <|
   chk (v48 = true → v48 = true) <|
   chk (v48 = true → (0 : Int) ≤ t156 ∧ t156 < (↑b.snd.snd.snd.snd.fst.length : Int)) <|
   ltO ((Option.rec ((0 : Int), []) (fun val => val) b.snd.snd.snd.snd.fst[t156.toNat]?)) fun (v50 : Int × List TSight) =>
   chk (v48 = true → v48 = true) <|
   chk (v48 = true → v48 = true) <|
   chk (v48 = true → v48 = true) <|
   chk (v48 = true → v48 = true) <|
   chk (v48 = true → v48 = true) <|
   ltO ((↑v49.snd.length : Int) == (↑v50.snd.length : Int)) fun (v51 : Bool) =>
   chk (v48 = true → v48 = true) <|
   ltO (v48 && v51) fun (v52 : Bool) =>
   bnd (terrierlaw18_Same_l5 (v52, t156, (0 : Int), t155, t156, a', b, ())) fun y61 =>
   sumO y61 (fun t62 =>
    ltO (IntKind.i64.wrap (t62.snd.snd.fst + (1 : Int))) fun (v64 : Int) =>
    some (.inl (t62.fst, t62.snd.fst, v64, t62.snd.snd.snd.fst, t62.snd.snd.snd.snd.fst, ()))) (fun r63 =>
    some (.inr (.inr (r63))))) (
   some (.inr (.inl (ok, ()))))
noncomputable def terrierlaw18_Same_l4 (s : Bool × Int × Int × (Int × Int × (List THold) × (List TSweep) × (List (Int × List TSight)) × (List TProbe) × List (Int × Int × Int × Int)) × (Int × Int × (List THold) × (List TSweep) × (List (Int × List TSight)) × (List TProbe) × List (Int × Int × Int × Int)) × Unit) : Option ((Bool × Unit) ⊕ (Bool × Unit)) := loopM (fun s : Bool × Int × Int × (Int × Int × (List THold) × (List TSweep) × (List (Int × List TSight)) × (List TProbe) × List (Int × Int × Int × Int)) × (Int × Int × (List THold) × (List TSweep) × (List (Int × List TSight)) × (List TProbe) × List (Int × Int × Int × Int)) × Unit => terrierlaw18_Same_b4 s.1 s.2.1 s.2.2.1 s.2.2.2.1 s.2.2.2.2.1) s
noncomputable def terrierlaw18_Same (a' : Int × Int × (List THold) × (List TSweep) × (List (Int × List TSight)) × (List TProbe) × List (Int × Int × Int × Int)) (b : Int × Int × (List THold) × (List TSweep) × (List (Int × List TSight)) × (List TProbe) × List (Int × Int × Int × Int)) : Option (Bool × Unit) :=
  ltO (a'.fst != b.fst) fun (v0 : Bool) =>
  chk ((!v0) = true → (!v0) = true) <|
  chk ((!v0) = true → (!v0) = true) <|
  chk ((!v0) = true → (!v0) = true) <|
  chk ((!v0) = true → (!v0) = true) <|
  ltO (a'.snd.fst != b.snd.fst) fun (v1 : Bool) =>
  chk (v0 = false → (!v0) = true) <|
  ltO (v0 || v1) fun (v2 : Bool) =>
  chk ((!v2) = true → (!v2) = true) <|
  chk ((!v2) = true → (!v2) = true) <|
  chk ((!v2) = true → (!v2) = true) <|
  chk ((!v2) = true → (!v2) = true) <|
  chk ((!v2) = true → (!v2) = true) <|
  chk ((!v2) = true → (!v2) = true) <|
  ltO ((↑a'.snd.snd.fst.length : Int) != (↑b.snd.snd.fst.length : Int)) fun (v3 : Bool) =>
  chk (v2 = false → (!v2) = true) <|
  ltO (v2 || v3) fun (v4 : Bool) =>
  chk ((!v4) = true → (!v4) = true) <|
  chk ((!v4) = true → (!v4) = true) <|
  chk ((!v4) = true → (!v4) = true) <|
  chk ((!v4) = true → (!v4) = true) <|
  chk ((!v4) = true → (!v4) = true) <|
  chk ((!v4) = true → (!v4) = true) <|
  ltO ((↑a'.snd.snd.snd.fst.length : Int) != (↑b.snd.snd.snd.fst.length : Int)) fun (v5 : Bool) =>
  chk (v4 = false → (!v4) = true) <|
  ltO (v4 || v5) fun (v6 : Bool) =>
  chk ((!v6) = true → (!v6) = true) <|
  chk ((!v6) = true → (!v6) = true) <|
  chk ((!v6) = true → (!v6) = true) <|
  chk ((!v6) = true → (!v6) = true) <|
  chk ((!v6) = true → (!v6) = true) <|
  chk ((!v6) = true → (!v6) = true) <|
  ltO ((↑a'.snd.snd.snd.snd.fst.length : Int) != (↑b.snd.snd.snd.snd.fst.length : Int)) fun (v7 : Bool) =>
  chk (v6 = false → (!v6) = true) <|
  ltO (v6 || v7) fun (v8 : Bool) =>
  chk ((!v8) = true → (!v8) = true) <|
  chk ((!v8) = true → (!v8) = true) <|
  chk ((!v8) = true → (!v8) = true) <|
  chk ((!v8) = true → (!v8) = true) <|
  chk ((!v8) = true → (!v8) = true) <|
  chk ((!v8) = true → (!v8) = true) <|
  ltO ((↑a'.snd.snd.snd.snd.snd.fst.length : Int) != (↑b.snd.snd.snd.snd.snd.fst.length : Int)) fun (v9 : Bool) =>
  chk (v8 = false → (!v8) = true) <|
  ltO (v8 || v9) fun (v10 : Bool) =>
  chk ((!v10) = true → (!v10) = true) <|
  chk ((!v10) = true → (!v10) = true) <|
  chk ((!v10) = true → (!v10) = true) <|
  chk ((!v10) = true → (!v10) = true) <|
  chk ((!v10) = true → (!v10) = true) <|
  chk ((!v10) = true → (!v10) = true) <|
  ltO ((↑a'.snd.snd.snd.snd.snd.snd.length : Int) != (↑b.snd.snd.snd.snd.snd.snd.length : Int)) fun (v11 : Bool) =>
  chk (v10 = false → (!v10) = true) <|
  ltO (v10 || v11) fun (v12 : Bool) =>
  cnd (v12) (
   some (false, ())) (
   bnd (terrierlaw18_Same_l0 (true, (↑a'.snd.snd.fst.length : Int), (0 : Int), a', b, ())) fun y18 =>
   sumO y18 (fun t19 =>
    bnd (terrierlaw18_Same_l1 (t19.fst, (↑t19.snd.fst.snd.snd.snd.fst.length : Int), (0 : Int), t19.snd.fst, t19.snd.snd.fst, ())) fun y26 =>
    sumO y26 (fun t27 =>
     bnd (terrierlaw18_Same_l2 (t27.fst, (↑t27.snd.fst.snd.snd.snd.snd.snd.fst.length : Int), (0 : Int), t27.snd.fst, t27.snd.snd.fst, ())) fun y34 =>
     sumO y34 (fun t35 =>
      bnd (terrierlaw18_Same_l3 (t35.fst, (↑t35.snd.fst.snd.snd.snd.snd.snd.snd.length : Int), (0 : Int), t35.snd.fst, t35.snd.snd.fst, ())) fun y42 =>
      sumO y42 (fun t43 =>
       bnd (terrierlaw18_Same_l4 (t43.fst, (↑t43.snd.fst.snd.snd.snd.snd.fst.length : Int), (0 : Int), t43.snd.fst, t43.snd.snd.fst, ())) fun y65 =>
       sumO y65 (fun t66 =>
        some (t66.fst, ())) (fun r67 =>
        some (r67))) (fun r44 =>
       some (r44))) (fun r36 =>
      some (r36))) (fun r28 =>
     some (r28))) (fun r20 =>
    some (r20)))
end Go.Tr
