/- The functions that these laws reach, as Lean functions: printed by a program of this session's. Conditions: none. -/
import Derived.Test.YtklmhllelgjglaaGreatBD
import Derived.Test.YtklmhllelgjglaaGreatBE
import Derived.Test.YtklmhllelgjglaaGreatAddrD
import Derived.Test.YtklmhllelgjglaaGreatCodec1D
namespace Go.Tr
open Go
set_option linter.unusedVariables false
set_option maxRecDepth 100000
noncomputable def sweep_Put_1 (s' : (Int × Int) × Int × Int) (t1 : Int × Int) : Option (Bool × Unit) :=
  bnd (addr_Overlap (s'.fst) (t1)) fun y0 =>
  some (y0.fst, ())
noncomputable def slices_IndexFunc_w1_b0 (s' : List TSweep) (fc_0 : Int × Int) (t7 : Int) (t8 : Int) : Option (((List TSweep) × (Int × Int) × Int × Int × Unit) ⊕ (Unit ⊕ (Int × Unit))) :=
  cnd (decide (t8 < t7)) (
   chk ((0 : Int) ≤ t8 ∧ t8 < (↑s'.length : Int)) <|
   ltO ((Option.rec zSweep (fun val => val) s'[t8.toNat]?)) fun (v0 : (Int × Int) × Int × Int) =>
   bnd (sweep_Put_1 (v0) (fc_0)) fun y1 =>
   cnd (y1.fst) (
    some (.inr (.inr (t8, ())))) (
    ltO (IntKind.i64.wrap (t8 + (1 : Int))) fun (v2 : Int) =>
    some (.inl (s', fc_0, t7, v2, ())))) (
   some (.inr (.inl ())))
noncomputable def slices_IndexFunc_w1_l0 (s : (List TSweep) × (Int × Int) × Int × Int × Unit) : Option (Unit ⊕ (Int × Unit)) := loopM (fun s : (List TSweep) × (Int × Int) × Int × Int × Unit => slices_IndexFunc_w1_b0 s.1 s.2.1 s.2.2.1 s.2.2.2.1) s
noncomputable def slices_IndexFunc_w1 (s' : List TSweep) (fc_0 : Int × Int) : Option (Int × Unit) :=
  bnd (slices_IndexFunc_w1_l0 (s', fc_0, (↑s'.length : Int), (0 : Int), ())) fun y3 =>
  sumO y3 (fun t4 =>
   some ((-1 : Int), ())) (fun r5 =>
   some (r5))
noncomputable def slices_ContainsFunc_w1 (s' : List TSweep) (fc_0 : Int × Int) : Option (Bool × Unit) :=
  bnd (slices_IndexFunc_w1 (s') (fc_0)) fun y0 =>
  some (decide (y0.fst ≥ (0 : Int)), ())
noncomputable def slices_Clone_Sweep (xs : List TSweep) : Option (List TSweep × Unit) :=
  clone 32 xs
noncomputable def sweep_Put_2 (x : (Int × Int) × Int × Int) (y : (Int × Int) × Int × Int) : Option (Int × Unit) :=
  ltO (IntKind.i64.wrap x.fst.fst) fun (v0 : Int) =>
  ltO (IntKind.i64.wrap y.fst.fst) fun (v1 : Int) =>
  ltO (IntKind.i64.wrap (v0 - v1)) fun (v2 : Int) =>
  some (v2, ())
noncomputable def slices_SortFunc_sweep_Put_2 (xs : List TSweep) : Option (List TSweep × Unit) :=
  sortF sweep_Put_2 xs
noncomputable def sweep_Put (ss : List TSweep) (b : Int × Int) (now : Int) : Option (Int × (List TSweep) × Unit) :=
  bnd (addr_Right (b)) fun y0 =>
  cnd (!y0.fst) (
   some ((12 : Int), [], ())) (
   bnd (addr_Size (b)) fun y1 =>
   cnd (decide (y1.fst > (256 : Int))) (
    some ((3 : Int), [], ())) (
    bnd (slices_ContainsFunc_w1 (ss) (b)) fun y2 =>
    cnd (y2.fst) (
     some ((5 : Int), [], ())) (
     cnd (decide ((↑ss.length : Int) ≥ (16 : Int))) (
      some ((4 : Int), [], ())) (
      bnd (slices_Clone_Sweep (ss)) fun y3 =>
      bnd (clock_Clamp (now)) fun y4 =>
      chk (room (32 : Nat) (y3.fst.length + [(b, y4.fst, (0 : Int))].length)) <|
      bnd (slices_SortFunc_sweep_Put_2 (y3.fst ++ [(b, y4.fst, (0 : Int))])) fun y5 =>
      some ((0 : Int), y5.fst, ())))))
noncomputable def sweep_order_1 (x : Int) (y : Int) (t2 : List TSweep) : Option (Int × Unit) :=
  chk ((0 : Int) ≤ x ∧ x < (↑(List.length t2) : Int)) <|
  ltO ((Option.rec zSweep (fun val => val) t2[x.toNat]?)) fun (v0 : (Int × Int) × Int × Int) =>
  chk ((0 : Int) ≤ y ∧ y < (↑(List.length t2) : Int)) <|
  ltO ((Option.rec zSweep (fun val => val) t2[y.toNat]?)) fun (v1 : (Int × Int) × Int × Int) =>
  ltO (IntKind.i64.wrap (v0.snd.fst - v1.snd.fst)) fun (v2 : Int) =>
  some (v2, ())
noncomputable def slices_insertionSortCmpFunc_int__b1 (a' : Int) (b : Int) (i : Int) (j : Int) (data : List Int) (o1 : List TSweep) : Option ((Int × Int × Int × Int × (List Int) × (List TSweep) × Unit) ⊕ ((Int × Int × Int × (List Int) × (List TSweep) × Unit) ⊕ ((List Int) × (List TSweep) × Unit))) :=
  chk (decide (j > a') = true → decide (j > a') = true) <|
  chk (decide (j > a') = true → decide (j > a') = true) <|
  chk (decide (j > a') = true → (0 : Int) ≤ j ∧ j < (↑data.length : Int)) <|
  chk (decide (j > a') = true → decide (j > a') = true) <|
  chk (decide (j > a') = true → j.toNat < data.length) <|
  chk (decide (j > a') = true → decide (j > a') = true) <|
  ltO (IntKind.i64.wrap (j - (1 : Int))) fun (v1 : Int) =>
  chk (decide (j > a') = true → decide (j > a') = true) <|
  chk (decide (j > a') = true → decide (j > a') = true) <|
  chk (decide (j > a') = true → (0 : Int) ≤ v1 ∧ v1 < (↑data.length : Int)) <|
  chk (decide (j > a') = true → decide (j > a') = true) <|
  chk (decide (j > a') = true → v1.toNat < data.length) <|
  chk (decide (j > a') = true → decide (j > a') = true) <|
  chk (decide (j > a') = true → decide (j > a') = true) <|
  chk (decide (j > a') = true → decide (j > a') = true) <|
  bndG (decide (j > a')) (sweep_order_1 (data.getD j.toNat (0 : Int)) (data.getD v1.toNat (0 : Int)) (o1)) ((0 : Int), ()) fun y2 =>
  chk (decide (j > a') = true → decide (j > a') = true) <|
  chk (decide (j > a') = true → decide (j > a') = true) <|
  ltO (decide (j > a') && decide (y2.fst < (0 : Int))) fun (v3 : Bool) =>
  cnd (v3) (
   ltO (IntKind.i64.wrap (j - (1 : Int))) fun (v4 : Int) =>
   ltO (IntKind.i64.wrap (j - (1 : Int))) fun (v5 : Int) =>
   chk ((0 : Int) ≤ v5 ∧ v5 < (↑data.length : Int)) <|
   chk (v5.toNat < data.length) <|
   chk ((0 : Int) ≤ j ∧ j < (↑data.length : Int)) <|
   chk (j.toNat < data.length) <|
   chk ((0 : Int) ≤ j ∧ j < (↑data.length : Int)) <|
   chk (j.toNat < data.length) <|
   chk ((0 : Int) ≤ v4 ∧ v4 < (↑(data.set j.toNat (data.getD v5.toNat (0 : Int))).length : Int)) <|
   chk (v4.toNat < (data.set j.toNat (data.getD v5.toNat (0 : Int))).length) <|
   ltO (IntKind.i64.wrap (j - (1 : Int))) fun (v6 : Int) =>
   some (.inl (a', b, i, v6, (data.set j.toNat (data.getD v5.toNat (0 : Int))).set v4.toNat (data.getD j.toNat (0 : Int)), o1, ()))) (
   some (.inr (.inl (a', b, i, data, o1, ()))))
noncomputable def slices_insertionSortCmpFunc_int__l1 (s : Int × Int × Int × Int × (List Int) × (List TSweep) × Unit) : Option ((Int × Int × Int × (List Int) × (List TSweep) × Unit) ⊕ ((List Int) × (List TSweep) × Unit)) := loopM (fun s : Int × Int × Int × Int × (List Int) × (List TSweep) × Unit => slices_insertionSortCmpFunc_int__b1 s.1 s.2.1 s.2.2.1 s.2.2.2.1 s.2.2.2.2.1 s.2.2.2.2.2.1) s
noncomputable def slices_insertionSortCmpFunc_int__b0 (a' : Int) (b : Int) (i : Int) (data : List Int) (o1 : List TSweep) : Option ((Int × Int × Int × (List Int) × (List TSweep) × Unit) ⊕ (((List Int) × (List TSweep) × Unit) ⊕ ((List Int) × (List TSweep) × Unit))) :=
  cnd (decide (i < b)) (
   bnd (slices_insertionSortCmpFunc_int__l1 (a', b, i, i, data, o1, ())) fun y7 =>
   sumO y7 (fun t8 =>
    ltO (IntKind.i64.wrap (t8.snd.snd.fst + (1 : Int))) fun (v10 : Int) =>
    some (.inl (t8.fst, t8.snd.fst, v10, t8.snd.snd.snd.fst, t8.snd.snd.snd.snd.fst, ()))) (fun r9 =>
    some (.inr (.inr (r9))))) (
   some (.inr (.inl (data, o1, ()))))
noncomputable def slices_insertionSortCmpFunc_int__l0 (s : Int × Int × Int × (List Int) × (List TSweep) × Unit) : Option (((List Int) × (List TSweep) × Unit) ⊕ ((List Int) × (List TSweep) × Unit)) := loopM (fun s : Int × Int × Int × (List Int) × (List TSweep) × Unit => slices_insertionSortCmpFunc_int__b0 s.1 s.2.1 s.2.2.1 s.2.2.2.1 s.2.2.2.2.1) s
noncomputable def slices_insertionSortCmpFunc_int_ (a' : Int) (b : Int) (data : List Int) (o1 : List TSweep) : Option ((List Int) × (List TSweep) × Unit) :=
  ltO (IntKind.i64.wrap (a' + (1 : Int))) fun (v0 : Int) =>
  bnd (slices_insertionSortCmpFunc_int__l0 (a', b, v0, data, o1, ())) fun y11 =>
  sumO y11 (fun t12 =>
   some (t12.fst, t12.snd.fst, ())) (fun r13 =>
   some (r13))
noncomputable def slices_symMergeCmpFunc_int__none (x0 : (List Int)) (x1 : Int) (x2 : Int) (x3 : Int) (x4 : (List TSweep)) : Option (Unit) :=
  none
noncomputable def slices_stableCmpFunc_int__b0 (n : Int) (blockSize : Int) (a' : Int) (b : Int) (data : List Int) (o1 : List TSweep) : Option ((Int × Int × Int × Int × (List Int) × (List TSweep) × Unit) ⊕ ((Int × Int × Int × (List Int) × (List TSweep) × Unit) ⊕ ((List Int) × (List TSweep) × Unit))) :=
  cnd (decide (b ≤ n)) (
   bnd (slices_insertionSortCmpFunc_int_ (a') (b) (data) (o1)) fun y0 =>
   ltO (IntKind.i64.wrap (b + blockSize)) fun (v1 : Int) =>
   some (.inl (n, blockSize, b, v1, y0.fst, y0.snd.fst, ()))) (
   some (.inr (.inl (n, blockSize, a', data, o1, ()))))
noncomputable def slices_stableCmpFunc_int__l0 (s : Int × Int × Int × Int × (List Int) × (List TSweep) × Unit) : Option ((Int × Int × Int × (List Int) × (List TSweep) × Unit) ⊕ ((List Int) × (List TSweep) × Unit)) := loopM (fun s : Int × Int × Int × Int × (List Int) × (List TSweep) × Unit => slices_stableCmpFunc_int__b0 s.1 s.2.1 s.2.2.1 s.2.2.2.1 s.2.2.2.2.1 s.2.2.2.2.2.1) s
noncomputable def slices_stableCmpFunc_int__b2 (n : Int) (blockSize : Int) (a' : Int) (b : Int) (data : List Int) (o1 : List TSweep) : Option ((Int × Int × Int × Int × (List Int) × (List TSweep) × Unit) ⊕ ((Int × Int × Int × (List Int) × (List TSweep) × Unit) ⊕ ((List Int) × (List TSweep) × Unit))) :=
  cnd (decide (b ≤ n)) (
   ltO (IntKind.i64.wrap (a' + blockSize)) fun (v7 : Int) =>
   bnd (slices_symMergeCmpFunc_int__none (data) (a') (v7) (b) (o1)) fun y8 =>
   ltO (IntKind.i64.wrap ((2 : Int) * blockSize)) fun (v9 : Int) =>
   ltO (IntKind.i64.wrap (b + v9)) fun (v10 : Int) =>
   some (.inl (n, blockSize, b, v10, data, o1, ()))) (
   some (.inr (.inl (n, blockSize, a', data, o1, ()))))
noncomputable def slices_stableCmpFunc_int__l2 (s : Int × Int × Int × Int × (List Int) × (List TSweep) × Unit) : Option ((Int × Int × Int × (List Int) × (List TSweep) × Unit) ⊕ ((List Int) × (List TSweep) × Unit)) := loopM (fun s : Int × Int × Int × Int × (List Int) × (List TSweep) × Unit => slices_stableCmpFunc_int__b2 s.1 s.2.1 s.2.2.1 s.2.2.2.1 s.2.2.2.2.1 s.2.2.2.2.2.1) s
noncomputable def slices_stableCmpFunc_int__b1 (n : Int) (blockSize : Int) (data : List Int) (o1 : List TSweep) : Option ((Int × Int × (List Int) × (List TSweep) × Unit) ⊕ (((List Int) × (List TSweep) × Unit) ⊕ ((List Int) × (List TSweep) × Unit))) :=
  cnd (decide (blockSize < n)) (
   ltO (IntKind.i64.wrap ((2 : Int) * blockSize)) fun (v6 : Int) =>
   bnd (slices_stableCmpFunc_int__l2 (n, blockSize, (0 : Int), v6, data, o1, ())) fun y11 =>
   sumO y11 (fun t12 =>
    ltO (IntKind.i64.wrap (t12.snd.snd.fst + t12.snd.fst)) fun (v14 : Int) =>
    cnd (decide (v14 < t12.fst)) (
     bnd (slices_symMergeCmpFunc_int__none (t12.snd.snd.snd.fst) (t12.snd.snd.fst) (v14) (t12.fst) (t12.snd.snd.snd.snd.fst)) fun y15 =>
     ltO (IntKind.i64.wrap (t12.snd.fst * (2 : Int))) fun (v16 : Int) =>
     some (.inl (t12.fst, v16, t12.snd.snd.snd.fst, t12.snd.snd.snd.snd.fst, ()))) (
     ltO (IntKind.i64.wrap (t12.snd.fst * (2 : Int))) fun (v17 : Int) =>
     some (.inl (t12.fst, v17, t12.snd.snd.snd.fst, t12.snd.snd.snd.snd.fst, ())))) (fun r13 =>
    some (.inr (.inr (r13))))) (
   some (.inr (.inl (data, o1, ()))))
noncomputable def slices_stableCmpFunc_int__l1 (s : Int × Int × (List Int) × (List TSweep) × Unit) : Option (((List Int) × (List TSweep) × Unit) ⊕ ((List Int) × (List TSweep) × Unit)) := loopM (fun s : Int × Int × (List Int) × (List TSweep) × Unit => slices_stableCmpFunc_int__b1 s.1 s.2.1 s.2.2.1 s.2.2.2.1) s
noncomputable def slices_stableCmpFunc_int_ (n : Int) (data : List Int) (o1 : List TSweep) : Option ((List Int) × (List TSweep) × Unit) :=
  bnd (slices_stableCmpFunc_int__l0 (n, (20 : Int), (0 : Int), (20 : Int), data, o1, ())) fun y2 =>
  sumO y2 (fun t3 =>
   bnd (slices_insertionSortCmpFunc_int_ (t3.snd.snd.fst) (t3.fst) (t3.snd.snd.snd.fst) (t3.snd.snd.snd.snd.fst)) fun y5 =>
   bnd (slices_stableCmpFunc_int__l1 (t3.fst, t3.snd.fst, y5.fst, y5.snd.fst, ())) fun y18 =>
   sumO y18 (fun t19 =>
    some (t19.fst, t19.snd.fst, ())) (fun r20 =>
    some (r20))) (fun r4 =>
   some (r4))
noncomputable def slices_SortStableFunc___int_int_ (x : List Int) (o1 : List TSweep) : Option ((List Int) × (List TSweep) × Unit) :=
  bnd (slices_stableCmpFunc_int_ ((↑x.length : Int)) (x) (o1)) fun y0 =>
  some (y0.fst, y0.snd.fst, ())
noncomputable def sweep_order_b0 (now : Int) (t8 : List TSweep) (t9 : Int) (t10 : Int) (out : List Int) (ss : List TSweep) : Option ((Int × (List TSweep) × Int × Int × (List Int) × (List TSweep) × Unit) ⊕ (((List TSweep) × (List Int) × Unit) ⊕ ((List Int) × Unit))) :=
  cnd (decide (t10 < t9)) (
   chk ((0 : Int) ≤ t10 ∧ t10 < (↑t8.length : Int)) <|
   ltO ((Option.rec zSweep (fun val => val) t8[t10.toNat]?)) fun (v0 : (Int × Int) × Int × Int) =>
   cnd (decide (v0.snd.fst ≤ now)) (
    chk (room (8 : Nat) (out.length + [t10].length)) <|
    ltO (IntKind.i64.wrap (t10 + (1 : Int))) fun (v1 : Int) =>
    some (.inl (now, t8, t9, v1, out ++ [t10], ss, ()))) (
    ltO (IntKind.i64.wrap (t10 + (1 : Int))) fun (v2 : Int) =>
    some (.inl (now, t8, t9, v2, out, ss, ())))) (
   some (.inr (.inl (ss, out, ()))))
noncomputable def sweep_order_l0 (s : Int × (List TSweep) × Int × Int × (List Int) × (List TSweep) × Unit) : Option (((List TSweep) × (List Int) × Unit) ⊕ ((List Int) × Unit)) := loopM (fun s : Int × (List TSweep) × Int × Int × (List Int) × (List TSweep) × Unit => sweep_order_b0 s.1 s.2.1 s.2.2.1 s.2.2.2.1 s.2.2.2.2.1 s.2.2.2.2.2.1) s
noncomputable def sweep_order (ss : List TSweep) (now : Int) : Option ((List Int) × Unit) :=
  bnd (sweep_order_l0 (now, ss, (↑ss.length : Int), (0 : Int), [], ss, ())) fun y3 =>
  sumO y3 (fun t4 =>
   bnd (slices_SortStableFunc___int_int_ (t4.snd.fst) (t4.fst)) fun y6 =>
   some (y6.fst, ())) (fun r5 =>
   some (r5))
noncomputable def clock_Add (t : Int) (n : Int) : Option (Int × Unit) :=
  bnd (clock_Clamp (t)) fun y0 =>
  ltO (IntKind.i64.wrap (y0.fst + if (if (1099511627776 : Int) < n then (1099511627776 : Int) else n) > (-1099511627776 : Int) then if (1099511627776 : Int) < n then (1099511627776 : Int) else n else (-1099511627776 : Int))) fun (v1 : Int) =>
  bnd (clock_Clamp (v1)) fun y2 =>
  some (y2.fst, ())
noncomputable def terrierlaw10_Choice_Config (x : Int × Int × Int × Int × Int × Int × Int × Int × Int) : Option (TCfg × Unit) :=
  chk (¬(30 : Int) = (0 : Int)) <|
  ltO (x.fst.tmod (30 : Int)) fun (v0 : Int) =>
  ltO (IntKind.i64.wrap v0) fun (v1 : Int) =>
  ltO (IntKind.i64.wrap ((1 : Int) + v1)) fun (v2 : Int) =>
  chk (¬(60 : Int) = (0 : Int)) <|
  ltO (x.snd.fst.tmod (60 : Int)) fun (v3 : Int) =>
  ltO (IntKind.i64.wrap v3) fun (v4 : Int) =>
  ltO (IntKind.i64.wrap (v2 + v4)) fun (v5 : Int) =>
  chk (¬(6 : Int) = (0 : Int)) <|
  ltO (x.snd.snd.fst.tmod (6 : Int)) fun (v6 : Int) =>
  ltO (IntKind.i64.wrap v6) fun (v7 : Int) =>
  ltO (IntKind.i64.wrap ((1 : Int) + v7)) fun (v8 : Int) =>
  chk (¬(20 : Int) = (0 : Int)) <|
  ltO (x.snd.snd.snd.fst.tmod (20 : Int)) fun (v9 : Int) =>
  ltO (IntKind.i64.wrap v9) fun (v10 : Int) =>
  ltO (IntKind.i64.wrap ((1 : Int) + v10)) fun (v11 : Int) =>
  chk (¬(9 : Int) = (0 : Int)) <|
  ltO (x.snd.snd.snd.snd.fst.tmod (9 : Int)) fun (v12 : Int) =>
  ltO (IntKind.i64.wrap v12) fun (v13 : Int) =>
  ltO (IntKind.i64.wrap ((1 : Int) + v13)) fun (v14 : Int) =>
  chk (¬(6 : Int) = (0 : Int)) <|
  ltO (x.snd.snd.snd.snd.snd.fst.tmod (6 : Int)) fun (v15 : Int) =>
  ltO (IntKind.i64.wrap v15) fun (v16 : Int) =>
  ltO (IntKind.i64.wrap ((1 : Int) + v16)) fun (v17 : Int) =>
  chk (¬(4 : Int) = (0 : Int)) <|
  ltO (x.snd.snd.snd.snd.snd.snd.fst.tmod (4 : Int)) fun (v18 : Int) =>
  ltO (IntKind.i64.wrap v18) fun (v19 : Int) =>
  chk (¬(40 : Int) = (0 : Int)) <|
  ltO (x.snd.snd.snd.snd.snd.snd.snd.fst.tmod (40 : Int)) fun (v20 : Int) =>
  ltO (IntKind.i64.wrap v20) fun (v21 : Int) =>
  ltO (IntKind.i64.wrap ((1 : Int) + v21)) fun (v22 : Int) =>
  chk (¬(50 : Int) = (0 : Int)) <|
  ltO (x.snd.snd.snd.snd.snd.snd.snd.snd.tmod (50 : Int)) fun (v23 : Int) =>
  ltO (IntKind.i64.wrap v23) fun (v24 : Int) =>
  some ((v2, v5, v8, v11, v14, v17, v19, v22, v24), ())
noncomputable def sweep_Take_1 (s' : (Int × Int) × Int × Int) (t1 : Int × Int) : Option (Bool × Unit) :=
  ltO (s'.fst.fst == t1.fst && s'.fst.snd == t1.snd) fun (v0 : Bool) =>
  some (v0, ())
noncomputable def slices_IndexFunc_v1_w1_b0 (s' : List TSweep) (fc_0 : Int × Int) (t7 : Int) (t8 : Int) : Option (((List TSweep) × (Int × Int) × Int × Int × Unit) ⊕ (Unit ⊕ (Int × Unit))) :=
  cnd (decide (t8 < t7)) (
   chk ((0 : Int) ≤ t8 ∧ t8 < (↑s'.length : Int)) <|
   ltO ((Option.rec zSweep (fun val => val) s'[t8.toNat]?)) fun (v0 : (Int × Int) × Int × Int) =>
   bnd (sweep_Take_1 (v0) (fc_0)) fun y1 =>
   cnd (y1.fst) (
    some (.inr (.inr (t8, ())))) (
    ltO (IntKind.i64.wrap (t8 + (1 : Int))) fun (v2 : Int) =>
    some (.inl (s', fc_0, t7, v2, ())))) (
   some (.inr (.inl ())))
noncomputable def slices_IndexFunc_v1_w1_l0 (s : (List TSweep) × (Int × Int) × Int × Int × Unit) : Option (Unit ⊕ (Int × Unit)) := loopM (fun s : (List TSweep) × (Int × Int) × Int × Int × Unit => slices_IndexFunc_v1_w1_b0 s.1 s.2.1 s.2.2.1 s.2.2.2.1) s
noncomputable def slices_IndexFunc_v1_w1 (s' : List TSweep) (fc_0 : Int × Int) : Option (Int × Unit) :=
  bnd (slices_IndexFunc_v1_w1_l0 (s', fc_0, (↑s'.length : Int), (0 : Int), ())) fun y3 =>
  sumO y3 (fun t4 =>
   some ((-1 : Int), ())) (fun r5 =>
   some (r5))
end Go.Tr
