/- The functions that these laws reach, as Lean functions: printed by a program of this session's. Conditions: none. -/
import Derived.Test.YtdbpknejbpiebaaBD
import Derived.Test.YtdbpknejbpiebaaBE
import Derived.Test.YtdbpknejbpiebaaAddrD
import Derived.Test.YtdbpknejbpiebaaCodec1D
namespace Go.Tr
open Go
set_option linter.unusedVariables false
set_option maxRecDepth 100000
noncomputable def sweep_Put_1 (s' : (Int × Int) × Int × Int) (t1 : Int × Int) : Option (Bool × Unit) :=
  bnd (addr_Overlap (s'.fst) (t1)) fun y0 =>
  some (y0.fst, ())
noncomputable def slices_IndexFunc_w1_b0 (s' : List TSweep) (fc_0 : Int × Int) (t7 : Int) (t8 : Int) : Option (((List TSweep) × (Int × Int) × Int × Int × Unit) ⊕ (Unit ⊕ (Int × Unit))) :=
  cnd (decide (t8 < t7)) (
   chk ((0 : Int) ≤ t8 ∧ t8 < (↑s'.length : Int)) <|
   ltO ((Option.rec zSweep (fun val => val) s'[t8.toNat]?)) fun (v0 : (Int × Int) × Int × Int) =>
   bnd (sweep_Put_1 (v0) (fc_0)) fun y1 =>
   cnd (y1.fst) (
    some (.inr (.inr (t8, ())))) (
    ltO (IntKind.i64.wrap (t8 + (1 : Int))) fun (v2 : Int) =>
    some (.inl (s', fc_0, t7, v2, ())))) (
   some (.inr (.inl ())))
noncomputable def slices_IndexFunc_w1_l0 (s : (List TSweep) × (Int × Int) × Int × Int × Unit) : Option (Unit ⊕ (Int × Unit)) := loopM (fun s : (List TSweep) × (Int × Int) × Int × Int × Unit => slices_IndexFunc_w1_b0 s.1 s.2.1 s.2.2.1 s.2.2.2.1) s
noncomputable def slices_IndexFunc_w1 (s' : List TSweep) (fc_0 : Int × Int) : Option (Int × Unit) :=
  bnd (slices_IndexFunc_w1_l0 (s', fc_0, (↑s'.length : Int), (0 : Int), ())) fun y3 =>
  sumO y3 (fun t4 =>
   some ((-1 : Int), ())) (fun r5 =>
   some (r5))
noncomputable def slices_ContainsFunc_w1 (s' : List TSweep) (fc_0 : Int × Int) : Option (Bool × Unit) :=
  bnd (slices_IndexFunc_w1 (s') (fc_0)) fun y0 =>
  some (decide (y0.fst ≥ (0 : Int)), ())
noncomputable def slices_Clone_Sweep (xs : List TSweep) : Option (List TSweep × Unit) :=
  clone 32 xs
noncomputable def sweep_Put_2 (x : (Int × Int) × Int × Int) (y : (Int × Int) × Int × Int) : Option (Int × Unit) :=
  ltO (IntKind.i64.wrap x.fst.fst) fun (v0 : Int) =>
  ltO (IntKind.i64.wrap y.fst.fst) fun (v1 : Int) =>
  ltO (IntKind.i64.wrap (v0 - v1)) fun (v2 : Int) =>
  some (v2, ())
noncomputable def slices_SortFunc_sweep_Put_2 (xs : List TSweep) : Option (List TSweep × Unit) :=
  sortF sweep_Put_2 xs
noncomputable def sweep_Put (ss : List TSweep) (b : Int × Int) (now : Int) : Option (Int × (List TSweep) × Unit) :=
  bnd (addr_Right (b)) fun y0 =>
  cnd (!y0.fst) (
   some ((12 : Int), [], ())) (
   bnd (addr_Size (b)) fun y1 =>
   cnd (decide (y1.fst > (256 : Int))) (
    some ((3 : Int), [], ())) (
    bnd (slices_ContainsFunc_w1 (ss) (b)) fun y2 =>
    cnd (y2.fst) (
     some ((5 : Int), [], ())) (
     cnd (decide ((↑ss.length : Int) ≥ (16 : Int))) (
      some ((4 : Int), [], ())) (
      bnd (slices_Clone_Sweep (ss)) fun y3 =>
      bnd (clock_Clamp (now)) fun y4 =>
      chk (room (32 : Nat) (y3.fst.length + [(b, y4.fst, (0 : Int))].length)) <|
      bnd (slices_SortFunc_sweep_Put_2 (y3.fst ++ [(b, y4.fst, (0 : Int))])) fun y5 =>
      some ((0 : Int), y5.fst, ())))))
noncomputable def sweep_order_1 (x : Int) (y : Int) (t2 : List TSweep) : Option (Int × Unit) :=
  chk ((0 : Int) ≤ x ∧ x < (↑(List.length t2) : Int)) <|
  ltO ((Option.rec zSweep (fun val => val) t2[x.toNat]?)) fun (v0 : (Int × Int) × Int × Int) =>
  chk ((0 : Int) ≤ y ∧ y < (↑(List.length t2) : Int)) <|
  ltO ((Option.rec zSweep (fun val => val) t2[y.toNat]?)) fun (v1 : (Int × Int) × Int × Int) =>
  ltO (IntKind.i64.wrap (v0.snd.fst - v1.snd.fst)) fun (v2 : Int) =>
  some (v2, ())
noncomputable def slices_insertionSortCmpFunc_int__b1 (a' : Int) (b : Int) (i : Int) (j : Int) (data : List Int) (o1 : List TSweep) : Option ((Int × Int × Int × Int × (List Int) × (List TSweep) × Unit) ⊕ ((Int × Int × Int × (List Int) × (List TSweep) × Unit) ⊕ ((List Int) × (List TSweep) × Unit))) :=
  chk (decide (j > a') = true → decide (j > a') = true) <|
  chk (decide (j > a') = true → decide (j > a') = true) <|
  chk (decide (j > a') = true → (0 : Int) ≤ j ∧ j < (↑data.length : Int)) <|
  chk (decide (j > a') = true → decide (j > a') = true) <|
  chk (decide (j > a') = true → j.toNat < data.length) <|
  chk (decide (j > a') = true → decide (j > a') = true) <|
  ltO (IntKind.i64.wrap (j - (1 : Int))) fun (v1 : Int) =>
  chk (decide (j > a') = true → decide (j > a') = true) <|
  chk (decide (j > a') = true → decide (j > a') = true) <|
  chk (decide (j > a') = true → (0 : Int) ≤ v1 ∧ v1 < (↑data.length : Int)) <|
  chk (decide (j > a') = true → decide (j > a') = true) <|
  chk (decide (j > a') = true → v1.toNat < data.length) <|
  chk (decide (j > a') = true → decide (j > a') = true) <|
  chk (decide (j > a') = true → decide (j > a') = true) <|
  chk (decide (j > a') = true → decide (j > a') = true) <|
  bndG (decide (j > a')) (sweep_order_1 (data.getD j.toNat (0 : Int)) (data.getD v1.toNat (0 : Int)) (o1)) ((0 : Int), ()) fun y2 =>
  chk (decide (j > a') = true → decide (j > a') = true) <|
  chk (decide (j > a') = true → decide (j > a') = true) <|
  ltO (decide (j > a') && decide (y2.fst < (0 : Int))) fun (v3 : Bool) =>
  cnd (v3) (
   ltO (IntKind.i64.wrap (j - (1 : Int))) fun (v4 : Int) =>
   ltO (IntKind.i64.wrap (j - (1 : Int))) fun (v5 : Int) =>
   chk ((0 : Int) ≤ v5 ∧ v5 < (↑data.length : Int)) <|
   chk (v5.toNat < data.length) <|
   chk ((0 : Int) ≤ j ∧ j < (↑data.length : Int)) <|
   chk (j.toNat < data.length) <|
   chk ((0 : Int) ≤ j ∧ j < (↑data.length : Int)) <|
   chk (j.toNat < data.length) <|
   chk ((0 : Int) ≤ v4 ∧ v4 < (↑(data.set j.toNat (data.getD v5.toNat (0 : Int))).length : Int)) <|
   chk (v4.toNat < (data.set j.toNat (data.getD v5.toNat (0 : Int))).length) <|
   ltO (IntKind.i64.wrap (j - (1 : Int))) fun (v6 : Int) =>
   some (.inl (a', b, i, v6, (data.set j.toNat (data.getD v5.toNat (0 : Int))).set v4.toNat (data.getD j.toNat (0 : Int)), o1, ()))) (
   some (.inr (.inl (a', b, i, data, o1, ()))))
noncomputable def slices_insertionSortCmpFunc_int__l1 (s : Int × Int × Int × Int × (List Int) × (List TSweep) × Unit) : Option ((Int × Int × Int × (List Int) × (List TSweep) × Unit) ⊕ ((List Int) × (List TSweep) × Unit)) := loopM (fun s : Int × Int × Int × Int × (List Int) × (List TSweep) × Unit => slices_insertionSortCmpFunc_int__b1 s.1 s.2.1 s.2.2.1 s.2.2.2.1 s.2.2.2.2.1 s.2.2.2.2.2.1) s
noncomputable def slices_insertionSortCmpFunc_int__b0 (a' : Int) (b : Int) (i : Int) (data : List Int) (o1 : List TSweep) : Option ((Int × Int × Int × (List Int) × (List TSweep) × Unit) ⊕ (((List Int) × (List TSweep) × Unit) ⊕ ((List Int) × (List TSweep) × Unit))) :=
  cnd (decide (i < b)) (
   bnd (slices_insertionSortCmpFunc_int__l1 (a', b, i, i, data, o1, ())) fun y7 =>
   sumO y7 (fun t8 =>
    ltO (IntKind.i64.wrap (t8.snd.snd.fst + (1 : Int))) fun (v10 : Int) =>
    some (.inl (t8.fst, t8.snd.fst, v10, t8.snd.snd.snd.fst, t8.snd.snd.snd.snd.fst, ()))) (fun r9 =>
    some (.inr (.inr (r9))))) (
   some (.inr (.inl (data, o1, ()))))
noncomputable def slices_insertionSortCmpFunc_int__l0 (s : Int × Int × Int × (List Int) × (List TSweep) × Unit) : Option (((List Int) × (List TSweep) × Unit) ⊕ ((List Int) × (List TSweep) × Unit)) := loopM (fun s : Int × Int × Int × (List Int) × (List TSweep) × Unit => slices_insertionSortCmpFunc_int__b0 s.1 s.2.1 s.2.2.1 s.2.2.2.1 s.2.2.2.2.1) s
noncomputable def slices_insertionSortCmpFunc_int_ (a' : Int) (b : Int) (data : List Int) (o1 : List TSweep) : Option ((List Int) × (List TSweep) × Unit) :=
  ltO (IntKind.i64.wrap (a' + (1 : Int))) fun (v0 : Int) =>
  bnd (slices_insertionSortCmpFunc_int__l0 (a', b, v0, data, o1, ())) fun y11 =>
  sumO y11 (fun t12 =>
   some (t12.fst, t12.snd.fst, ())) (fun r13 =>
   some (r13))
noncomputable def slices_symMergeCmpFunc_int__none (x0 : (List Int)) (x1 : Int) (x2 : Int) (x3 : Int) (x4 : (List TSweep)) : Option (Unit) :=
  none
noncomputable def slices_stableCmpFunc_int__b0 (n : Int) (blockSize : Int) (a' : Int) (b : Int) (data : List Int) (o1 : List TSweep) : Option ((Int × Int × Int × Int × (List Int) × (List TSweep) × Unit) ⊕ ((Int × Int × Int × (List Int) × (List TSweep) × Unit) ⊕ ((List Int) × (List TSweep) × Unit))) :=
  cnd (decide (b ≤ n)) (
   bnd (slices_insertionSortCmpFunc_int_ (a') (b) (data) (o1)) fun y0 =>
   ltO (IntKind.i64.wrap (b + blockSize)) fun (v1 : Int) =>
   some (.inl (n, blockSize, b, v1, y0.fst, y0.snd.fst, ()))) (
   some (.inr (.inl (n, blockSize, a', data, o1, ()))))
noncomputable def slices_stableCmpFunc_int__l0 (s : Int × Int × Int × Int × (List Int) × (List TSweep) × Unit) : Option ((Int × Int × Int × (List Int) × (List TSweep) × Unit) ⊕ ((List Int) × (List TSweep) × Unit)) := loopM (fun s : Int × Int × Int × Int × (List Int) × (List TSweep) × Unit => slices_stableCmpFunc_int__b0 s.1 s.2.1 s.2.2.1 s.2.2.2.1 s.2.2.2.2.1 s.2.2.2.2.2.1) s
noncomputable def slices_stableCmpFunc_int__b2 (n : Int) (blockSize : Int) (a' : Int) (b : Int) (data : List Int) (o1 : List TSweep) : Option ((Int × Int × Int × Int × (List Int) × (List TSweep) × Unit) ⊕ ((Int × Int × Int × (List Int) × (List TSweep) × Unit) ⊕ ((List Int) × (List TSweep) × Unit))) :=
  cnd (decide (b ≤ n)) (
   ltO (IntKind.i64.wrap (a' + blockSize)) fun (v7 : Int) =>
   bnd (slices_symMergeCmpFunc_int__none (data) (a') (v7) (b) (o1)) fun y8 =>
   ltO (IntKind.i64.wrap ((2 : Int) * blockSize)) fun (v9 : Int) =>
   ltO (IntKind.i64.wrap (b + v9)) fun (v10 : Int) =>
   some (.inl (n, blockSize, b, v10, data, o1, ()))) (
   some (.inr (.inl (n, blockSize, a', data, o1, ()))))
noncomputable def slices_stableCmpFunc_int__l2 (s : Int × Int × Int × Int × (List Int) × (List TSweep) × Unit) : Option ((Int × Int × Int × (List Int) × (List TSweep) × Unit) ⊕ ((List Int) × (List TSweep) × Unit)) := loopM (fun s : Int × Int × Int × Int × (List Int) × (List TSweep) × Unit => slices_stableCmpFunc_int__b2 s.1 s.2.1 s.2.2.1 s.2.2.2.1 s.2.2.2.2.1 s.2.2.2.2.2.1) s
noncomputable def slices_stableCmpFunc_int__b1 (n : Int) (blockSize : Int) (data : List Int) (o1 : List TSweep) : Option ((Int × Int × (List Int) × (List TSweep) × Unit) ⊕ (((List Int) × (List TSweep) × Unit) ⊕ ((List Int) × (List TSweep) × Unit))) :=
  cnd (decide (blockSize < n)) (
   ltO (IntKind.i64.wrap ((2 : Int) * blockSize)) fun (v6 : Int) =>
   bnd (slices_stableCmpFunc_int__l2 (n, blockSize, (0 : Int), v6, data, o1, ())) fun y11 =>
   sumO y11 (fun t12 =>
    ltO (IntKind.i64.wrap (t12.snd.snd.fst + t12.snd.fst)) fun (v14 : Int) =>
    cnd (decide (v14 < t12.fst)) (
     bnd (slices_symMergeCmpFunc_int__none (t12.snd.snd.snd.fst) (t12.snd.snd.fst) (v14) (t12.fst) (t12.snd.snd.snd.snd.fst)) fun y15 =>
     ltO (IntKind.i64.wrap (t12.snd.fst * (2 : Int))) fun (v16 : Int) =>
     some (.inl (t12.fst, v16, t12.snd.snd.snd.fst, t12.snd.snd.snd.snd.fst, ()))) (
     ltO (IntKind.i64.wrap (t12.snd.fst * (2 : Int))) fun (v17 : Int) =>
     some (.inl (t12.fst, v17, t12.snd.snd.snd.fst, t12.snd.snd.snd.snd.fst, ())))) (fun r13 =>
    some (.inr (.inr (r13))))) (
   some (.inr (.inl (data, o1, ()))))
noncomputable def slices_stableCmpFunc_int__l1 (s : Int × Int × (List Int) × (List TSweep) × Unit) : Option (((List Int) × (List TSweep) × Unit) ⊕ ((List Int) × (List TSweep) × Unit)) := loopM (fun s : Int × Int × (List Int) × (List TSweep) × Unit => slices_stableCmpFunc_int__b1 s.1 s.2.1 s.2.2.1 s.2.2.2.1) s
noncomputable def slices_stableCmpFunc_int_ (n : Int) (data : List Int) (o1 : List TSweep) : Option ((List Int) × (List TSweep) × Unit) :=
  bnd (slices_stableCmpFunc_int__l0 (n, (20 : Int), (0 : Int), (20 : Int), data, o1, ())) fun y2 =>
  sumO y2 (fun t3 =>
   bnd (slices_insertionSortCmpFunc_int_ (t3.snd.snd.fst) (t3.fst) (t3.snd.snd.snd.fst) (t3.snd.snd.snd.snd.fst)) fun y5 =>
   bnd (slices_stableCmpFunc_int__l1 (t3.fst, t3.snd.fst, y5.fst, y5.snd.fst, ())) fun y18 =>
   sumO y18 (fun t19 =>
    some (t19.fst, t19.snd.fst, ())) (fun r20 =>
    some (r20))) (fun r4 =>
   some (r4))
noncomputable def slices_SortStableFunc___int_int_ (x : List Int) (o1 : List TSweep) : Option ((List Int) × (List TSweep) × Unit) :=
  bnd (slices_stableCmpFunc_int_ ((↑x.length : Int)) (x) (o1)) fun y0 =>
  some (y0.fst, y0.snd.fst, ())
noncomputable def sweep_order_b0 (now : Int) (t8 : List TSweep) (t9 : Int) (t10 : Int) (out : List Int) (ss : List TSweep) : Option ((Int × (List TSweep) × Int × Int × (List Int) × (List TSweep) × Unit) ⊕ (((List TSweep) × (List Int) × Unit) ⊕ ((List Int) × Unit))) :=
  cnd (decide (t10 < t9)) (
   chk ((0 : Int) ≤ t10 ∧ t10 < (↑t8.length : Int)) <|
   ltO ((Option.rec zSweep (fun val => val) t8[t10.toNat]?)) fun (v0 : (Int × Int) × Int × Int) =>
   cnd (decide (v0.snd.fst ≤ now)) (
    chk (room (8 : Nat) (out.length + [t10].length)) <|
    ltO (IntKind.i64.wrap (t10 + (1 : Int))) fun (v1 : Int) =>
    some (.inl (now, t8, t9, v1, out ++ [t10], ss, ()))) (
    ltO (IntKind.i64.wrap (t10 + (1 : Int))) fun (v2 : Int) =>
    some (.inl (now, t8, t9, v2, out, ss, ())))) (
   some (.inr (.inl (ss, out, ()))))
noncomputable def sweep_order_l0 (s : Int × (List TSweep) × Int × Int × (List Int) × (List TSweep) × Unit) : Option (((List TSweep) × (List Int) × Unit) ⊕ ((List Int) × Unit)) := loopM (fun s : Int × (List TSweep) × Int × Int × (List Int) × (List TSweep) × Unit => sweep_order_b0 s.1 s.2.1 s.2.2.1 s.2.2.2.1 s.2.2.2.2.1 s.2.2.2.2.2.1) s
noncomputable def sweep_order (ss : List TSweep) (now : Int) : Option ((List Int) × Unit) :=
  bnd (sweep_order_l0 (now, ss, (↑ss.length : Int), (0 : Int), [], ss, ())) fun y3 =>
  sumO y3 (fun t4 =>
   bnd (slices_SortStableFunc___int_int_ (t4.snd.fst) (t4.fst)) fun y6 =>
   some (y6.fst, ())) (fun r5 =>
   some (r5))
noncomputable def clock_Add (t : Int) (n : Int) : Option (Int × Unit) :=
  bnd (clock_Clamp (t)) fun y0 =>
  ltO (IntKind.i64.wrap (y0.fst + if (if (1099511627776 : Int) < n then (1099511627776 : Int) else n) > (-1099511627776 : Int) then if (1099511627776 : Int) < n then (1099511627776 : Int) else n else (-1099511627776 : Int))) fun (v1 : Int) =>
  bnd (clock_Clamp (v1)) fun y2 =>
  some (y2.fst, ())
noncomputable def sweep_Plan_b1 (room : Int) (s' : Nat) (t22 : Int) (t23 : Int) (c_0 : Int) (c_1 : Int) (c_2 : Int) (c_3 : Int) (c_4 : Int) (c_5 : Int) (c_6 : Int) (c_7 : Int) (c_8 : Int) (out : List TSweep) (asks : List Int) (x : List Int) : Option ((Int × Nat × Int × Int × Int × Int × Int × Int × Int × Int × Int × Int × Int × (List TSweep) × (List Int) × (List Int) × Unit) ⊕ ((Int × Nat × Int × Int × Int × Int × Int × Int × Int × Int × Int × Int × Int × (List TSweep) × (List Int) × (List Int) × Unit) ⊕ ((List Int) × (List TSweep) × Unit))) :=
  chk (decide ((↑asks.length : Int) < room) = true → decide ((↑asks.length : Int) < room) = true) <|
  chk (decide ((↑asks.length : Int) < room) = true → decide ((↑asks.length : Int) < room) = true) <|
  chk (decide ((↑asks.length : Int) < room) = true → decide ((↑asks.length : Int) < room) = true) <|
  chk (decide ((↑asks.length : Int) < room) = true → s' < out.length) <|
  chk (decide ((↑asks.length : Int) < room) = true → decide ((↑asks.length : Int) < room) = true) <|
  chk (decide ((↑asks.length : Int) < room) = true → decide ((↑asks.length : Int) < room) = true) <|
  chk (decide ((↑asks.length : Int) < room) = true → decide ((↑asks.length : Int) < room) = true) <|
  chk (decide ((↑asks.length : Int) < room) = true → s' < out.length) <|
  chk (decide ((↑asks.length : Int) < room) = true → decide ((↑asks.length : Int) < room) = true) <|
  bndG (decide ((↑asks.length : Int) < room)) (addr_Size (((out.getD s' zSweep).fst.fst, (out.getD s' zSweep).fst.snd))) ((0 : Int), ()) fun y2 =>
  chk (decide ((↑asks.length : Int) < room) = true → decide ((↑asks.length : Int) < room) = true) <|
  chk (decide ((↑asks.length : Int) < room) = true → decide ((↑asks.length : Int) < room) = true) <|
  chk (decide ((↑asks.length : Int) < room) = true → decide ((↑asks.length : Int) < room) = true) <|
  ltO (decide ((↑asks.length : Int) < room) && decide ((out.getD s' zSweep).snd.snd < y2.fst)) fun (v3 : Bool) =>
  cnd (v3) (
   chk (s' < out.length) <|
   chk (s' < out.length) <|
   bnd (addr_At (((out.getD s' zSweep).fst.fst, (out.getD s' zSweep).fst.snd)) ((out.getD s' zSweep).snd.snd)) fun y4 =>
   chk (Tr.room (4 : Nat) (asks.length + [y4.fst].length)) <|
   chk (s' < out.length) <|
   ltO (IntKind.i64.wrap ((out.getD s' zSweep).snd.snd + (1 : Int))) fun (v5 : Int) =>
   chk (s' < out.length) <|
   some (.inl (room, s', t22, t23, c_0, c_1, c_2, c_3, c_4, c_5, c_6, c_7, c_8, out.set s' (((out.getD s' zSweep).fst.fst, (out.getD s' zSweep).fst.snd), (out.getD s' zSweep).snd.fst, v5), asks ++ [y4.fst], x, ()))) (
   some (.inr (.inl (room, s', t22, t23, c_0, c_1, c_2, c_3, c_4, c_5, c_6, c_7, c_8, out, asks, x, ()))))
noncomputable def sweep_Plan_l1 (s : Int × Nat × Int × Int × Int × Int × Int × Int × Int × Int × Int × Int × Int × (List TSweep) × (List Int) × (List Int) × Unit) : Option ((Int × Nat × Int × Int × Int × Int × Int × Int × Int × Int × Int × Int × Int × (List TSweep) × (List Int) × (List Int) × Unit) ⊕ ((List Int) × (List TSweep) × Unit)) := loopM (fun s : Int × Nat × Int × Int × Int × Int × Int × Int × Int × Int × Int × Int × Int × (List TSweep) × (List Int) × (List Int) × Unit => sweep_Plan_b1 s.1 s.2.1 s.2.2.1 s.2.2.2.1 s.2.2.2.2.1 s.2.2.2.2.2.1 s.2.2.2.2.2.2.1 s.2.2.2.2.2.2.2.1 s.2.2.2.2.2.2.2.2.1 s.2.2.2.2.2.2.2.2.2.1 s.2.2.2.2.2.2.2.2.2.2.1 s.2.2.2.2.2.2.2.2.2.2.2.1 s.2.2.2.2.2.2.2.2.2.2.2.2.1 s.2.2.2.2.2.2.2.2.2.2.2.2.2.1 s.2.2.2.2.2.2.2.2.2.2.2.2.2.2.1 s.2.2.2.2.2.2.2.2.2.2.2.2.2.2.2.1) s
noncomputable def sweep_Plan_b0 (room : Int) (t22 : Int) (t23 : Int) (asks : List Int) (c_0 : Int) (c_1 : Int) (c_2 : Int) (c_3 : Int) (c_4 : Int) (c_5 : Int) (c_6 : Int) (c_7 : Int) (c_8 : Int) (out : List TSweep) (x : List Int) : Option ((Int × Int × Int × (List Int) × Int × Int × Int × Int × Int × Int × Int × Int × Int × (List TSweep) × (List Int) × Unit) ⊕ (((List TSweep) × (List Int) × Unit) ⊕ ((List Int) × (List TSweep) × Unit))) :=
  cnd (decide (t23 < t22)) (
   chk ((0 : Int) ≤ t23 ∧ t23 < (↑x.length : Int)) <|
   chk (t23.toNat < x.length) <|
   chk ((0 : Int) ≤ x.getD t23.toNat (0 : Int) ∧ x.getD t23.toNat (0 : Int) < (↑out.length : Int)) <|
   bnd (sweep_Plan_l1 (room, (x.getD t23.toNat (0 : Int)).toNat, t22, t23, c_0, c_1, c_2, c_3, c_4, c_5, c_6, c_7, c_8, out, asks, x, ())) fun y6 =>
   sumO y6 (fun t7 =>
    chk (t7.snd.fst < t7.snd.snd.snd.snd.snd.snd.snd.snd.snd.snd.snd.snd.snd.fst.length) <|
    chk (t7.snd.fst < t7.snd.snd.snd.snd.snd.snd.snd.snd.snd.snd.snd.snd.snd.fst.length) <|
    bnd (addr_Size (((t7.snd.snd.snd.snd.snd.snd.snd.snd.snd.snd.snd.snd.snd.fst.getD t7.snd.fst zSweep).fst.fst, (t7.snd.snd.snd.snd.snd.snd.snd.snd.snd.snd.snd.snd.snd.fst.getD t7.snd.fst zSweep).fst.snd))) fun y9 =>
    cnd (decide ((t7.snd.snd.snd.snd.snd.snd.snd.snd.snd.snd.snd.snd.snd.fst.getD t7.snd.fst zSweep).snd.snd ≥ y9.fst)) (
     chk (t7.snd.fst < t7.snd.snd.snd.snd.snd.snd.snd.snd.snd.snd.snd.snd.snd.fst.length) <|
     bnd (clock_Add ((t7.snd.snd.snd.snd.snd.snd.snd.snd.snd.snd.snd.snd.snd.fst.getD t7.snd.fst zSweep).snd.fst) (t7.snd.snd.snd.snd.snd.snd.snd.fst)) fun y10 =>
     chk (t7.snd.fst < t7.snd.snd.snd.snd.snd.snd.snd.snd.snd.snd.snd.snd.snd.fst.length) <|
     chk (t7.snd.fst < (t7.snd.snd.snd.snd.snd.snd.snd.snd.snd.snd.snd.snd.snd.fst.set t7.snd.fst (((t7.snd.snd.snd.snd.snd.snd.snd.snd.snd.snd.snd.snd.snd.fst.getD t7.snd.fst zSweep).fst.fst, (t7.snd.snd.snd.snd.snd.snd.snd.snd.snd.snd.snd.snd.snd.fst.getD t7.snd.fst zSweep).fst.snd), (t7.snd.snd.snd.snd.snd.snd.snd.snd.snd.snd.snd.snd.snd.fst.getD t7.snd.fst zSweep).snd.fst, (0 : Int))).length) <|
     ltO (IntKind.i64.wrap (t7.snd.snd.snd.fst + (1 : Int))) fun (v11 : Int) =>
     some (.inl (t7.fst, t7.snd.snd.fst, v11, t7.snd.snd.snd.snd.snd.snd.snd.snd.snd.snd.snd.snd.snd.snd.fst, t7.snd.snd.snd.snd.fst, t7.snd.snd.snd.snd.snd.fst, t7.snd.snd.snd.snd.snd.snd.fst, t7.snd.snd.snd.snd.snd.snd.snd.fst, t7.snd.snd.snd.snd.snd.snd.snd.snd.fst, t7.snd.snd.snd.snd.snd.snd.snd.snd.snd.fst, t7.snd.snd.snd.snd.snd.snd.snd.snd.snd.snd.fst, t7.snd.snd.snd.snd.snd.snd.snd.snd.snd.snd.snd.fst, t7.snd.snd.snd.snd.snd.snd.snd.snd.snd.snd.snd.snd.fst, (t7.snd.snd.snd.snd.snd.snd.snd.snd.snd.snd.snd.snd.snd.fst.set t7.snd.fst (((t7.snd.snd.snd.snd.snd.snd.snd.snd.snd.snd.snd.snd.snd.fst.getD t7.snd.fst zSweep).fst.fst, (t7.snd.snd.snd.snd.snd.snd.snd.snd.snd.snd.snd.snd.snd.fst.getD t7.snd.fst zSweep).fst.snd), (t7.snd.snd.snd.snd.snd.snd.snd.snd.snd.snd.snd.snd.snd.fst.getD t7.snd.fst zSweep).snd.fst, (0 : Int))).set t7.snd.fst ((((t7.snd.snd.snd.snd.snd.snd.snd.snd.snd.snd.snd.snd.snd.fst.set t7.snd.fst (((t7.snd.snd.snd.snd.snd.snd.snd.snd.snd.snd.snd.snd.snd.fst.getD t7.snd.fst zSweep).fst.fst, (t7.snd.snd.snd.snd.snd.snd.snd.snd.snd.snd.snd.snd.snd.fst.getD t7.snd.fst zSweep).fst.snd), (t7.snd.snd.snd.snd.snd.snd.snd.snd.snd.snd.snd.snd.snd.fst.getD t7.snd.fst zSweep).snd.fst, (0 : Int))).getD t7.snd.fst zSweep).fst.fst, ((t7.snd.snd.snd.snd.snd.snd.snd.snd.snd.snd.snd.snd.snd.fst.set t7.snd.fst (((t7.snd.snd.snd.snd.snd.snd.snd.snd.snd.snd.snd.snd.snd.fst.getD t7.snd.fst zSweep).fst.fst, (t7.snd.snd.snd.snd.snd.snd.snd.snd.snd.snd.snd.snd.snd.fst.getD t7.snd.fst zSweep).fst.snd), (t7.snd.snd.snd.snd.snd.snd.snd.snd.snd.snd.snd.snd.snd.fst.getD t7.snd.fst zSweep).snd.fst, (0 : Int))).getD t7.snd.fst zSweep).fst.snd), y10.fst, ((t7.snd.snd.snd.snd.snd.snd.snd.snd.snd.snd.snd.snd.snd.fst.set t7.snd.fst (((t7.snd.snd.snd.snd.snd.snd.snd.snd.snd.snd.snd.snd.snd.fst.getD t7.snd.fst zSweep).fst.fst, (t7.snd.snd.snd.snd.snd.snd.snd.snd.snd.snd.snd.snd.snd.fst.getD t7.snd.fst zSweep).fst.snd), (t7.snd.snd.snd.snd.snd.snd.snd.snd.snd.snd.snd.snd.snd.fst.getD t7.snd.fst zSweep).snd.fst, (0 : Int))).getD t7.snd.fst zSweep).snd.snd), t7.snd.snd.snd.snd.snd.snd.snd.snd.snd.snd.snd.snd.snd.snd.snd.fst, ()))) (
     ltO (IntKind.i64.wrap (t7.snd.snd.snd.fst + (1 : Int))) fun (v12 : Int) =>
     some (.inl (t7.fst, t7.snd.snd.fst, v12, t7.snd.snd.snd.snd.snd.snd.snd.snd.snd.snd.snd.snd.snd.snd.fst, t7.snd.snd.snd.snd.fst, t7.snd.snd.snd.snd.snd.fst, t7.snd.snd.snd.snd.snd.snd.fst, t7.snd.snd.snd.snd.snd.snd.snd.fst, t7.snd.snd.snd.snd.snd.snd.snd.snd.fst, t7.snd.snd.snd.snd.snd.snd.snd.snd.snd.fst, t7.snd.snd.snd.snd.snd.snd.snd.snd.snd.snd.fst, t7.snd.snd.snd.snd.snd.snd.snd.snd.snd.snd.snd.fst, t7.snd.snd.snd.snd.snd.snd.snd.snd.snd.snd.snd.snd.fst, t7.snd.snd.snd.snd.snd.snd.snd.snd.snd.snd.snd.snd.snd.fst, t7.snd.snd.snd.snd.snd.snd.snd.snd.snd.snd.snd.snd.snd.snd.snd.fst, ())))) (fun r8 =>
    some (.inr (.inr (r8))))) (
   some (.inr (.inl (out, asks, ()))))
noncomputable def sweep_Plan_l0 (s : Int × Int × Int × (List Int) × Int × Int × Int × Int × Int × Int × Int × Int × Int × (List TSweep) × (List Int) × Unit) : Option (((List TSweep) × (List Int) × Unit) ⊕ ((List Int) × (List TSweep) × Unit)) := loopM (fun s : Int × Int × Int × (List Int) × Int × Int × Int × Int × Int × Int × Int × Int × Int × (List TSweep) × (List Int) × Unit => sweep_Plan_b0 s.1 s.2.1 s.2.2.1 s.2.2.2.1 s.2.2.2.2.1 s.2.2.2.2.2.1 s.2.2.2.2.2.2.1 s.2.2.2.2.2.2.2.1 s.2.2.2.2.2.2.2.2.1 s.2.2.2.2.2.2.2.2.2.1 s.2.2.2.2.2.2.2.2.2.2.1 s.2.2.2.2.2.2.2.2.2.2.2.1 s.2.2.2.2.2.2.2.2.2.2.2.2.1 s.2.2.2.2.2.2.2.2.2.2.2.2.2.1 s.2.2.2.2.2.2.2.2.2.2.2.2.2.2.1) s
noncomputable def sweep_Plan (c : Int × Int × Int × Int × Int × Int × Int × Int × Int) (ss : List TSweep) (now : Int) (room : Int) : Option ((List Int) × (List TSweep) × Unit) :=
  bnd (slices_Clone_Sweep (ss)) fun y0 =>
  bnd (sweep_order (y0.fst) (now)) fun y1 =>
  bnd (sweep_Plan_l0 (room, (↑y1.fst.length : Int), (0 : Int), [], c.fst, c.snd.fst, c.snd.snd.fst, c.snd.snd.snd.fst, c.snd.snd.snd.snd.fst, c.snd.snd.snd.snd.snd.fst, c.snd.snd.snd.snd.snd.snd.fst, c.snd.snd.snd.snd.snd.snd.snd.fst, c.snd.snd.snd.snd.snd.snd.snd.snd, y0.fst, y1.fst, ())) fun y13 =>
  sumO y13 (fun t14 =>
   some (t14.snd.fst, t14.fst, ())) (fun r15 =>
   some (r15))
noncomputable def terrierlaw14_awake : Option (Bool × Unit) :=
  bnd (sweep_Put ([]) (((167772160 : Int), (30 : Int))) ((2 : Int))) fun y0 =>
  bnd (sweep_Plan (((0 : Int), (0 : Int), (0 : Int), (5 : Int), (0 : Int), (0 : Int), (0 : Int), (0 : Int), (0 : Int))) (y0.snd.fst) ((2 : Int)) ((3 : Int))) fun y1 =>
  bnd (sweep_Plan (((0 : Int), (0 : Int), (0 : Int), (5 : Int), (0 : Int), (0 : Int), (0 : Int), (0 : Int), (0 : Int))) (y1.snd.fst) ((3 : Int)) ((3 : Int))) fun y2 =>
  ltO (y0.fst == (0 : Int)) fun (v3 : Bool) =>
  chk (v3 = true → v3 = true) <|
  chk (v3 = true → v3 = true) <|
  ltO ((↑y1.fst.length : Int) == (3 : Int)) fun (v4 : Bool) =>
  chk (v3 = true → v3 = true) <|
  ltO (v3 && v4) fun (v5 : Bool) =>
  chk (v5 = true → v5 = true) <|
  chk (v5 = true → v5 = true) <|
  ltO ((↑y2.fst.length : Int) == (1 : Int)) fun (v6 : Bool) =>
  chk (v5 = true → v5 = true) <|
  ltO (v5 && v6) fun (v7 : Bool) =>
  chk (v7 = true → v7 = true) <|
  chk (v7 = true → (0 : Int) ≤ (0 : Int) ∧ (0 : Int) < (↑y2.fst.length : Int)) <|
  ltO (y2.fst.getD (0 : Nat) (0 : Int)) fun (v8 : Int) =>
  chk (v7 = true → v7 = true) <|
  chk (v7 = true → v7 = true) <|
  ltO (v8 == (167772163 : Int)) fun (v9 : Bool) =>
  chk (v7 = true → v7 = true) <|
  ltO (v7 && v9) fun (v10 : Bool) =>
  chk (v10 = true → v10 = true) <|
  chk (v10 = true → (0 : Int) ≤ (0 : Int) ∧ (0 : Int) < (↑y2.snd.fst.length : Int)) <|
  chk (v10 = true → v10 = true) <|
  chk (v10 = true → v10 = true) <|
  chk (v10 = true → (0 : Nat) < y2.snd.fst.length) <|
  chk (v10 = true → v10 = true) <|
  ltO ((y2.snd.fst.getD (0 : Nat) zSweep).snd.fst == (7 : Int)) fun (v11 : Bool) =>
  chk (v10 = true → v10 = true) <|
  ltO (v10 && v11) fun (v12 : Bool) =>
  chk (v12 = true → v12 = true) <|
  chk (v12 = true → (0 : Int) ≤ (0 : Int) ∧ (0 : Int) < (↑y2.snd.fst.length : Int)) <|
  chk (v12 = true → v12 = true) <|
  chk (v12 = true → v12 = true) <|
  chk (v12 = true → (0 : Nat) < y2.snd.fst.length) <|
  chk (v12 = true → v12 = true) <|
  ltO ((y2.snd.fst.getD (0 : Nat) zSweep).snd.snd == (0 : Int)) fun (v13 : Bool) =>
  chk (v12 = true → v12 = true) <|
  ltO (v12 && v13) fun (v14 : Bool) =>
  some (v14, ())
noncomputable def terrierlaw10_Choice_Config (x : Int × Int × Int × Int × Int × Int × Int × Int × Int) : Option (TCfg × Unit) :=
  chk (¬(30 : Int) = (0 : Int)) <|
  ltO (x.fst.tmod (30 : Int)) fun (v0 : Int) =>
  ltO (IntKind.i64.wrap v0) fun (v1 : Int) =>
  ltO (IntKind.i64.wrap ((1 : Int) + v1)) fun (v2 : Int) =>
  chk (¬(60 : Int) = (0 : Int)) <|
  ltO (x.snd.fst.tmod (60 : Int)) fun (v3 : Int) =>
  ltO (IntKind.i64.wrap v3) fun (v4 : Int) =>
  ltO (IntKind.i64.wrap (v2 + v4)) fun (v5 : Int) =>
  chk (¬(6 : Int) = (0 : Int)) <|
  ltO (x.snd.snd.fst.tmod (6 : Int)) fun (v6 : Int) =>
  ltO (IntKind.i64.wrap v6) fun (v7 : Int) =>
  ltO (IntKind.i64.wrap ((1 : Int) + v7)) fun (v8 : Int) =>
  chk (¬(20 : Int) = (0 : Int)) <|
  ltO (x.snd.snd.snd.fst.tmod (20 : Int)) fun (v9 : Int) =>
  ltO (IntKind.i64.wrap v9) fun (v10 : Int) =>
  ltO (IntKind.i64.wrap ((1 : Int) + v10)) fun (v11 : Int) =>
  chk (¬(9 : Int) = (0 : Int)) <|
  ltO (x.snd.snd.snd.snd.fst.tmod (9 : Int)) fun (v12 : Int) =>
  ltO (IntKind.i64.wrap v12) fun (v13 : Int) =>
  ltO (IntKind.i64.wrap ((1 : Int) + v13)) fun (v14 : Int) =>
  chk (¬(6 : Int) = (0 : Int)) <|
  ltO (x.snd.snd.snd.snd.snd.fst.tmod (6 : Int)) fun (v15 : Int) =>
  ltO (IntKind.i64.wrap v15) fun (v16 : Int) =>
  ltO (IntKind.i64.wrap ((1 : Int) + v16)) fun (v17 : Int) =>
  chk (¬(4 : Int) = (0 : Int)) <|
  ltO (x.snd.snd.snd.snd.snd.snd.fst.tmod (4 : Int)) fun (v18 : Int) =>
  ltO (IntKind.i64.wrap v18) fun (v19 : Int) =>
  chk (¬(40 : Int) = (0 : Int)) <|
  ltO (x.snd.snd.snd.snd.snd.snd.snd.fst.tmod (40 : Int)) fun (v20 : Int) =>
  ltO (IntKind.i64.wrap v20) fun (v21 : Int) =>
  ltO (IntKind.i64.wrap ((1 : Int) + v21)) fun (v22 : Int) =>
  chk (¬(50 : Int) = (0 : Int)) <|
  ltO (x.snd.snd.snd.snd.snd.snd.snd.snd.tmod (50 : Int)) fun (v23 : Int) =>
  ltO (IntKind.i64.wrap v23) fun (v24 : Int) =>
  some ((v2, v5, v8, v11, v14, v17, v19, v22, v24), ())
noncomputable def terrierlaw14_Act_block (a' : Int × Int × Int) : Option ((Int × Int) × Unit) :=
  ltO (IntKind.u32.wrap a'.snd.fst) fun (v0 : Int) =>
  ltO (IntKind.u32.wrap (v0 * (4 : Int))) fun (v1 : Int) =>
  ltO (IntKind.u32.wrap ((167772160 : Int) + v1)) fun (v2 : Int) =>
  ltO (IntKind.u8.wrap (a'.snd.snd + (4 : Int))) fun (v3 : Int) =>
  bnd (terrierlaw01_Block (v2) (v3)) fun y4 =>
  some (y4.fst, ())
noncomputable def terrierlaw14_Some_b0 (now : Int) (t16 : List (Int × Int × Int)) (t17 : Int) (t18 : Int) (ss : List TSweep) (c_0 : Int) (c_1 : Int) (c_2 : Int) (c_3 : Int) (c_4 : Int) (c_5 : Int) (c_6 : Int) (c_7 : Int) (c_8 : Int) : Option ((Int × (List (Int × Int × Int)) × Int × Int × (List TSweep) × Int × Int × Int × Int × Int × Int × Int × Int × Int × Unit) ⊕ ((Int × (List TSweep) × Unit) ⊕ (Int × (List TSweep) × Unit))) :=
  cnd (decide (t18 < t17)) (
   chk ((0 : Int) ≤ t18 ∧ t18 < (↑t16.length : Int)) <|
   ltO ((Option.rec ((0 : Int), (0 : Int), (0 : Int)) (fun val => val) t16[t18.toNat]?)) fun (v0 : Int × Int × Int) =>
   chk (¬(3 : Int) = (0 : Int)) <|
   ltO (v0.fst.tmod (3 : Int)) fun (v1 : Int) =>
   ltO (v1 == (0 : Int)) fun (v2 : Bool) =>
   cnd (v2) (
    ltO (IntKind.i64.wrap (now + (1 : Int))) fun (v3 : Int) =>
    chk (¬(9 : Int) = (0 : Int)) <|
    ltO (v0.snd.snd.tmod (9 : Int)) fun (v4 : Int) =>
    ltO (IntKind.i64.wrap v4) fun (v5 : Int) =>
    ltO (IntKind.i64.wrap ((1 : Int) + v5)) fun (v6 : Int) =>
    bnd (sweep_Plan ((c_0, c_1, c_2, c_3, c_4, c_5, c_6, c_7, c_8)) (ss) (v3) (v6)) fun y7 =>
    ltO (IntKind.i64.wrap (t18 + (1 : Int))) fun (v8 : Int) =>
    some (.inl (v3, t16, t17, v8, y7.snd.fst, c_0, c_1, c_2, c_3, c_4, c_5, c_6, c_7, c_8, ()))) (
    bnd (terrierlaw14_Act_block (v0)) fun y9 =>
    bnd (sweep_Put (ss) (y9.fst) (now)) fun y10 =>
    ltO (y10.fst == (0 : Int)) fun (v11 : Bool) =>
    cnd (v11) (
     ltO (IntKind.i64.wrap (t18 + (1 : Int))) fun (v12 : Int) =>
     some (.inl (now, t16, t17, v12, y10.snd.fst, c_0, c_1, c_2, c_3, c_4, c_5, c_6, c_7, c_8, ()))) (
     ltO (IntKind.i64.wrap (t18 + (1 : Int))) fun (v13 : Int) =>
     some (.inl (now, t16, t17, v13, ss, c_0, c_1, c_2, c_3, c_4, c_5, c_6, c_7, c_8, ()))))) (
   some (.inr (.inl (now, ss, ()))))
noncomputable def terrierlaw14_Some_l0 (s : Int × (List (Int × Int × Int)) × Int × Int × (List TSweep) × Int × Int × Int × Int × Int × Int × Int × Int × Int × Unit) : Option ((Int × (List TSweep) × Unit) ⊕ (Int × (List TSweep) × Unit)) := loopM (fun s : Int × (List (Int × Int × Int)) × Int × Int × (List TSweep) × Int × Int × Int × Int × Int × Int × Int × Int × Int × Unit => terrierlaw14_Some_b0 s.1 s.2.1 s.2.2.1 s.2.2.2.1 s.2.2.2.2.1 s.2.2.2.2.2.1 s.2.2.2.2.2.2.1 s.2.2.2.2.2.2.2.1 s.2.2.2.2.2.2.2.2.1 s.2.2.2.2.2.2.2.2.2.1 s.2.2.2.2.2.2.2.2.2.2.1 s.2.2.2.2.2.2.2.2.2.2.2.1 s.2.2.2.2.2.2.2.2.2.2.2.2.1 s.2.2.2.2.2.2.2.2.2.2.2.2.2.1) s
noncomputable def terrierlaw14_Some (c : Int × Int × Int × Int × Int × Int × Int × Int × Int) (acts : List (Int × Int × Int)) : Option (Int × (List TSweep) × Unit) :=
  chk ((0 : Int) ≤ (0 : Int) ∧ ((0 : Int) ≤ if (60 : Int) < (↑acts.length : Int) then (60 : Int) else (↑acts.length : Int)) ∧ (if (60 : Int) < (↑acts.length : Int) then (60 : Int) else (↑acts.length : Int)) ≤ (↑acts.length : Int)) <|
  bnd (terrierlaw14_Some_l0 ((0 : Int), sliceA (0 : Nat) (if (60 : Int) < (↑acts.length : Int) then (60 : Int) else (↑acts.length : Int)).toNat acts, (↑(sliceA (0 : Nat) (if (60 : Int) < (↑acts.length : Int) then (60 : Int) else (↑acts.length : Int)).toNat acts).length : Int), (0 : Int), [], c.fst, c.snd.fst, c.snd.snd.fst, c.snd.snd.snd.fst, c.snd.snd.snd.snd.fst, c.snd.snd.snd.snd.snd.fst, c.snd.snd.snd.snd.snd.snd.fst, c.snd.snd.snd.snd.snd.snd.snd.fst, c.snd.snd.snd.snd.snd.snd.snd.snd, ())) fun y14 =>
  sumO y14 (fun t15 =>
   some (t15.fst, t15.snd.fst, ())) (fun r16 =>
   some (r16))
end Go.Tr
