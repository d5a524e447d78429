/- The functions that these laws reach, as Lean functions: printed by a program of this session's. Conditions: none. -/
import Derived.Test.YtdbpknejbpiebaaBD
import Derived.Test.YtdbpknejbpiebaaBE
import Derived.Test.YtdbpknejbpiebaaAddrD
import Derived.Test.YtdbpknejbpiebaaCodec1D
namespace Go.Tr
open Go
set_option linter.unusedVariables false
set_option maxRecDepth 100000

noncomputable def sweep_Put_1 (s' : (Int × Int) × Int × Int) (t1 : Int × Int) : Option (Bool × Unit) :=
  bnd (addr_Overlap (s'.fst) (t1)) fun y0 =>
  some (y0.fst, ())

noncomputable def slices_IndexFunc_w1_b0 (s' : List TSweep) (fc_0 : Int × Int) (t7 : Int) (t8 : Int) : Option (((List TSweep) × (Int × Int) × Int × Int × Unit) ⊕ (Unit ⊕ (Int × Unit))) :=
  cnd (decide (t8 < t7)) (
   chk ((0 : Int) ≤ t8 ∧ t8 < (↑s'.length : Int)) <|
   ltO ((Option.rec zSweep (fun val => val) s'[t8.toNat]?)) fun (v0 : (Int × Int) × Int × Int) =>
   bnd (sweep_Put_1 (v0) (fc_0)) fun y1 =>
   cnd (y1.fst) (
    some (.inr (.inr (t8, ())))) (
    ltO (IntKind.i64.wrap (t8 + (1 : Int))) fun (v2 : Int) =>
    some (.inl (s', fc_0, t7, v2, ())))) (
   some (.inr (.inl ())))

noncomputable def slices_IndexFunc_w1_l0 (s : (List TSweep) × (Int × Int) × Int × Int × Unit) : Option (Unit ⊕ (Int × Unit)) := loopM (fun s : (List TSweep) × (Int × Int) × Int × Int × Unit => slices_IndexFunc_w1_b0 s.1 s.2.1 s.2.2.1 s.2.2.2.1) s

noncomputable def slices_IndexFunc_w1 (s' : List TSweep) (fc_0 : Int × Int) : Option (Int × Unit) :=
  bnd (slices_IndexFunc_w1_l0 (s', fc_0, (↑s'.length : Int), (0 : Int), ())) fun y3 =>
  sumO y3 (fun t4 =>
   some ((-1 : Int), ())) (fun r5 =>
   some (r5))

noncomputable def slices_ContainsFunc_w1 (s' : List TSweep) (fc_0 : Int × Int) : Option (Bool × Unit) :=
  bnd (slices_IndexFunc_w1 (s') (fc_0)) fun y0 =>
  some (decide (y0.fst ≥ (0 : Int)), ())

noncomputable def slices_Clone_Sweep (xs : List TSweep) : Option (List TSweep × Unit) :=
  clone 32 xs

noncomputable def sweep_Put_2 (x : (Int × Int) × Int × Int) (y : (Int × Int) × Int × Int) : Option (Int × Unit) :=
  ltO (IntKind.i64.wrap x.fst.fst) fun (v0 : Int) =>
  ltO (IntKind.i64.wrap y.fst.fst) fun (v1 : Int) =>
  ltO (IntKind.i64.wrap (v0 - v1)) fun (v2 : Int) =>
  some (v2, ())

noncomputable def slices_SortFunc_sweep_Put_2 (xs : List TSweep) : Option (List TSweep × Unit) :=
  sortF sweep_Put_2 xs

noncomputable def sweep_Put (ss : List TSweep) (b : Int × Int) (now : Int) : Option (Int × (List TSweep) × Unit) :=
  bnd (addr_Right (b)) fun y0 =>
  cnd (!y0.fst) (
   some ((12 : Int), [], ())) (
   bnd (addr_Size (b)) fun y1 =>
   cnd (decide (y1.fst > (256 : Int))) (
    some ((3 : Int), [], ())) (
    bnd (slices_ContainsFunc_w1 (ss) (b)) fun y2 =>
    cnd (y2.fst) (
     some ((5 : Int), [], ())) (
     cnd (decide ((↑ss.length : Int) ≥ (16 : Int))) (
      some ((4 : Int), [], ())) (
      bnd (slices_Clone_Sweep (ss)) fun y3 =>
      bnd (clock_Clamp (now)) fun y4 =>
      chk (room (32 : Nat) (y3.fst.length + [(b, y4.fst, (0 : Int))].length)) <|
      bnd (slices_SortFunc_sweep_Put_2 (y3.fst ++ [(b, y4.fst, (0 : Int))])) fun y5 =>
      some ((0 : Int), y5.fst, ())))))

noncomputable def sweep_order_1 (x : Int) (y : Int) (t2 : List TSweep) : Option (Int × Unit) :=
  chk ((0 : Int) ≤ x ∧ x < (↑(List.length t2) : Int)) <|
  ltO ((Option.rec zSweep (fun val => val) t2[x.toNat]?)) fun (v0 : (Int × Int) × Int × Int) =>
  chk ((0 : Int) ≤ y ∧ y < (↑(List.length t2) : Int)) <|
  ltO ((Option.rec zSweep (fun val => val) t2[y.toNat]?)) fun (v1 : (Int × Int) × Int × Int) =>
  ltO (IntKind.i64.wrap (v0.snd.fst - v1.snd.fst)) fun (v2 : Int) =>
  some (v2, ())

noncomputable def slices_insertionSortCmpFunc_int__b1 (a' : Int) (b : Int) (i : Int) (j : Int) (data : List Int) (o1 : List TSweep) : Option ((Int × Int × Int × Int × (List Int) × (List TSweep) × Unit) ⊕ ((Int × Int × Int × (List Int) × (List TSweep) × Unit) ⊕ ((List Int) × (List TSweep) × Unit))) :=
  chk (decide (j > a') = true → decide (j > a') = true) <|
  chk (decide (j > a') = true → decide (j > a') = true) <|
  chk (decide (j > a') = true → (0 : Int) ≤ j ∧ j < (↑data.length : Int)) <|
  chk (decide (j > a') = true → decide (j > a') = true) <|
  chk (decide (j > a') = true → j.toNat < data.length) <|
  chk (decide (j > a') = true → decide (j > a') = true) <|
  ltO (IntKind.i64.wrap (j - (1 : Int))) fun (v1 : Int) =>
  chk (decide (j > a') = true → decide (j > a') = true) <|
  chk (decide (j > a') = true → decide (j > a') = true) <|
  chk (decide (j > a') = true → (0 : Int) ≤ v1 ∧ v1 < (↑data.length : Int)) <|
  chk (decide (j > a') = true → decide (j > a') = true) <|
  chk (decide (j > a') = true → v1.toNat < data.length) <|
  chk (decide (j > a') = true → decide (j > a') = true) <|
  chk (decide (j > a') = true → decide (j > a') = true) <|
  chk (decide (j > a') = true → decide (j > a') = true) <|
  bndG (decide (j > a')) (sweep_order_1 (data.getD j.toNat (0 : Int)) (data.getD v1.toNat (0 : Int)) (o1)) ((0 : Int), ()) fun y2 =>
  chk (decide (j > a') = true → decide (j > a') = true) <|
  chk (decide (j > a') = true → decide (j > a') = true) <|
  ltO (decide (j > a') && decide (y2.fst < (0 : Int))) fun (v3 : Bool) =>
  cnd (v3) (
   ltO (IntKind.i64.wrap (j - (1 : Int))) fun (v4 : Int) =>
   ltO (IntKind.i64.wrap (j - (1 : Int))) fun (v5 : Int) =>
   chk ((0 : Int) ≤ v5 ∧ v5 < (↑data.length : Int)) <|
   chk (v5.toNat < data.length) <|
   chk ((0 : Int) ≤ j ∧ j < (↑data.length : Int)) <|
   chk (j.toNat < data.length) <|
   chk ((0 : Int) ≤ j ∧ j < (↑data.length : Int)) <|
   chk (j.toNat < data.length) <|
   chk ((0 : Int) ≤ v4 ∧ v4 < (↑(data.set j.toNat (data.getD v5.toNat (0 : Int))).length : Int)) <|
   chk (v4.toNat < (data.set j.toNat (data.getD v5.toNat (0 : Int))).length) <|
   ltO (IntKind.i64.wrap (j - (1 : Int))) fun (v6 : Int) =>
   some (.inl (a', b, i, v6, (data.set j.toNat (data.getD v5.toNat (0 : Int))).set v4.toNat (data.getD j.toNat (0 : Int)), o1, ()))) (
   some (.inr (.inl (a', b, i, data, o1, ()))))

noncomputable def slices_insertionSortCmpFunc_int__l1 (s : Int × Int × Int × Int × (List Int) × (List TSweep) × Unit) : Option ((Int × Int × Int × (List Int) × (List TSweep) × Unit) ⊕ ((List Int) × (List TSweep) × Unit)) := loopM (fun s : Int × Int × Int × Int × (List Int) × (List TSweep) × Unit => slices_insertionSortCmpFunc_int__b1 s.1 s.2.1 s.2.2.1 s.2.2.2.1 s.2.2.2.2.1 s.2.2.2.2.2.1) s

noncomputable def slices_insertionSortCmpFunc_int__b0 (a' : Int) (b : Int) (i : Int) (data : List Int) (o1 : List TSweep) : Option ((Int × Int × Int × (List Int) × (List TSweep) × Unit) ⊕ (((List Int) × (List TSweep) × Unit) ⊕ ((List Int) × (List TSweep) × Unit))) :=
  cnd (decide (i < b)) (
   bnd (slices_insertionSortCmpFunc_int__l1 (a', b, i, i, data, o1, ())) fun y7 =>
   sumO y7 (fun t8 =>
    ltO (IntKind.i64.wrap (t8.snd.snd.fst + (1 : Int))) fun (v10 : Int) =>
    some (.inl (t8.fst, t8.snd.fst, v10, t8.snd.snd.snd.fst, t8.snd.snd.snd.snd.fst, ()))) (fun r9 =>
    some (.inr (.inr (r9))))) (
   some (.inr (.inl (data, o1, ()))))

noncomputable def slices_insertionSortCmpFunc_int__l0 (s : Int × Int × Int × (List Int) × (List TSweep) × Unit) : Option (((List Int) × (List TSweep) × Unit) ⊕ ((List Int) × (List TSweep) × Unit)) := loopM (fun s : Int × Int × Int × (List Int) × (List TSweep) × Unit => slices_insertionSortCmpFunc_int__b0 s.1 s.2.1 s.2.2.1 s.2.2.2.1 s.2.2.2.2.1) s

noncomputable def slices_insertionSortCmpFunc_int_ (a' : Int) (b : Int) (data : List Int) (o1 : List TSweep) : Option ((List Int) × (List TSweep) × Unit) :=
  ltO (IntKind.i64.wrap (a' + (1 : Int))) fun (v0 : Int) =>
  bnd (slices_insertionSortCmpFunc_int__l0 (a', b, v0, data, o1, ())) fun y11 =>
  sumO y11 (fun t12 =>
   some (t12.fst, t12.snd.fst, ())) (fun r13 =>
   some (r13))

noncomputable def slices_symMergeCmpFunc_int__none (x0 : (List Int)) (x1 : Int) (x2 : Int) (x3 : Int) (x4 : (List TSweep)) : Option (Unit) :=
  none

noncomputable def slices_stableCmpFunc_int__b0 (n : Int) (blockSize : Int) (a' : Int) (b : Int) (data : List Int) (o1 : List TSweep) : Option ((Int × Int × Int × Int × (List Int) × (List TSweep) × Unit) ⊕ ((Int × Int × Int × (List Int) × (List TSweep) × Unit) ⊕ ((List Int) × (List TSweep) × Unit))) :=
  cnd (decide (b ≤ n)) (
   bnd (slices_insertionSortCmpFunc_int_ (a') (b) (data) (o1)) fun y0 =>
   ltO (IntKind.i64.wrap (b + blockSize)) fun (v1 : Int) =>
   some (.inl (n, blockSize, b, v1, y0.fst, y0.snd.fst, ()))) (
   some (.inr (.inl (n, blockSize, a', data, o1, ()))))

noncomputable def slices_stableCmpFunc_int__l0 (s : Int × Int × Int × Int × (List Int) × (List TSweep) × Unit) : Option ((Int × Int × Int × (List Int) × (List TSweep) × Unit) ⊕ ((List Int) × (List TSweep) × Unit)) := loopM (fun s : Int × Int × Int × Int × (List Int) × (List TSweep) × Unit => slices_stableCmpFunc_int__b0 s.1 s.2.1 s.2.2.1 s.2.2.2.1 s.2.2.2.2.1 s.2.2.2.2.2.1) s

noncomputable def slices_stableCmpFunc_int__b2 (n : Int) (blockSize : Int) (a' : Int) (b : Int) (data : List Int) (o1 : List TSweep) : Option ((Int × Int × Int × Int × (List Int) × (List TSweep) × Unit) ⊕ ((Int × Int × Int × (List Int) × (List TSweep) × Unit) ⊕ ((List Int) × (List TSweep) × Unit))) :=
  cnd (decide (b ≤ n)) (
   ltO (IntKind.i64.wrap (a' + blockSize)) fun (v7 : Int) =>
   bnd (slices_symMergeCmpFunc_int__none (data) (a') (v7) (b) (o1)) fun y8 =>
   ltO (IntKind.i64.wrap ((2 : Int) * blockSize)) fun (v9 : Int) =>
   ltO (IntKind.i64.wrap (b + v9)) fun (v10 : Int) =>
   some (.inl (n, blockSize, b, v10, data, o1, ()))) (
   some (.inr (.inl (n, blockSize, a', data, o1, ()))))

noncomputable def slices_stableCmpFunc_int__l2 (s : Int × Int × Int × Int × (List Int) × (List TSweep) × Unit) : Option ((Int × Int × Int × (List Int) × (List TSweep) × Unit) ⊕ ((List Int) × (List TSweep) × Unit)) := loopM (fun s : Int × Int × Int × Int × (List Int) × (List TSweep) × Unit => slices_stableCmpFunc_int__b2 s.1 s.2.1 s.2.2.1 s.2.2.2.1 s.2.2.2.2.1 s.2.2.2.2.2.1) s

noncomputable def slices_stableCmpFunc_int__b1 (n : Int) (blockSize : Int) (data : List Int) (o1 : List TSweep) : Option ((Int × Int × (List Int) × (List TSweep) × Unit) ⊕ (((List Int) × (List TSweep) × Unit) ⊕ ((List Int) × (List TSweep) × Unit))) :=
  cnd (decide (blockSize < n)) (
   ltO (IntKind.i64.wrap ((2 : Int) * blockSize)) fun (v6 : Int) =>
   bnd (slices_stableCmpFunc_int__l2 (n, blockSize, (0 : Int), v6, data, o1, ())) fun y11 =>
   sumO y11 (fun t12 =>
    ltO (IntKind.i64.wrap (t12.snd.snd.fst + t12.snd.fst)) fun (v14 : Int) =>
    cnd (decide (v14 < t12.fst)) (
     bnd (slices_symMergeCmpFunc_int__none (t12.snd.snd.snd.fst) (t12.snd.snd.fst) (v14) (t12.fst) (t12.snd.snd.snd.snd.fst)) fun y15 =>
     ltO (IntKind.i64.wrap (t12.snd.fst * (2 : Int))) fun (v16 : Int) =>
     some (.inl (t12.fst, v16, t12.snd.snd.snd.fst, t12.snd.snd.snd.snd.fst, ()))) (
     ltO (IntKind.i64.wrap (t12.snd.fst * (2 : Int))) fun (v17 : Int) =>
     some (.inl (t12.fst, v17, t12.snd.snd.snd.fst, t12.snd.snd.snd.snd.fst, ())))) (fun r13 =>
    some (.inr (.inr (r13))))) (
   some (.inr (.inl (data, o1, ()))))

noncomputable def slices_stableCmpFunc_int__l1 (s : Int × Int × (List Int) × (List TSweep) × Unit) : Option (((List Int) × (List TSweep) × Unit) ⊕ ((List Int) × (List TSweep) × Unit)) := loopM (fun s : Int × Int × (List Int) × (List TSweep) × Unit => slices_stableCmpFunc_int__b1 s.1 s.2.1 s.2.2.1 s.2.2.2.1) s

noncomputable def slices_stableCmpFunc_int_ (n : Int) (data : List Int) (o1 : List TSweep) : Option ((List Int) × (List TSweep) × Unit) :=
  bnd (slices_stableCmpFunc_int__l0 (n, (20 : Int), (0 : Int), (20 : Int), data, o1, ())) fun y2 =>
  sumO y2 (fun t3 =>
   bnd (slices_insertionSortCmpFunc_int_ (t3.snd.snd.fst) (t3.fst) (t3.snd.snd.snd.fst) (t3.snd.snd.snd.snd.fst)) fun y5 =>
   bnd (slices_stableCmpFunc_int__l1 (t3.fst, t3.snd.fst, y5.fst, y5.snd.fst, ())) fun y18 =>
   sumO y18 (fun t19 =>
    some (t19.fst, t19.snd.fst, ())) (fun r20 =>
    some (r20))) (fun r4 =>
   some (r4))

noncomputable def slices_SortStableFunc___int_int_ (x : List Int) (o1 : List TSweep) : Option ((List Int) × (List TSweep) × Unit) :=
  bnd (slices_stableCmpFunc_int_ ((↑x.length : Int)) (x) (o1)) fun y0 =>
  some (y0.fst, y0.snd.fst, ())

noncomputable def sweep_order_b0 (now : Int) (t8 : List TSweep) (t9 : Int) (t10 : Int) (out : List Int) (ss : List TSweep) : Option ((Int × (List TSweep) × Int × Int × (List Int) × (List TSweep) × Unit) ⊕ (((List TSweep) × (List Int) × Unit) ⊕ ((List Int) × Unit))) :=
  cnd (decide (t10 < t9)) (
   chk ((0 : Int) ≤ t10 ∧ t10 < (↑t8.length : Int)) <|
   ltO ((Option.rec zSweep (fun val => val) t8[t10.toNat]?)) fun (v0 : (Int × Int) × Int × Int) =>
   cnd (decide (v0.snd.fst ≤ now)) (
    chk (room (8 : Nat) (out.length + [t10].length)) <|
    ltO (IntKind.i64.wrap (t10 + (1 : Int))) fun (v1 : Int) =>
    some (.inl (now, t8, t9, v1, out ++ [t10], ss, ()))) (
    ltO (IntKind.i64.wrap (t10 + (1 : Int))) fun (v2 : Int) =>
    some (.inl (now, t8, t9, v2, out, ss, ())))) (
   some (.inr (.inl (ss, out, ()))))

noncomputable def sweep_order_l0 (s : Int × (List TSweep) × Int × Int × (List Int) × (List TSweep) × Unit) : Option (((List TSweep) × (List Int) × Unit) ⊕ ((List Int) × Unit)) := loopM (fun s : Int × (List TSweep) × Int × Int × (List Int) × (List TSweep) × Unit => sweep_order_b0 s.1 s.2.1 s.2.2.1 s.2.2.2.1 s.2.2.2.2.1 s.2.2.2.2.2.1) s

noncomputable def sweep_order (ss : List TSweep) (now : Int) : Option ((List Int) × Unit) :=
  bnd (sweep_order_l0 (now, ss, (↑ss.length : Int), (0 : Int), [], ss, ())) fun y3 =>
  sumO y3 (fun t4 =>
   bnd (slices_SortStableFunc___int_int_ (t4.snd.fst) (t4.fst)) fun y6 =>
   some (y6.fst, ())) (fun r5 =>
   some (r5))

noncomputable def clock_Add (t : Int) (n : Int) : Option (Int × Unit) :=
  bnd (clock_Clamp (t)) fun y0 =>
  ltO (IntKind.i64.wrap (y0.fst + if (if (1099511627776 : Int) < n then (1099511627776 : Int) else n) > (-1099511627776 : Int) then if (1099511627776 : Int) < n then (1099511627776 : Int) else n else (-1099511627776 : Int))) fun (v1 : Int) =>
  bnd (clock_Clamp (v1)) fun y2 =>
  some (y2.fst, ())

noncomputable def sweep_Plan_b1 (room : Int) (s' : Nat) (t22 : Int) (t23 : Int) (c_0 : Int) (c_1 : Int) (c_2 : Int) (c_3 : Int) (c_4 : Int) (c_5 : Int) (c_6 : Int) (c_7 : Int) (c_8 : Int) (out : List TSweep) (asks : List Int) (x : List Int) : Option ((Int × Nat × Int × Int × Int × Int × Int × Int × Int × Int × Int × Int × Int × (List TSweep) × (List Int) × (List Int) × Unit) ⊕ ((Int × Nat × Int × Int × Int × Int × Int × Int × Int × Int × Int × Int × Int × (List TSweep) × (List Int) × (List Int) × Unit) ⊕ ((List Int) × (List TSweep) × Unit))) :=
  chk (decide ((↑asks.length : Int) < room) = true → decide ((↑asks.length : Int) < room) = true) <|
  chk (decide ((↑asks.length : Int) < room) = true → decide ((↑asks.length : Int) < room) = true) <|
  chk (decide ((↑asks.length : Int) < room) = true → decide ((↑asks.length : Int) < room) = true) <|
  chk (decide ((↑asks.length : Int) < room) = true → s' < out.length) <|
  chk (decide ((↑asks.length : Int) < room) = true → decide ((↑asks.length : Int) < room) = true) <|
  chk (decide ((↑asks.length : Int) < room) = true → decide ((↑asks.length : Int) < room) = true) <|
  chk (decide ((↑asks.length : Int) < room) = true → decide ((↑asks.length : Int) < room) = true) <|
  chk (decide ((↑asks.length : Int) < room) = true → s' < out.length) <|
  chk (decide ((↑asks.length : Int) < room) = true → decide ((↑asks.length : Int) < room) = true) <|
  bndG (decide ((↑asks.length : Int) < room)) (addr_Size (((out.getD s' zSweep).fst.fst, (out.getD s' zSweep).fst.snd))) ((0 : Int), ()) fun y2 =>
  chk (decide ((↑asks.length : Int) < room) = true → decide ((↑asks.length : Int) < room) = true) <|
  chk (decide ((↑asks.length : Int) < room) = true → decide ((↑asks.length : Int) < room) = true) <|
  chk (decide ((↑asks.length : Int) < room) = true → decide ((↑asks.length : Int) < room) = true) <|
  ltO (decide ((↑asks.length : Int) < room) && decide ((out.getD s' zSweep).snd.snd < y2.fst)) fun (v3 : Bool) =>
  cnd (v3) (
   chk (s' < out.length) <|
   chk (s' < out.length) <|
   bnd (addr_At (((out.getD s' zSweep).fst.fst, (out.getD s' zSweep).fst.snd)) ((out.getD s' zSweep).snd.snd)) fun y4 =>
   chk (Tr.room (4 : Nat) (asks.length + [y4.fst].length)) <|
   chk (s' < out.length) <|
   ltO (IntKind.i64.wrap ((out.getD s' zSweep).snd.snd + (1 : Int))) fun (v5 : Int) =>
   chk (s' < out.length) <|
   some (.inl (room, s', t22, t23, c_0, c_1, c_2, c_3, c_4, c_5, c_6, c_7, c_8, out.set s' (((out.getD s' zSweep).fst.fst, (out.getD s' zSweep).fst.snd), (out.getD s' zSweep).snd.fst, v5), asks ++ [y4.fst], x, ()))) (
   some (.inr (.inl (room, s', t22, t23, c_0, c_1, c_2, c_3, c_4, c_5, c_6, c_7, c_8, out, asks, x, ()))))

noncomputable def sweep_Plan_l1 (s : Int × Nat × Int × Int × Int × Int × Int × Int × Int × Int × Int × Int × Int × (List TSweep) × (List Int) × (List Int) × Unit) : Option ((Int × Nat × Int × Int × Int × Int × Int × Int × Int × Int × Int × Int × Int × (List TSweep) × (List Int) × (List Int) × Unit) ⊕ ((List Int) × (List TSweep) × Unit)) := loopM (fun s : Int × Nat × Int × Int × Int × Int × Int × Int × Int × Int × Int × Int × Int × (List TSweep) × (List Int) × (List Int) × Unit => sweep_Plan_b1 s.1 s.2.1 s.2.2.1 s.2.2.2.1 s.2.2.2.2.1 s.2.2.2.2.2.1 s.2.2.2.2.2.2.1 s.2.2.2.2.2.2.2.1 s.2.2.2.2.2.2.2.2.1 s.2.2.2.2.2.2.2.2.2.1 s.2.2.2.2.2.2.2.2.2.2.1 s.2.2.2.2.2.2.2.2.2.2.2.1 s.2.2.2.2.2.2.2.2.2.2.2.2.1 s.2.2.2.2.2.2.2.2.2.2.2.2.2.1 s.2.2.2.2.2.2.2.2.2.2.2.2.2.2.1 s.2.2.2.2.2.2.2.2.2.2.2.2.2.2.2.1) s

noncomputable def sweep_Plan_b0 (room : Int) (t22 : Int) (t23 : Int) (asks : List Int) (c_0 : Int) (c_1 : Int) (c_2 : Int) (c_3 : Int) (c_4 : Int) (c_5 : Int) (c_6 : Int) (c_7 : Int) (c_8 : Int) (out : List TSweep) (x : List Int) : Option ((Int × Int × Int × (List Int) × Int × Int × Int × Int × Int × Int × Int × Int × Int × (List TSweep) × (List Int) × Unit) ⊕ (((List TSweep) × (List Int) × Unit) ⊕ ((List Int) × (List TSweep) × Unit))) :=
  cnd (decide (t23 < t22)) (
   chk ((0 : Int) ≤ t23 ∧ t23 < (↑x.length : Int)) <|
   chk (t23.toNat < x.length) <|
   chk ((0 : Int) ≤ x.getD t23.toNat (0 : Int) ∧ x.getD t23.toNat (0 : Int) < (↑out.length : Int)) <|
   bnd (sweep_Plan_l1 (room, (x.getD t23.toNat (0 : Int)).toNat, t22, t23, c_0, c_1, c_2, c_3, c_4, c_5, c_6, c_7, c_8, out, asks, x, ())) fun y6 =>
   sumO y6 (fun t7 =>
    chk (t7.snd.fst < t7.snd.snd.snd.snd.snd.snd.snd.snd.snd.snd.snd.snd.snd.fst.length) <|
    chk (t7.snd.fst < t7.snd.snd.snd.snd.snd.snd.snd.snd.snd.snd.snd.snd.snd.fst.length) <|
    bnd (addr_Size (((t7.snd.snd.snd.snd.snd.snd.snd.snd.snd.snd.snd.snd.snd.fst.getD t7.snd.fst zSweep).fst.fst, (t7.snd.snd.snd.snd.snd.snd.snd.snd.snd.snd.snd.snd.snd.fst.getD t7.snd.fst zSweep).fst.snd))) fun y9 =>
    cnd (decide ((t7.snd.snd.snd.snd.snd.snd.snd.snd.snd.snd.snd.snd.snd.fst.getD t7.snd.fst zSweep).snd.snd ≥ y9.fst)) (
     chk (t7.snd.fst < t7.snd.snd.snd.snd.snd.snd.snd.snd.snd.snd.snd.snd.snd.fst.length) <|
     bnd (clock_Add ((t7.snd.snd.snd.snd.snd.snd.snd.snd.snd.snd.snd.snd.snd.fst.getD t7.snd.fst zSweep).snd.fst) (t7.snd.snd.snd.snd.snd.snd.snd.fst)) fun y10 =>
     chk (t7.snd.fst < t7.snd.snd.snd.snd.snd.snd.snd.snd.snd.snd.snd.snd.snd.fst.length) <|
     chk (t7.snd.fst < (t7.snd.snd.snd.snd.snd.snd.snd.snd.snd.snd.snd.snd.snd.fst.set t7.snd.fst (((t7.snd.snd.snd.snd.snd.snd.snd.snd.snd.snd.snd.snd.snd.fst.getD t7.snd.fst zSweep).fst.fst, (t7.snd.snd.snd.snd.snd.snd.snd.snd.snd.snd.snd.snd.snd.fst.getD t7.snd.fst zSweep).fst.snd), (t7.snd.snd.snd.snd.snd.snd.snd.snd.snd.snd.snd.snd.snd.fst.getD t7.snd.fst zSweep).snd.fst, (0 : Int))).length) <|
     ltO (IntKind.i64.wrap (t7.snd.snd.snd.fst + (1 : Int))) fun (v11 : Int) =>
     some (.inl (t7.fst, t7.snd.snd.fst, v11, t7.snd.snd.snd.snd.snd.snd.snd.snd.snd.snd.snd.snd.snd.snd.fst, t7.snd.snd.snd.snd.fst, t7.snd.snd.snd.snd.snd.fst, t7.snd.snd.snd.snd.snd.snd.fst, t7.snd.snd.snd.snd.snd.snd.snd.fst, t7.snd.snd.snd.snd.snd.snd.snd.snd.fst, t7.snd.snd.snd.snd.snd.snd.snd.snd.snd.fst, t7.snd.snd.snd.snd.snd.snd.snd.snd.snd.snd.fst, t7.snd.snd.snd.snd.snd.snd.snd.snd.snd.snd.snd.fst, t7.snd.snd.snd.snd.snd.snd.snd.snd.snd.snd.snd.snd.fst, (t7.snd.snd.snd.snd.snd.snd.snd.snd.snd.snd.snd.snd.snd.fst.set t7.snd.fst (((t7.snd.snd.snd.snd.snd.snd.snd.snd.snd.snd.snd.snd.snd.fst.getD t7.snd.fst zSweep).fst.fst, (t7.snd.snd.snd.snd.snd.snd.snd.snd.snd.snd.snd.snd.snd.fst.getD t7.snd.fst zSweep).fst.snd), (t7.snd.snd.snd.snd.snd.snd.snd.snd.snd.snd.snd.snd.snd.fst.getD t7.snd.fst zSweep).snd.fst, (0 : Int))).set t7.snd.fst ((((t7.snd.snd.snd.snd.snd.snd.snd.snd.snd.snd.snd.snd.snd.fst.set t7.snd.fst (((t7.snd.snd.snd.snd.snd.snd.snd.snd.snd.snd.snd.snd.snd.fst.getD t7.snd.fst zSweep).fst.fst, (t7.snd.snd.snd.snd.snd.snd.snd.snd.snd.snd.snd.snd.snd.fst.getD t7.snd.fst zSweep).fst.snd), (t7.snd.snd.snd.snd.snd.snd.snd.snd.snd.snd.snd.snd.snd.fst.getD t7.snd.fst zSweep).snd.fst, (0 : Int))).getD t7.snd.fst zSweep).fst.fst, ((t7.snd.snd.snd.snd.snd.snd.snd.snd.snd.snd.snd.snd.snd.fst.set t7.snd.fst (((t7.snd.snd.snd.snd.snd.snd.snd.snd.snd.snd.snd.snd.snd.fst.getD t7.snd.fst zSweep).fst.fst, (t7.snd.snd.snd.snd.snd.snd.snd.snd.snd.snd.snd.snd.snd.fst.getD t7.snd.fst zSweep).fst.snd), (t7.snd.snd.snd.snd.snd.snd.snd.snd.snd.snd.snd.snd.snd.fst.getD t7.snd.fst zSweep).snd.fst, (0 : Int))).getD t7.snd.fst zSweep).fst.snd), y10.fst, ((t7.snd.snd.snd.snd.snd.snd.snd.snd.snd.snd.snd.snd.snd.fst.set t7.snd.fst (((t7.snd.snd.snd.snd.snd.snd.snd.snd.snd.snd.snd.snd.snd.fst.getD t7.snd.fst zSweep).fst.fst, (t7.snd.snd.snd.snd.snd.snd.snd.snd.snd.snd.snd.snd.snd.fst.getD t7.snd.fst zSweep).fst.snd), (t7.snd.snd.snd.snd.snd.snd.snd.snd.snd.snd.snd.snd.snd.fst.getD t7.snd.fst zSweep).snd.fst, (0 : Int))).getD t7.snd.fst zSweep).snd.snd), t7.snd.snd.snd.snd.snd.snd.snd.snd.snd.snd.snd.snd.snd.snd.snd.fst, ()))) (
     ltO (IntKind.i64.wrap (t7.snd.snd.snd.fst + (1 : Int))) fun (v12 : Int) =>
     some (.inl (t7.fst, t7.snd.snd.fst, v12, t7.snd.snd.snd.snd.snd.snd.snd.snd.snd.snd.snd.snd.snd.snd.fst, t7.snd.snd.snd.snd.fst, t7.snd.snd.snd.snd.snd.fst, t7.snd.snd.snd.snd.snd.snd.fst, t7.snd.snd.snd.snd.snd.snd.snd.fst, t7.snd.snd.snd.snd.snd.snd.snd.snd.fst, t7.snd.snd.snd.snd.snd.snd.snd.snd.snd.fst, t7.snd.snd.snd.snd.snd.snd.snd.snd.snd.snd.fst, t7.snd.snd.snd.snd.snd.snd.snd.snd.snd.snd.snd.fst, t7.snd.snd.snd.snd.snd.snd.snd.snd.snd.snd.snd.snd.fst, t7.snd.snd.snd.snd.snd.snd.snd.snd.snd.snd.snd.snd.snd.fst, t7.snd.snd.snd.snd.snd.snd.snd.snd.snd.snd.snd.snd.snd.snd.snd.fst, ())))) (fun r8 =>
    some (.inr (.inr (r8))))) (
   some (.inr (.inl (out, asks, ()))))

noncomputable def sweep_Plan_l0 (s : Int × Int × Int × (List Int) × Int × Int × Int × Int × Int × Int × Int × Int × Int × (List TSweep) × (List Int) × Unit) : Option (((List TSweep) × (List Int) × Unit) ⊕ ((List Int) × (List TSweep) × Unit)) := loopM (fun s : Int × Int × Int × (List Int) × Int × Int × Int × Int × Int × Int × Int × Int × Int × (List TSweep) × (List Int) × Unit => sweep_Plan_b0 s.1 s.2.1 s.2.2.1 s.2.2.2.1 s.2.2.2.2.1 s.2.2.2.2.2.1 s.2.2.2.2.2.2.1 s.2.2.2.2.2.2.2.1 s.2.2.2.2.2.2.2.2.1 s.2.2.2.2.2.2.2.2.2.1 s.2.2.2.2.2.2.2.2.2.2.1 s.2.2.2.2.2.2.2.2.2.2.2.1 s.2.2.2.2.2.2.2.2.2.2.2.2.1 s.2.2.2.2.2.2.2.2.2.2.2.2.2.1 s.2.2.2.2.2.2.2.2.2.2.2.2.2.2.1) s

noncomputable def sweep_Plan (c : Int × Int × Int × Int × Int × Int × Int × Int × Int) (ss : List TSweep) (now : Int) (room : Int) : Option ((List Int) × (List TSweep) × Unit) :=
  bnd (slices_Clone_Sweep (ss)) fun y0 =>
  bnd (sweep_order (y0.fst) (now)) fun y1 =>
  bnd (sweep_Plan_l0 (room, (↑y1.fst.length : Int), (0 : Int), [], c.fst, c.snd.fst, c.snd.snd.fst, c.snd.snd.snd.fst, c.snd.snd.snd.snd.fst, c.snd.snd.snd.snd.snd.fst, c.snd.snd.snd.snd.snd.snd.fst, c.snd.snd.snd.snd.snd.snd.snd.fst, c.snd.snd.snd.snd.snd.snd.snd.snd, y0.fst, y1.fst, ())) fun y13 =>
  sumO y13 (fun t14 =>
   some (t14.snd.fst, t14.fst, ())) (fun r15 =>
   some (r15))

noncomputable def terrierlaw14_awake : Option (Bool × Unit) :=
  bnd (sweep_Put ([]) (((167772160 : Int), (30 : Int))) ((2 : Int))) fun y0 =>
  bnd (sweep_Plan (((0 : Int), (0 : Int), (0 : Int), (5 : Int), (0 : Int), (0 : Int), (0 : Int), (0 : Int), (0 : Int))) (y0.snd.fst) ((2 : Int)) ((3 : Int))) fun y1 =>
  bnd (sweep_Plan (((0 : Int), (0 : Int), (0 : Int), (5 : Int), (0 : Int), (0 : Int), (0 : Int), (0 : Int), (0 : Int))) (y1.snd.fst) ((3 : Int)) ((3 : Int))) fun y2 =>
  ltO (y0.fst == (0 : Int)) fun (v3 : Bool) =>
  chk (v3 = true → v3 = true) <|
  chk (v3 = true → v3 = true) <|
  ltO ((↑y1.fst.length : Int) == (3 : Int)) fun (v4 : Bool) =>
  chk (v3 = true → v3 = true) <|
  ltO (v3 && v4) fun (v5 : Bool) =>
  chk (v5 = true → v5 = true) <|
  chk (v5 = true → v5 = true) <|
  ltO ((↑y2.fst.length : Int) == (1 : Int)) fun (v6 : Bool) =>
  chk (v5 = true → v5 = true) <|
  ltO (v5 && v6) fun (v7 : Bool) =>
  chk (v7 = true → v7 = true) <|
  chk (v7 = true → (0 : Int) ≤ (0 : Int) ∧ (0 : Int) < (↑y2.fst.length : Int)) <|
  ltO (y2.fst.getD (0 : Nat) (0 : Int)) fun (v8 : Int) =>
  chk (v7 = true → v7 = true) <|
  chk (v7 = true → v7 = true) <|
  ltO (v8 == (167772163 : Int)) fun (v9 : Bool) =>
  chk (v7 = true → v7 = true) <|
  ltO (v7 && v9) fun (v10 : Bool) =>
  chk (v10 = true → v10 = true) <|
  chk (v10 = true → (0 : Int) ≤ (0 : Int) ∧ (0 : Int) < (↑y2.snd.fst.length : Int)) <|
  chk (v10 = true → v10 = true) <|
  chk (v10 = true → v10 = true) <|
  chk (v10 = true → (0 : Nat) < y2.snd.fst.length) <|
  chk (v10 = true → v10 = true) <|
  ltO ((y2.snd.fst.getD (0 : Nat) zSweep).snd.fst == (7 : Int)) fun (v11 : Bool) =>
  chk (v10 = true → v10 = true) <|
  ltO (v10 && v11) fun (v12 : Bool) =>
  chk (v12 = true → v12 = true) <|
  chk (v12 = true → (0 : Int) ≤ (0 : Int) ∧ (0 : Int) < (↑y2.snd.fst.length : Int)) <|
  chk (v12 = true → v12 = true) <|
  chk (v12 = true → v12 = true) <|
  chk (v12 = true → (0 : Nat) < y2.snd.fst.length) <|
  chk (v12 = true → v12 = true) <|
  ltO ((y2.snd.fst.getD (0 : Nat) zSweep).snd.snd == (0 : Int)) fun (v13 : Bool) =>
  chk (v12 = true → v12 = true) <|
  ltO (v12 && v13) fun (v14 : Bool) =>
  some (v14, ())

noncomputable def terrierlaw10_Choice_Config (x : Int × Int × Int × Int × Int × Int × Int × Int × Int) : Option (TCfg × Unit) :=
  chk (¬(30 : Int) = (0 : Int)) <|
  ltO (x.fst.tmod (30 : Int)) fun (v0 : Int) =>
  ltO (IntKind.i64.wrap v0) fun (v1 : Int) =>
  ltO (IntKind.i64.wrap ((1 : Int) + v1)) fun (v2 : Int) =>
  chk (¬(60 : Int) = (0 : Int)) <|
  ltO (x.snd.fst.tmod (60 : Int)) fun (v3 : Int) =>
  ltO (IntKind.i64.wrap v3) fun (v4 : Int) =>
  ltO (IntKind.i64.wrap (v2 + v4)) fun (v5 : Int) =>
  chk (¬(6 : Int) = (0 : Int)) <|
  ltO (x.snd.snd.fst.tmod (6 : Int)) fun (v6 : Int) =>
  ltO (IntKind.i64.wrap v6) fun (v7 : Int) =>
  ltO (IntKind.i64.wrap ((1 : Int) + v7)) fun (v8 : Int) =>
  chk (¬(20 : Int) = (0 : Int)) <|
  ltO (x.snd.snd.snd.fst.tmod (20 : Int)) fun (v9 : Int) =>
  ltO (IntKind.i64.wrap v9) fun (v10 : Int) =>
  ltO (IntKind.i64.wrap ((1 : Int) + v10)) fun (v11 : Int) =>
  chk (¬(9 : Int) = (0 : Int)) <|
  ltO (x.snd.snd.snd.snd.fst.tmod (9 : Int)) fun (v12 : Int) =>
  ltO (IntKind.i64.wrap v12) fun (v13 : Int) =>
  ltO (IntKind.i64.wrap ((1 : Int) + v13)) fun (v14 : Int) =>
  chk (¬(6 : Int) = (0 : Int)) <|
  ltO (x.snd.snd.snd.snd.snd.fst.tmod (6 : Int)) fun (v15 : Int) =>
  ltO (IntKind.i64.wrap v15) fun (v16 : Int) =>
  ltO (IntKind.i64.wrap ((1 : Int) + v16)) fun (v17 : Int) =>
  chk (¬(4 : Int) = (0 : Int)) <|
  ltO (x.snd.snd.snd.snd.snd.snd.fst.tmod (4 : Int)) fun (v18 : Int) =>
  ltO (IntKind.i64.wrap v18) fun (v19 : Int) =>
  chk (¬(40 : Int) = (0 : Int)) <|
  ltO (x.snd.snd.snd.snd.snd.snd.snd.fst.tmod (40 : Int)) fun (v20 : Int) =>
  ltO (IntKind.i64.wrap v20) fun (v21 : Int) =>
  ltO (IntKind.i64.wrap ((1 : Int) + v21)) fun (v22 : Int) =>
  chk (¬(50 : Int) = (0 : Int)) <|
  ltO (x.snd.snd.snd.snd.snd.snd.snd.snd.tmod (50 : Int)) fun (v23 : Int) =>
  ltO (IntKind.i64.wrap v23) fun (v24 : Int) =>
  some ((v2, v5, v8, v11, v14, v17, v19, v22, v24), ())

noncomputable def terrierlaw14_Act_block (a' : Int × Int × Int) : Option ((Int × Int) × Unit) :=
  ltO (IntKind.u32.wrap a'.snd.fst) fun (v0 : Int) =>
  ltO (IntKind.u32.wrap (v0 * (4 : Int))) fun (v1 : Int) =>
  ltO (IntKind.u32.wrap ((167772160 : Int) + v1)) fun (v2 : Int) =>
  ltO (IntKind.u8.wrap (a'.snd.snd + (4 : Int))) fun (v3 : Int) =>
  bnd (terrierlaw01_Block (v2) (v3)) fun y4 =>
  some (y4.fst, ())

noncomputable def terrierlaw14_Some_b0 (now : Int) (t16 : List (Int × Int × Int)) (t17 : Int) (t18 : Int) (ss : List TSweep) (c_0 : Int) (c_1 : Int) (c_2 : Int) (c_3 : Int) (c_4 : Int) (c_5 : Int) (c_6 : Int) (c_7 : Int) (c_8 : Int) : Option ((Int × (List (Int × Int × Int)) × Int × Int × (List TSweep) × Int × Int × Int × Int × Int × Int × Int × Int × Int × Unit) ⊕ ((Int × (List TSweep) × Unit) ⊕ (Int × (List TSweep) × Unit))) :=
  cnd (decide (t18 < t17)) (
   chk ((0 : Int) ≤ t18 ∧ t18 < (↑t16.length : Int)) <|
   ltO ((Option.rec ((0 : Int), (0 : Int), (0 : Int)) (fun val => val) t16[t18.toNat]?)) fun (v0 : Int × Int × Int) =>
   chk (¬(3 : Int) = (0 : Int)) <|
   ltO (v0.fst.tmod (3 : Int)) fun (v1 : Int) =>
   ltO (v1 == (0 : Int)) fun (v2 : Bool) =>
   cnd (v2) (
    ltO (IntKind.i64.wrap (now + (1 : Int))) fun (v3 : Int) =>
    chk (¬(9 : Int) = (0 : Int)) <|
    ltO (v0.snd.snd.tmod (9 : Int)) fun (v4 : Int) =>
    ltO (IntKind.i64.wrap v4) fun (v5 : Int) =>
    ltO (IntKind.i64.wrap ((1 : Int) + v5)) fun (v6 : Int) =>
    bnd (sweep_Plan ((c_0, c_1, c_2, c_3, c_4, c_5, c_6, c_7, c_8)) (ss) (v3) (v6)) fun y7 =>
    ltO (IntKind.i64.wrap (t18 + (1 : Int))) fun (v8 : Int) =>
    some (.inl (v3, t16, t17, v8, y7.snd.fst, c_0, c_1, c_2, c_3, c_4, c_5, c_6, c_7, c_8, ()))) (
    bnd (terrierlaw14_Act_block (v0)) fun y9 =>
    bnd (sweep_Put (ss) (y9.fst) (now)) fun y10 =>
    ltO (y10.fst == (0 : Int)) fun (v11 : Bool) =>
    cnd (v11) (
     ltO (IntKind.i64.wrap (t18 + (1 : Int))) fun (v12 : Int) =>
     some (.inl (now, t16, t17, v12, y10.snd.fst, c_0, c_1, c_2, c_3, c_4, c_5, c_6, c_7, c_8, ()))) (
     ltO (IntKind.i64.wrap (t18 + (1 : Int))) fun (v13 : Int) =>
     some (.inl (now, t16, t17, v13, ss, c_0, c_1, c_2, c_3, c_4, c_5, c_6, c_7, c_8, ()))))) (
   some (.inr (.inl (now, ss, ()))))

noncomputable def terrierlaw14_Some_l0 (s : Int × (List (Int × Int × Int)) × Int × Int × (List TSweep) × Int × Int × Int × Int × Int × Int × Int × Int × Int × Unit) : Option ((Int × (List TSweep) × Unit) ⊕ (Int × (List TSweep) × Unit)) := loopM (fun s : Int × (List (Int × Int × Int)) × Int × Int × (List TSweep) × Int × Int × Int × Int × Int × Int × Int × Int × Int × Unit => terrierlaw14_Some_b0 s.1 s.2.1 s.2.2.1 s.2.2.2.1 s.2.2.2.2.1 s.2.2.2.2.2.1 s.2.2.2.2.2.2.1 s.2.2.2.2.2.2.2.1 s.2.2.2.2.2.2.2.2.1 s.2.2.2.2.2.2.2.2.2.1 s.2.2.2.2.2.2.2.2.2.2.1 s.2.2.2.2.2.2.2.2.2.2.2.1 s.2.2.2.2.2.2.2.2.2.2.2.2.1 s.2.2.2.2.2.2.2.2.2.2.2.2.2.1) s

noncomputable def terrierlaw14_Some (c : Int × Int × Int × Int × Int × Int × Int × Int × Int) (acts : List (Int × Int × Int)) : Option (Int × (List TSweep) × Unit) :=
  chk ((0 : Int) ≤ (0 : Int) ∧ ((0 : Int) ≤ if (60 : Int) < (↑acts.length : Int) then (60 : Int) else (↑acts.length : Int)) ∧ (if (60 : Int) < (↑acts.length : Int) then (60 : Int) else (↑acts.length : Int)) ≤ (↑acts.length : Int)) <|
  bnd (terrierlaw14_Some_l0 ((0 : Int), sliceA (0 : Nat) (if (60 : Int) < (↑acts.length : Int) then (60 : Int) else (↑acts.length : Int)).toNat acts, (↑(sliceA (0 : Nat) (if (60 : Int) < (↑acts.length : Int) then (60 : Int) else (↑acts.length : Int)).toNat acts).length : Int), (0 : Int), [], c.fst, c.snd.fst, c.snd.snd.fst, c.snd.snd.snd.fst, c.snd.snd.snd.snd.fst, c.snd.snd.snd.snd.snd.fst, c.snd.snd.snd.snd.snd.snd.fst, c.snd.snd.snd.snd.snd.snd.snd.fst, c.snd.snd.snd.snd.snd.snd.snd.snd, ())) fun y14 =>
  sumO y14 (fun t15 =>
   some (t15.fst, t15.snd.fst, ())) (fun r16 =>
   some (r16))

noncomputable def terrierlaw14_right_b0 (ss : List TSweep) (t5 : List TSweep) (t6 : Int) (t7 : Int) : Option (((List TSweep) × (List TSweep) × Int × Int × Unit) ⊕ (((List TSweep) × Unit) ⊕ (Bool × Unit))) :=
  cnd (decide (t7 < t6)) (
   chk ((0 : Int) ≤ t7 ∧ t7 < (↑t5.length : Int)) <|
   ltO ((Option.rec zSweep (fun val => val) t5[t7.toNat]?)) fun (v0 : (Int × Int) × Int × Int) =>
   bnd (addr_Right (v0.fst)) fun y1 =>
   chk ((!!y1.fst) = true → (!!y1.fst) = true) <|
   chk ((!!y1.fst) = true → (!!y1.fst) = true) <|
   chk ((!!y1.fst) = true → (!!y1.fst) = true) <|
   chk ((!y1.fst) = false → (!!y1.fst) = true) <|
   ltO (!y1.fst || decide (v0.fst.snd < (24 : Int))) fun (v2 : Bool) =>
   chk ((!v2) = true → (!v2) = true) <|
   chk ((!v2) = true → (!v2) = true) <|
   chk (v2 = false → (!v2) = true) <|
   ltO (v2 || decide (v0.snd.fst < (0 : Int))) fun (v3 : Bool) =>
   chk ((!v3) = true → (!v3) = true) <|
   chk ((!v3) = true → (!v3) = true) <|
   chk (v3 = false → (!v3) = true) <|
   ltO (v3 || decide (v0.snd.fst > (1099511627776 : Int))) fun (v4 : Bool) =>
   chk ((!v4) = true → (!v4) = true) <|
   chk ((!v4) = true → (!v4) = true) <|
   chk (v4 = false → (!v4) = true) <|
   ltO (v4 || decide (v0.snd.snd < (0 : Int))) fun (v5 : Bool) =>
   chk ((!v5) = true → (!v5) = true) <|
   chk ((!v5) = true → (!v5) = true) <|
   chk ((!v5) = true → (!v5) = true) <|
   chk ((!v5) = true → (!v5) = true) <|
   ltO (IntKind.i64.wrap ((32 : Int) - v0.fst.snd)) fun (v6 : Int) =>
   chk ((!v5) = true → (!v5) = true) <|
   chk ((!v5) = true → (0 : Int) ≤ v6) <|
   ltO (shlI IntKind.i64 (1 : Int) v6) fun (v7 : Int) =>
   chk ((!v5) = true → (!v5) = true) <|
   chk ((!v5) = true → (!v5) = true) <|
   chk (v5 = false → (!v5) = true) <|
   ltO (v5 || decide (v0.snd.snd ≥ v7)) fun (v8 : Bool) =>
   cnd (v8) (
    some (.inr (.inr (false, ())))) (
    chk (decide (t7 > (0 : Int)) = true → decide (t7 > (0 : Int)) = true) <|
    ltO (IntKind.i64.wrap (t7 - (1 : Int))) fun (v9 : Int) =>
    chk (decide (t7 > (0 : Int)) = true → decide (t7 > (0 : Int)) = true) <|
    chk (decide (t7 > (0 : Int)) = true → decide (t7 > (0 : Int)) = true) <|
    chk (decide (t7 > (0 : Int)) = true → (0 : Int) ≤ v9 ∧ v9 < (↑ss.length : Int)) <|
    ltO ((Option.rec zSweep (fun val => val) ss[v9.toNat]?)) fun (v10 : (Int × Int) × Int × Int) =>
    chk (decide (t7 > (0 : Int)) = true → decide (t7 > (0 : Int)) = true) <|
    chk (decide (t7 > (0 : Int)) = true → decide (t7 > (0 : Int)) = true) <|
    chk (decide (t7 > (0 : Int)) = true → decide (t7 > (0 : Int)) = true) <|
    chk (decide (t7 > (0 : Int)) = true → decide (t7 > (0 : Int)) = true) <|
    chk (decide (t7 > (0 : Int)) = true → decide (t7 > (0 : Int)) = true) <|
    chk (decide (t7 > (0 : Int)) = true → decide (t7 > (0 : Int)) = true) <|
    chk (decide (t7 > (0 : Int)) = true → decide (t7 > (0 : Int)) = true) <|
    chk (decide (t7 > (0 : Int)) = true → decide (t7 > (0 : Int)) = true) <|
    chk ((decide (t7 > (0 : Int)) && !decide (v10.fst.fst ≥ v0.fst.fst)) = true → (decide (t7 > (0 : Int)) && !decide (v10.fst.fst ≥ v0.fst.fst)) = true) <|
    ltO (IntKind.i64.wrap (t7 - (1 : Int))) fun (v11 : Int) =>
    chk ((decide (t7 > (0 : Int)) && !decide (v10.fst.fst ≥ v0.fst.fst)) = true → (decide (t7 > (0 : Int)) && !decide (v10.fst.fst ≥ v0.fst.fst)) = true) <|
    chk ((decide (t7 > (0 : Int)) && !decide (v10.fst.fst ≥ v0.fst.fst)) = true → (decide (t7 > (0 : Int)) && !decide (v10.fst.fst ≥ v0.fst.fst)) = true) <|
    chk ((decide (t7 > (0 : Int)) && !decide (v10.fst.fst ≥ v0.fst.fst)) = true → (0 : Int) ≤ v11 ∧ v11 < (↑ss.length : Int)) <|
    ltO ((Option.rec zSweep (fun val => val) ss[v11.toNat]?)) fun (v12 : (Int × Int) × Int × Int) =>
    chk ((decide (t7 > (0 : Int)) && !decide (v10.fst.fst ≥ v0.fst.fst)) = true → (decide (t7 > (0 : Int)) && !decide (v10.fst.fst ≥ v0.fst.fst)) = true) <|
    chk ((decide (t7 > (0 : Int)) && !decide (v10.fst.fst ≥ v0.fst.fst)) = true → (decide (t7 > (0 : Int)) && !decide (v10.fst.fst ≥ v0.fst.fst)) = true) <|
    chk ((decide (t7 > (0 : Int)) && !decide (v10.fst.fst ≥ v0.fst.fst)) = true → (decide (t7 > (0 : Int)) && !decide (v10.fst.fst ≥ v0.fst.fst)) = true) <|
    chk ((decide (t7 > (0 : Int)) && !decide (v10.fst.fst ≥ v0.fst.fst)) = true → (decide (t7 > (0 : Int)) && !decide (v10.fst.fst ≥ v0.fst.fst)) = true) <|
    ltO (IntKind.u64.wrap v12.fst.fst) fun (v13 : Int) =>
    chk ((decide (t7 > (0 : Int)) && !decide (v10.fst.fst ≥ v0.fst.fst)) = true → (decide (t7 > (0 : Int)) && !decide (v10.fst.fst ≥ v0.fst.fst)) = true) <|
    ltO (IntKind.i64.wrap (t7 - (1 : Int))) fun (v14 : Int) =>
    chk ((decide (t7 > (0 : Int)) && !decide (v10.fst.fst ≥ v0.fst.fst)) = true → (decide (t7 > (0 : Int)) && !decide (v10.fst.fst ≥ v0.fst.fst)) = true) <|
    chk ((decide (t7 > (0 : Int)) && !decide (v10.fst.fst ≥ v0.fst.fst)) = true → (decide (t7 > (0 : Int)) && !decide (v10.fst.fst ≥ v0.fst.fst)) = true) <|
    chk ((decide (t7 > (0 : Int)) && !decide (v10.fst.fst ≥ v0.fst.fst)) = true → (0 : Int) ≤ v14 ∧ v14 < (↑ss.length : Int)) <|
    ltO ((Option.rec zSweep (fun val => val) ss[v14.toNat]?)) fun (v15 : (Int × Int) × Int × Int) =>
    chk ((decide (t7 > (0 : Int)) && !decide (v10.fst.fst ≥ v0.fst.fst)) = true → (decide (t7 > (0 : Int)) && !decide (v10.fst.fst ≥ v0.fst.fst)) = true) <|
    chk ((decide (t7 > (0 : Int)) && !decide (v10.fst.fst ≥ v0.fst.fst)) = true → (decide (t7 > (0 : Int)) && !decide (v10.fst.fst ≥ v0.fst.fst)) = true) <|
    chk ((decide (t7 > (0 : Int)) && !decide (v10.fst.fst ≥ v0.fst.fst)) = true → (decide (t7 > (0 : Int)) && !decide (v10.fst.fst ≥ v0.fst.fst)) = true) <|
    chk ((decide (t7 > (0 : Int)) && !decide (v10.fst.fst ≥ v0.fst.fst)) = true → (decide (t7 > (0 : Int)) && !decide (v10.fst.fst ≥ v0.fst.fst)) = true) <|
    ltO (IntKind.i64.wrap ((32 : Int) - v15.fst.snd)) fun (v16 : Int) =>
    chk ((decide (t7 > (0 : Int)) && !decide (v10.fst.fst ≥ v0.fst.fst)) = true → (decide (t7 > (0 : Int)) && !decide (v10.fst.fst ≥ v0.fst.fst)) = true) <|
    chk ((decide (t7 > (0 : Int)) && !decide (v10.fst.fst ≥ v0.fst.fst)) = true → (0 : Int) ≤ v16) <|
    ltO (shlI IntKind.u64 (1 : Int) v16) fun (v17 : Int) =>
    chk ((decide (t7 > (0 : Int)) && !decide (v10.fst.fst ≥ v0.fst.fst)) = true → (decide (t7 > (0 : Int)) && !decide (v10.fst.fst ≥ v0.fst.fst)) = true) <|
    chk ((decide (t7 > (0 : Int)) && !decide (v10.fst.fst ≥ v0.fst.fst)) = true → (decide (t7 > (0 : Int)) && !decide (v10.fst.fst ≥ v0.fst.fst)) = true) <|
    ltO (IntKind.u64.wrap (v13 + v17)) fun (v18 : Int) =>
    chk ((decide (t7 > (0 : Int)) && !decide (v10.fst.fst ≥ v0.fst.fst)) = true → (decide (t7 > (0 : Int)) && !decide (v10.fst.fst ≥ v0.fst.fst)) = true) <|
    chk ((decide (t7 > (0 : Int)) && !decide (v10.fst.fst ≥ v0.fst.fst)) = true → (decide (t7 > (0 : Int)) && !decide (v10.fst.fst ≥ v0.fst.fst)) = true) <|
    chk ((decide (t7 > (0 : Int)) && !decide (v10.fst.fst ≥ v0.fst.fst)) = true → (decide (t7 > (0 : Int)) && !decide (v10.fst.fst ≥ v0.fst.fst)) = true) <|
    ltO (IntKind.u64.wrap v0.fst.fst) fun (v19 : Int) =>
    chk ((decide (t7 > (0 : Int)) && !decide (v10.fst.fst ≥ v0.fst.fst)) = true → (decide (t7 > (0 : Int)) && !decide (v10.fst.fst ≥ v0.fst.fst)) = true) <|
    chk ((decide (t7 > (0 : Int)) && !decide (v10.fst.fst ≥ v0.fst.fst)) = true → (decide (t7 > (0 : Int)) && !decide (v10.fst.fst ≥ v0.fst.fst)) = true) <|
    chk (decide (t7 > (0 : Int)) = true → decide (t7 > (0 : Int)) = true) <|
    chk (decide (t7 > (0 : Int)) = true → decide (v10.fst.fst ≥ v0.fst.fst) = false → (decide (t7 > (0 : Int)) && !decide (v10.fst.fst ≥ v0.fst.fst)) = true) <|
    ltO (decide (v10.fst.fst ≥ v0.fst.fst) || decide (v18 > v19)) fun (v20 : Bool) =>
    chk (decide (t7 > (0 : Int)) = true → decide (t7 > (0 : Int)) = true) <|
    ltO (decide (t7 > (0 : Int)) && v20) fun (v21 : Bool) =>
    cnd (v21) (
     some (.inr (.inr (false, ())))) (
     ltO (IntKind.i64.wrap (t7 + (1 : Int))) fun (v22 : Int) =>
     some (.inl (ss, t5, t6, v22, ()))))) (
   some (.inr (.inl (ss, ()))))

noncomputable def terrierlaw14_right_l0 (s : (List TSweep) × (List TSweep) × Int × Int × Unit) : Option (((List TSweep) × Unit) ⊕ (Bool × Unit)) := loopM (fun s : (List TSweep) × (List TSweep) × Int × Int × Unit => terrierlaw14_right_b0 s.1 s.2.1 s.2.2.1 s.2.2.2.1) s

noncomputable def terrierlaw14_right (ss : List TSweep) : Option (Bool × Unit) :=
  bnd (terrierlaw14_right_l0 (ss, ss, (↑ss.length : Int), (0 : Int), ())) fun y23 =>
  sumO y23 (fun t24 =>
   some (decide ((↑t24.fst.length : Int) ≤ (16 : Int)), ())) (fun r25 =>
   some (r25))

noncomputable def terrierlaw14_SweepPut_b0 (now : Int) (e : Int) (want : Int) (over : Bool) (t37 : Int) (t38 : Int) (b_0 : Int) (b_1 : Int) (ss : List TSweep) (l : List TSweep) : Option ((Int × Int × Int × Bool × Int × Int × Int × Int × (List TSweep) × (List TSweep) × Unit) ⊕ ((Int × Int × Int × Bool × Int × Int × (List TSweep) × (List TSweep) × Unit) ⊕ (Bool × Unit))) :=
  cnd (decide (t38 < t37)) (
   chk ((0 : Int) ≤ t38 ∧ t38 < (↑ss.length : Int)) <|
   chk (t38.toNat < ss.length) <|
   chk ((!over) = true → (!over) = true) <|
   chk ((!over) = true → (!over) = true) <|
   chk ((!over) = true → (!over) = true) <|
   bndG (!over) (addr_Overlap (((ss.getD t38.toNat zSweep).fst.fst, (ss.getD t38.toNat zSweep).fst.snd)) ((b_0, b_1))) (false, ()) fun y4 =>
   chk (over = false → (!over) = true) <|
   ltO (over || y4.fst) fun (v5 : Bool) =>
   ltO (IntKind.i64.wrap (t38 + (1 : Int))) fun (v6 : Int) =>
   some (.inl (now, e, want, v5, t37, v6, b_0, b_1, ss, l, ()))) (
   some (.inr (.inl (now, e, want, over, b_0, b_1, ss, l, ()))))

noncomputable def terrierlaw14_SweepPut_l0 (s : Int × Int × Int × Bool × Int × Int × Int × Int × (List TSweep) × (List TSweep) × Unit) : Option ((Int × Int × Int × Bool × Int × Int × (List TSweep) × (List TSweep) × Unit) ⊕ (Bool × Unit)) := loopM (fun s : Int × Int × Int × Bool × Int × Int × Int × Int × (List TSweep) × (List TSweep) × Unit => terrierlaw14_SweepPut_b0 s.1 s.2.1 s.2.2.1 s.2.2.2.1 s.2.2.2.2.1 s.2.2.2.2.2.1 s.2.2.2.2.2.2.1 s.2.2.2.2.2.2.2.1 s.2.2.2.2.2.2.2.2.1 s.2.2.2.2.2.2.2.2.2.1) s

noncomputable def terrierlaw14_SweepPut_b1 (now : Int) (n : Int) (t69 : Int) (t70 : Int) (b_0 : Int) (b_1 : Int) (ss : List TSweep) (l : List TSweep) : Option ((Int × Int × Int × Int × Int × Int × (List TSweep) × (List TSweep) × Unit) ⊕ ((Int × (List TSweep) × (List TSweep) × Unit) ⊕ (Bool × Unit))) :=
  cnd (decide (t70 < t69)) (
   chk ((0 : Int) ≤ t70 ∧ t70 < (↑l.length : Int)) <|
   chk (t70.toNat < l.length) <|
   ltO ((l.getD t70.toNat zSweep).fst.fst == b_0 && (l.getD t70.toNat zSweep).fst.snd == b_1) fun (v14 : Bool) =>
   cnd (v14) (
    ltO (IntKind.i64.wrap (n + (1 : Int))) fun (v15 : Int) =>
    ltO ((l.getD t70.toNat zSweep).snd.snd != (0 : Int)) fun (v16 : Bool) =>
    chk ((!v16) = true → (!v16) = true) <|
    chk ((!v16) = true → (!v16) = true) <|
    chk ((!v16) = true → (!v16) = true) <|
    chk ((!v16) = true → (!v16) = true) <|
    chk ((!v16) = true → (!v16) = true) <|
    ltO ((l.getD t70.toNat zSweep).snd.fst != if (if (1099511627776 : Int) < now then (1099511627776 : Int) else now) > (0 : Int) then if (1099511627776 : Int) < now then (1099511627776 : Int) else now else (0 : Int)) fun (v17 : Bool) =>
    chk (v16 = false → (!v16) = true) <|
    ltO (v16 || v17) fun (v18 : Bool) =>
    cnd (v18) (
     some (.inr (.inr (false, ())))) (
     ltO (IntKind.i64.wrap (t70 + (1 : Int))) fun (v19 : Int) =>
     some (.inl (now, v15, t69, v19, b_0, b_1, ss, l, ())))) (
    ltO (IntKind.i64.wrap (t70 + (1 : Int))) fun (v20 : Int) =>
    some (.inl (now, n, t69, v20, b_0, b_1, ss, l, ())))) (
   some (.inr (.inl (n, ss, l, ()))))

noncomputable def terrierlaw14_SweepPut_l1 (s : Int × Int × Int × Int × Int × Int × (List TSweep) × (List TSweep) × Unit) : Option ((Int × (List TSweep) × (List TSweep) × Unit) ⊕ (Bool × Unit)) := loopM (fun s : Int × Int × Int × Int × Int × Int × (List TSweep) × (List TSweep) × Unit => terrierlaw14_SweepPut_b1 s.1 s.2.1 s.2.2.1 s.2.2.2.1 s.2.2.2.2.1 s.2.2.2.2.2.1 s.2.2.2.2.2.2.1 s.2.2.2.2.2.2.2.1) s

noncomputable def terrierlaw14_SweepPut (x : Int × Int × Int × Int × Int × Int × Int × Int × Int) (acts : List (Int × Int × Int)) (b : Int × Int) (now : Int) : Option (Bool × Unit) :=
  bnd (terrierlaw14_awake) fun y0 =>
  cnd (!y0.fst) (
   some (false, ())) (
   bnd (terrierlaw10_Choice_Config (x)) fun y1 =>
   bnd (terrierlaw14_Some (y1.fst) (acts)) fun y2 =>
   bnd (sweep_Put (y2.snd.fst) (b) (now)) fun y3 =>
   bnd (terrierlaw14_SweepPut_l0 (now, y3.fst, (0 : Int), false, (↑y2.snd.fst.length : Int), (0 : Int), b.fst, b.snd, y2.snd.fst, y3.snd.fst, ())) fun y7 =>
   sumO y7 (fun t8 =>
    bnd (addr_Right ((t8.snd.snd.snd.snd.fst, t8.snd.snd.snd.snd.snd.fst))) fun y10 =>
    cnd (!y10.fst) (
     ltO (t8.snd.fst != (12 : Int)) fun (v11 : Bool) =>
     cnd (v11) (
      some (false, ())) (
      ltO (t8.snd.fst != (0 : Int)) fun (v12 : Bool) =>
      cnd (v12) (
       ltO ((↑t8.snd.snd.snd.snd.snd.snd.snd.fst.length : Int) == (0 : Int)) fun (v13 : Bool) =>
       some (v13, ())) (
       bnd (terrierlaw14_SweepPut_l1 (t8.fst, (0 : Int), (↑t8.snd.snd.snd.snd.snd.snd.snd.fst.length : Int), (0 : Int), t8.snd.snd.snd.snd.fst, t8.snd.snd.snd.snd.snd.fst, t8.snd.snd.snd.snd.snd.snd.fst, t8.snd.snd.snd.snd.snd.snd.snd.fst, ())) fun y21 =>
       sumO y21 (fun t22 =>
        ltO (t22.fst == (1 : Int)) fun (v24 : Bool) =>
        chk (v24 = true → v24 = true) <|
        chk (v24 = true → v24 = true) <|
        chk (v24 = true → v24 = true) <|
        ltO (IntKind.i64.wrap ((↑t22.snd.fst.length : Int) + (1 : Int))) fun (v25 : Int) =>
        chk (v24 = true → v24 = true) <|
        chk (v24 = true → v24 = true) <|
        ltO ((↑t22.snd.snd.fst.length : Int) == v25) fun (v26 : Bool) =>
        chk (v24 = true → v24 = true) <|
        ltO (v24 && v26) fun (v27 : Bool) =>
        chk (v27 = true → v27 = true) <|
        bndG (v27) (terrierlaw14_right (t22.snd.snd.fst)) (false, ()) fun y28 =>
        chk (v27 = true → v27 = true) <|
        ltO (v27 && y28.fst) fun (v29 : Bool) =>
        some (v29, ())) (fun r23 =>
        some (r23))))) (
     cnd (decide (t8.snd.snd.snd.snd.snd.fst < (24 : Int))) (
      ltO (t8.snd.fst != (3 : Int)) fun (v30 : Bool) =>
      cnd (v30) (
       some (false, ())) (
       ltO (t8.snd.fst != (0 : Int)) fun (v31 : Bool) =>
       cnd (v31) (
        ltO ((↑t8.snd.snd.snd.snd.snd.snd.snd.fst.length : Int) == (0 : Int)) fun (v32 : Bool) =>
        some (v32, ())) (
        bnd (terrierlaw14_SweepPut_l1 (t8.fst, (0 : Int), (↑t8.snd.snd.snd.snd.snd.snd.snd.fst.length : Int), (0 : Int), t8.snd.snd.snd.snd.fst, t8.snd.snd.snd.snd.snd.fst, t8.snd.snd.snd.snd.snd.snd.fst, t8.snd.snd.snd.snd.snd.snd.snd.fst, ())) fun y33 =>
        sumO y33 (fun t34 =>
         ltO (t34.fst == (1 : Int)) fun (v36 : Bool) =>
         chk (v36 = true → v36 = true) <|
         chk (v36 = true → v36 = true) <|
         chk (v36 = true → v36 = true) <|
         ltO (IntKind.i64.wrap ((↑t34.snd.fst.length : Int) + (1 : Int))) fun (v37 : Int) =>
         chk (v36 = true → v36 = true) <|
         chk (v36 = true → v36 = true) <|
         ltO ((↑t34.snd.snd.fst.length : Int) == v37) fun (v38 : Bool) =>
         chk (v36 = true → v36 = true) <|
         ltO (v36 && v38) fun (v39 : Bool) =>
         chk (v39 = true → v39 = true) <|
         bndG (v39) (terrierlaw14_right (t34.snd.snd.fst)) (false, ()) fun y40 =>
         chk (v39 = true → v39 = true) <|
         ltO (v39 && y40.fst) fun (v41 : Bool) =>
         some (v41, ())) (fun r35 =>
         some (r35))))) (
      cnd (t8.snd.snd.snd.fst) (
       ltO (t8.snd.fst != (5 : Int)) fun (v42 : Bool) =>
       cnd (v42) (
        some (false, ())) (
        ltO (t8.snd.fst != (0 : Int)) fun (v43 : Bool) =>
        cnd (v43) (
         ltO ((↑t8.snd.snd.snd.snd.snd.snd.snd.fst.length : Int) == (0 : Int)) fun (v44 : Bool) =>
         some (v44, ())) (
         bnd (terrierlaw14_SweepPut_l1 (t8.fst, (0 : Int), (↑t8.snd.snd.snd.snd.snd.snd.snd.fst.length : Int), (0 : Int), t8.snd.snd.snd.snd.fst, t8.snd.snd.snd.snd.snd.fst, t8.snd.snd.snd.snd.snd.snd.fst, t8.snd.snd.snd.snd.snd.snd.snd.fst, ())) fun y45 =>
         sumO y45 (fun t46 =>
          ltO (t46.fst == (1 : Int)) fun (v48 : Bool) =>
          chk (v48 = true → v48 = true) <|
          chk (v48 = true → v48 = true) <|
          chk (v48 = true → v48 = true) <|
          ltO (IntKind.i64.wrap ((↑t46.snd.fst.length : Int) + (1 : Int))) fun (v49 : Int) =>
          chk (v48 = true → v48 = true) <|
          chk (v48 = true → v48 = true) <|
          ltO ((↑t46.snd.snd.fst.length : Int) == v49) fun (v50 : Bool) =>
          chk (v48 = true → v48 = true) <|
          ltO (v48 && v50) fun (v51 : Bool) =>
          chk (v51 = true → v51 = true) <|
          bndG (v51) (terrierlaw14_right (t46.snd.snd.fst)) (false, ()) fun y52 =>
          chk (v51 = true → v51 = true) <|
          ltO (v51 && y52.fst) fun (v53 : Bool) =>
          some (v53, ())) (fun r47 =>
          some (r47))))) (
       cnd (decide ((↑t8.snd.snd.snd.snd.snd.snd.fst.length : Int) ≥ (16 : Int))) (
        ltO (t8.snd.fst != (4 : Int)) fun (v54 : Bool) =>
        cnd (v54) (
         some (false, ())) (
         ltO (t8.snd.fst != (0 : Int)) fun (v55 : Bool) =>
         cnd (v55) (
          ltO ((↑t8.snd.snd.snd.snd.snd.snd.snd.fst.length : Int) == (0 : Int)) fun (v56 : Bool) =>
          some (v56, ())) (
          bnd (terrierlaw14_SweepPut_l1 (t8.fst, (0 : Int), (↑t8.snd.snd.snd.snd.snd.snd.snd.fst.length : Int), (0 : Int), t8.snd.snd.snd.snd.fst, t8.snd.snd.snd.snd.snd.fst, t8.snd.snd.snd.snd.snd.snd.fst, t8.snd.snd.snd.snd.snd.snd.snd.fst, ())) fun y57 =>
          sumO y57 (fun t58 =>
           ltO (t58.fst == (1 : Int)) fun (v60 : Bool) =>
           chk (v60 = true → v60 = true) <|
           chk (v60 = true → v60 = true) <|
           chk (v60 = true → v60 = true) <|
           ltO (IntKind.i64.wrap ((↑t58.snd.fst.length : Int) + (1 : Int))) fun (v61 : Int) =>
           chk (v60 = true → v60 = true) <|
           chk (v60 = true → v60 = true) <|
           ltO ((↑t58.snd.snd.fst.length : Int) == v61) fun (v62 : Bool) =>
           chk (v60 = true → v60 = true) <|
           ltO (v60 && v62) fun (v63 : Bool) =>
           chk (v63 = true → v63 = true) <|
           bndG (v63) (terrierlaw14_right (t58.snd.snd.fst)) (false, ()) fun y64 =>
           chk (v63 = true → v63 = true) <|
           ltO (v63 && y64.fst) fun (v65 : Bool) =>
           some (v65, ())) (fun r59 =>
           some (r59))))) (
        ltO (t8.snd.fst != t8.snd.snd.fst) fun (v66 : Bool) =>
        cnd (v66) (
         some (false, ())) (
         ltO (t8.snd.fst != (0 : Int)) fun (v67 : Bool) =>
         cnd (v67) (
          ltO ((↑t8.snd.snd.snd.snd.snd.snd.snd.fst.length : Int) == (0 : Int)) fun (v68 : Bool) =>
          some (v68, ())) (
          bnd (terrierlaw14_SweepPut_l1 (t8.fst, (0 : Int), (↑t8.snd.snd.snd.snd.snd.snd.snd.fst.length : Int), (0 : Int), t8.snd.snd.snd.snd.fst, t8.snd.snd.snd.snd.snd.fst, t8.snd.snd.snd.snd.snd.snd.fst, t8.snd.snd.snd.snd.snd.snd.snd.fst, ())) fun y69 =>
          sumO y69 (fun t70 =>
           ltO (t70.fst == (1 : Int)) fun (v72 : Bool) =>
           chk (v72 = true → v72 = true) <|
           chk (v72 = true → v72 = true) <|
           chk (v72 = true → v72 = true) <|
           ltO (IntKind.i64.wrap ((↑t70.snd.fst.length : Int) + (1 : Int))) fun (v73 : Int) =>
           chk (v72 = true → v72 = true) <|
           chk (v72 = true → v72 = true) <|
           ltO ((↑t70.snd.snd.fst.length : Int) == v73) fun (v74 : Bool) =>
           chk (v72 = true → v72 = true) <|
           ltO (v72 && v74) fun (v75 : Bool) =>
           chk (v75 = true → v75 = true) <|
           bndG (v75) (terrierlaw14_right (t70.snd.snd.fst)) (false, ()) fun y76 =>
           chk (v75 = true → v75 = true) <|
           ltO (v75 && y76.fst) fun (v77 : Bool) =>
           some (v77, ())) (fun r71 =>
           some (r71))))))))) (fun r9 =>
    some (r9)))

noncomputable def terrierlaw14_SweepEach_b1 (r : Int) (size : Int) (start : Int) (end' : Int) (now : Int) (as : List Int) (t87 : List Int) (t88 : Int) (t89 : Int) (b_0 : Int) (b_1 : Int) (c_0 : Int) (c_1 : Int) (c_2 : Int) (c_3 : Int) (c_4 : Int) (c_5 : Int) (c_6 : Int) (c_7 : Int) (c_8 : Int) (ss : List TSweep) (last : List Int) : Option ((Int × Int × Int × Int × Int × (List Int) × (List Int) × Int × Int × Int × Int × Int × Int × Int × Int × Int × Int × Int × Int × Int × (List TSweep) × (List Int) × Unit) ⊕ ((Int × Int × Int × Int × Int × (List Int) × Int × Int × Int × Int × Int × Int × Int × Int × Int × Int × Int × (List TSweep) × (List Int) × Unit) ⊕ (Bool × Unit))) :=
  cnd (decide (t89 < t88)) (
   chk ((0 : Int) ≤ t89 ∧ t89 < (↑t87.length : Int)) <|
   ltO (t87.getD t89.toNat (0 : Int)) fun (v24 : Int) =>
   ltO (IntKind.u32.wrap (v24 - b_0)) fun (v25 : Int) =>
   ltO (IntKind.i64.wrap v25) fun (v26 : Int) =>
   chk (¬size = (0 : Int)) <|
   ltO (v26.tmod size) fun (v27 : Int) =>
   chk ((0 : Int) ≤ v27 ∧ v27 < (↑last.length : Int)) <|
   chk (v27.toNat < last.length) <|
   ltO (IntKind.i64.wrap (t89 + (1 : Int))) fun (v28 : Int) =>
   some (.inl (r, size, start, end', now, «as», t87, t88, v28, b_0, b_1, c_0, c_1, c_2, c_3, c_4, c_5, c_6, c_7, c_8, ss, last.set v27.toNat now, ()))) (
   some (.inr (.inl (r, size, start, end', now, «as», b_0, b_1, c_0, c_1, c_2, c_3, c_4, c_5, c_6, c_7, c_8, ss, last, ()))))

noncomputable def terrierlaw14_SweepEach_l1 (s : Int × Int × Int × Int × Int × (List Int) × (List Int) × Int × Int × Int × Int × Int × Int × Int × Int × Int × Int × Int × Int × Int × (List TSweep) × (List Int) × Unit) : Option ((Int × Int × Int × Int × Int × (List Int) × Int × Int × Int × Int × Int × Int × Int × Int × Int × Int × Int × (List TSweep) × (List Int) × Unit) ⊕ (Bool × Unit)) := loopM (fun s : Int × Int × Int × Int × Int × (List Int) × (List Int) × Int × Int × Int × Int × Int × Int × Int × Int × Int × Int × Int × Int × Int × (List TSweep) × (List Int) × Unit => terrierlaw14_SweepEach_b1 s.1 s.2.1 s.2.2.1 s.2.2.2.1 s.2.2.2.2.1 s.2.2.2.2.2.1 s.2.2.2.2.2.2.1 s.2.2.2.2.2.2.2.1 s.2.2.2.2.2.2.2.2.1 s.2.2.2.2.2.2.2.2.2.1 s.2.2.2.2.2.2.2.2.2.2.1 s.2.2.2.2.2.2.2.2.2.2.2.1 s.2.2.2.2.2.2.2.2.2.2.2.2.1 s.2.2.2.2.2.2.2.2.2.2.2.2.2.1 s.2.2.2.2.2.2.2.2.2.2.2.2.2.2.1 s.2.2.2.2.2.2.2.2.2.2.2.2.2.2.2.1 s.2.2.2.2.2.2.2.2.2.2.2.2.2.2.2.2.1 s.2.2.2.2.2.2.2.2.2.2.2.2.2.2.2.2.2.1 s.2.2.2.2.2.2.2.2.2.2.2.2.2.2.2.2.2.2.1 s.2.2.2.2.2.2.2.2.2.2.2.2.2.2.2.2.2.2.2.1 s.2.2.2.2.2.2.2.2.2.2.2.2.2.2.2.2.2.2.2.2.1 s.2.2.2.2.2.2.2.2.2.2.2.2.2.2.2.2.2.2.2.2.2.1) s

noncomputable def terrierlaw14_SweepEach_b0 (r : Int) (size : Int) (start : Int) (end' : Int) (now : Int) (b_0 : Int) (b_1 : Int) (c_0 : Int) (c_1 : Int) (c_2 : Int) (c_3 : Int) (c_4 : Int) (c_5 : Int) (c_6 : Int) (c_7 : Int) (c_8 : Int) (ss : List TSweep) (last : List Int) : Option ((Int × Int × Int × Int × Int × Int × Int × Int × Int × Int × Int × Int × Int × Int × Int × Int × (List TSweep) × (List Int) × Unit) ⊕ ((Int × (List Int) × Unit) ⊕ (Bool × Unit))) :=
  cnd (decide (now < end')) (
   bnd (sweep_Plan ((c_0, c_1, c_2, c_3, c_4, c_5, c_6, c_7, c_8)) (ss) (now) (r)) fun y23 =>
   bnd (terrierlaw14_SweepEach_l1 (r, size, start, end', now, y23.fst, y23.fst, (↑y23.fst.length : Int), (0 : Int), b_0, b_1, c_0, c_1, c_2, c_3, c_4, c_5, c_6, c_7, c_8, y23.snd.fst, last, ())) fun y29 =>
   sumO y29 (fun t30 =>
    cnd (decide ((↑t30.snd.snd.snd.snd.snd.fst.length : Int) > t30.fst)) (
     some (.inr (.inr (false, ())))) (
     ltO (IntKind.i64.wrap (t30.snd.snd.snd.snd.fst + (1 : Int))) fun (v32 : Int) =>
     some (.inl (t30.fst, t30.snd.fst, t30.snd.snd.fst, t30.snd.snd.snd.fst, v32, t30.snd.snd.snd.snd.snd.snd.fst, t30.snd.snd.snd.snd.snd.snd.snd.fst, t30.snd.snd.snd.snd.snd.snd.snd.snd.fst, t30.snd.snd.snd.snd.snd.snd.snd.snd.snd.fst, t30.snd.snd.snd.snd.snd.snd.snd.snd.snd.snd.fst, t30.snd.snd.snd.snd.snd.snd.snd.snd.snd.snd.snd.fst, t30.snd.snd.snd.snd.snd.snd.snd.snd.snd.snd.snd.snd.fst, t30.snd.snd.snd.snd.snd.snd.snd.snd.snd.snd.snd.snd.snd.fst, t30.snd.snd.snd.snd.snd.snd.snd.snd.snd.snd.snd.snd.snd.snd.fst, t30.snd.snd.snd.snd.snd.snd.snd.snd.snd.snd.snd.snd.snd.snd.snd.fst, t30.snd.snd.snd.snd.snd.snd.snd.snd.snd.snd.snd.snd.snd.snd.snd.snd.fst, t30.snd.snd.snd.snd.snd.snd.snd.snd.snd.snd.snd.snd.snd.snd.snd.snd.snd.fst, t30.snd.snd.snd.snd.snd.snd.snd.snd.snd.snd.snd.snd.snd.snd.snd.snd.snd.snd.fst, ())))) (fun r31 =>
    some (.inr (.inr (r31))))) (
   some (.inr (.inl (start, last, ()))))

noncomputable def terrierlaw14_SweepEach_l0 (s : Int × Int × Int × Int × Int × Int × Int × Int × Int × Int × Int × Int × Int × Int × Int × Int × (List TSweep) × (List Int) × Unit) : Option ((Int × (List Int) × Unit) ⊕ (Bool × Unit)) := loopM (fun s : Int × Int × Int × Int × Int × Int × Int × Int × Int × Int × Int × Int × Int × Int × Int × Int × (List TSweep) × (List Int) × Unit => terrierlaw14_SweepEach_b0 s.1 s.2.1 s.2.2.1 s.2.2.2.1 s.2.2.2.2.1 s.2.2.2.2.2.1 s.2.2.2.2.2.2.1 s.2.2.2.2.2.2.2.1 s.2.2.2.2.2.2.2.2.1 s.2.2.2.2.2.2.2.2.2.1 s.2.2.2.2.2.2.2.2.2.2.1 s.2.2.2.2.2.2.2.2.2.2.2.1 s.2.2.2.2.2.2.2.2.2.2.2.2.1 s.2.2.2.2.2.2.2.2.2.2.2.2.2.1 s.2.2.2.2.2.2.2.2.2.2.2.2.2.2.1 s.2.2.2.2.2.2.2.2.2.2.2.2.2.2.2.1 s.2.2.2.2.2.2.2.2.2.2.2.2.2.2.2.2.1 s.2.2.2.2.2.2.2.2.2.2.2.2.2.2.2.2.2.1) s

noncomputable def terrierlaw14_SweepEach_b2 (start : Int) (t109 : Int) (t110 : Int) (last : List Int) : Option ((Int × Int × Int × (List Int) × Unit) ⊕ (Unit ⊕ (Bool × Unit))) :=
  cnd (decide (t110 < t109)) (
   chk ((0 : Int) ≤ t110 ∧ t110 < (↑last.length : Int)) <|
   chk (t110.toNat < last.length) <|
   cnd (decide (last.getD t110.toNat (0 : Int) < start)) (
    some (.inr (.inr (false, ())))) (
    ltO (IntKind.i64.wrap (t110 + (1 : Int))) fun (v36 : Int) =>
    some (.inl (start, t109, v36, last, ())))) (
   some (.inr (.inl ())))

noncomputable def terrierlaw14_SweepEach_l2 (s : Int × Int × Int × (List Int) × Unit) : Option (Unit ⊕ (Bool × Unit)) := loopM (fun s : Int × Int × Int × (List Int) × Unit => terrierlaw14_SweepEach_b2 s.1 s.2.1 s.2.2.1 s.2.2.2.1) s

noncomputable def terrierlaw14_SweepEach (base : Int) (bits : Int) (rate : Int) (every : Int) (from' : Int) : Option (Bool × Unit) :=
  bnd (terrierlaw14_awake) fun y0 =>
  cnd (!y0.fst) (
   some (false, ())) (
   ltO (IntKind.u32.wrap base) fun (v1 : Int) =>
   ltO (IntKind.u32.wrap ((167772160 : Int) + v1)) fun (v2 : Int) =>
   chk (¬(7 : Int) = (0 : Int)) <|
   ltO (bits.tmod (7 : Int)) fun (v3 : Int) =>
   ltO (IntKind.u8.wrap ((6 : Int) + v3)) fun (v4 : Int) =>
   bnd (terrierlaw01_Block (v2) (v4)) fun y5 =>
   chk (¬(16 : Int) = (0 : Int)) <|
   ltO (rate.tmod (16 : Int)) fun (v6 : Int) =>
   ltO (IntKind.i64.wrap v6) fun (v7 : Int) =>
   ltO (IntKind.i64.wrap ((1 : Int) + v7)) fun (v8 : Int) =>
   bnd (addr_Size (y5.fst)) fun y9 =>
   ltO (IntKind.i64.wrap (y9.fst + v8)) fun (v10 : Int) =>
   ltO (IntKind.i64.wrap (v10 - (1 : Int))) fun (v11 : Int) =>
   chk (¬v8 = (0 : Int)) <|
   ltO (IntKind.i64.wrap (v11.tdiv v8)) fun (v12 : Int) =>
   chk (¬(30 : Int) = (0 : Int)) <|
   ltO (every.tmod (30 : Int)) fun (v13 : Int) =>
   ltO (IntKind.i64.wrap v13) fun (v14 : Int) =>
   ltO (IntKind.i64.wrap (v12 + v14)) fun (v15 : Int) =>
   bnd (sweep_Put ([]) (y5.fst) ((1 : Int))) fun y16 =>
   ltO (y16.fst != (0 : Int)) fun (v17 : Bool) =>
   cnd (v17) (
    some (false, ())) (
    chk ((0 : Int) ≤ y9.fst ∧ y9.fst ≤ y9.fst ∧ y9.fst < (9223372036854775808 : Int) ∧ room (8 : Nat) y9.fst.toNat) <|
    chk (¬(200 : Int) = (0 : Int)) <|
    ltO (from'.tmod (200 : Int)) fun (v18 : Int) =>
    ltO (IntKind.i64.wrap v18) fun (v19 : Int) =>
    ltO (IntKind.i64.wrap ((1 : Int) + v19)) fun (v20 : Int) =>
    ltO (IntKind.i64.wrap (v20 + v15)) fun (v21 : Int) =>
    ltO (IntKind.i64.wrap (v21 + v12)) fun (v22 : Int) =>
    bnd (terrierlaw14_SweepEach_l0 (v8, y9.fst, v20, v22, (1 : Int), y5.fst.fst, y5.fst.snd, (0 : Int), (0 : Int), (0 : Int), v15, (0 : Int), (0 : Int), (0 : Int), (0 : Int), (0 : Int), y16.snd.fst, List.replicate y9.fst.toNat (0 : Int), ())) fun y33 =>
    sumO y33 (fun t34 =>
     bnd (terrierlaw14_SweepEach_l2 (t34.fst, (↑t34.snd.fst.length : Int), (0 : Int), t34.snd.fst, ())) fun y37 =>
     sumO y37 (fun t38 =>
      some (true, ())) (fun r39 =>
      some (r39))) (fun r35 =>
     some (r35))))

noncomputable def terrierlaw14_plan_b1 (ss : List TSweep) (now : Int) (room : Int) (k : Int) (t23 : Int) (t24 : Int) (t26 : List TSweep) (t27 : Int) (t28 : Int) (c_0 : Int) (c_1 : Int) (c_2 : Int) (c_3 : Int) (c_4 : Int) (c_5 : Int) (c_6 : Int) (c_7 : Int) (c_8 : Int) (out : List TSweep) (done : List Bool) (asks : List Int) : Option (((List TSweep) × Int × Int × Int × Int × Int × (List TSweep) × Int × Int × Int × Int × Int × Int × Int × Int × Int × Int × Int × (List TSweep) × (List Bool) × (List Int) × Unit) ⊕ (((List TSweep) × Int × Int × Int × Int × Int × Int × Int × Int × Int × Int × Int × Int × Int × Int × (List TSweep) × (List Bool) × (List Int) × Unit) ⊕ ((List Int) × (List TSweep) × Unit))) :=
  cnd (decide (t28 < t27)) (
   chk ((0 : Int) ≤ t28 ∧ t28 < (↑t26.length : Int)) <|
   ltO ((Option.rec zSweep (fun val => val) t26[t28.toNat]?)) fun (v0 : (Int × Int) × Int × Int) =>
   chk ((0 : Int) ≤ t28 ∧ t28 < (↑done.length : Int)) <|
   chk (t28.toNat < done.length) <|
   chk ((!done.getD t28.toNat false) = true → (!done.getD t28.toNat false) = true) <|
   chk ((!done.getD t28.toNat false) = true → (!done.getD t28.toNat false) = true) <|
   chk ((!done.getD t28.toNat false) = true → (!done.getD t28.toNat false) = true) <|
   chk ((!done.getD t28.toNat false) = true → (!done.getD t28.toNat false) = true) <|
   ltO (!done.getD t28.toNat false && decide (v0.snd.fst ≤ now)) fun (v1 : Bool) =>
   chk (v1 = true → v1 = true) <|
   chk (v1 = true → v1 = true) <|
   chk ((v1 && !decide (k < (0 : Int))) = true → (v1 && !decide (k < (0 : Int))) = true) <|
   chk ((v1 && !decide (k < (0 : Int))) = true → (v1 && !decide (k < (0 : Int))) = true) <|
   chk ((v1 && !decide (k < (0 : Int))) = true → (v1 && !decide (k < (0 : Int))) = true) <|
   chk ((v1 && !decide (k < (0 : Int))) = true → (0 : Int) ≤ k ∧ k < (↑ss.length : Int)) <|
   ltO ((Option.rec zSweep (fun val => val) ss[k.toNat]?)) fun (v2 : (Int × Int) × Int × Int) =>
   chk ((v1 && !decide (k < (0 : Int))) = true → (v1 && !decide (k < (0 : Int))) = true) <|
   chk ((v1 && !decide (k < (0 : Int))) = true → (v1 && !decide (k < (0 : Int))) = true) <|
   chk ((v1 && !decide (k < (0 : Int))) = true → (v1 && !decide (k < (0 : Int))) = true) <|
   chk ((v1 && !decide (k < (0 : Int))) = true → (v1 && !decide (k < (0 : Int))) = true) <|
   chk (v1 = true → v1 = true) <|
   chk (v1 = true → decide (k < (0 : Int)) = false → (v1 && !decide (k < (0 : Int))) = true) <|
   ltO (decide (k < (0 : Int)) || decide (v0.snd.fst < v2.snd.fst)) fun (v3 : Bool) =>
   chk (v1 = true → v1 = true) <|
   ltO (v1 && v3) fun (v4 : Bool) =>
   cnd (v4) (
    ltO (IntKind.i64.wrap (t28 + (1 : Int))) fun (v5 : Int) =>
    some (.inl (ss, now, room, t28, t23, t24, t26, t27, v5, c_0, c_1, c_2, c_3, c_4, c_5, c_6, c_7, c_8, out, done, asks, ()))) (
    ltO (IntKind.i64.wrap (t28 + (1 : Int))) fun (v6 : Int) =>
    some (.inl (ss, now, room, k, t23, t24, t26, t27, v6, c_0, c_1, c_2, c_3, c_4, c_5, c_6, c_7, c_8, out, done, asks, ())))) (
   some (.inr (.inl (ss, now, room, k, t23, t24, c_0, c_1, c_2, c_3, c_4, c_5, c_6, c_7, c_8, out, done, asks, ()))))

noncomputable def terrierlaw14_plan_l1 (s : (List TSweep) × Int × Int × Int × Int × Int × (List TSweep) × Int × Int × Int × Int × Int × Int × Int × Int × Int × Int × Int × (List TSweep) × (List Bool) × (List Int) × Unit) : Option (((List TSweep) × Int × Int × Int × Int × Int × Int × Int × Int × Int × Int × Int × Int × Int × Int × (List TSweep) × (List Bool) × (List Int) × Unit) ⊕ ((List Int) × (List TSweep) × Unit)) := loopM (fun s : (List TSweep) × Int × Int × Int × Int × Int × (List TSweep) × Int × Int × Int × Int × Int × Int × Int × Int × Int × Int × Int × (List TSweep) × (List Bool) × (List Int) × Unit => terrierlaw14_plan_b1 s.1 s.2.1 s.2.2.1 s.2.2.2.1 s.2.2.2.2.1 s.2.2.2.2.2.1 s.2.2.2.2.2.2.1 s.2.2.2.2.2.2.2.1 s.2.2.2.2.2.2.2.2.1 s.2.2.2.2.2.2.2.2.2.1 s.2.2.2.2.2.2.2.2.2.2.1 s.2.2.2.2.2.2.2.2.2.2.2.1 s.2.2.2.2.2.2.2.2.2.2.2.2.1 s.2.2.2.2.2.2.2.2.2.2.2.2.2.1 s.2.2.2.2.2.2.2.2.2.2.2.2.2.2.1 s.2.2.2.2.2.2.2.2.2.2.2.2.2.2.2.1 s.2.2.2.2.2.2.2.2.2.2.2.2.2.2.2.2.1 s.2.2.2.2.2.2.2.2.2.2.2.2.2.2.2.2.2.1 s.2.2.2.2.2.2.2.2.2.2.2.2.2.2.2.2.2.2.1 s.2.2.2.2.2.2.2.2.2.2.2.2.2.2.2.2.2.2.2.1 s.2.2.2.2.2.2.2.2.2.2.2.2.2.2.2.2.2.2.2.2.1) s

noncomputable def terrierlaw14_plan_b2 (ss : List TSweep) (now : Int) (room : Int) (k : Int) (size : Int) (t23 : Int) (t24 : Int) (c_0 : Int) (c_1 : Int) (c_2 : Int) (c_3 : Int) (c_4 : Int) (c_5 : Int) (c_6 : Int) (c_7 : Int) (c_8 : Int) (out : List TSweep) (done : List Bool) (asks : List Int) : Option (((List TSweep) × Int × Int × Int × Int × Int × Int × Int × Int × Int × Int × Int × Int × Int × Int × Int × (List TSweep) × (List Bool) × (List Int) × Unit) ⊕ (((List TSweep) × Int × Int × Int × Int × Int × Int × Int × Int × Int × Int × Int × Int × Int × Int × Int × (List TSweep) × (List Bool) × (List Int) × Unit) ⊕ ((List Int) × (List TSweep) × Unit))) :=
  chk ((0 : Int) ≤ k ∧ k < (↑out.length : Int)) <|
  chk (k.toNat < out.length) <|
  chk (decide ((out.getD k.toNat zSweep).snd.snd < size) = true → decide ((out.getD k.toNat zSweep).snd.snd < size) = true) <|
  chk (decide ((out.getD k.toNat zSweep).snd.snd < size) = true → decide ((out.getD k.toNat zSweep).snd.snd < size) = true) <|
  chk (decide ((out.getD k.toNat zSweep).snd.snd < size) = true → decide ((out.getD k.toNat zSweep).snd.snd < size) = true) <|
  chk (decide ((out.getD k.toNat zSweep).snd.snd < size) = true → decide ((out.getD k.toNat zSweep).snd.snd < size) = true) <|
  ltO (decide ((out.getD k.toNat zSweep).snd.snd < size) && decide ((↑asks.length : Int) < room)) fun (v13 : Bool) =>
  cnd (v13) (
   chk ((0 : Int) ≤ k ∧ k < (↑ss.length : Int)) <|
   ltO ((Option.rec zSweep (fun val => val) ss[k.toNat]?)) fun (v14 : (Int × Int) × Int × Int) =>
   chk ((0 : Int) ≤ k ∧ k < (↑out.length : Int)) <|
   chk (k.toNat < out.length) <|
   ltO (IntKind.u32.wrap (out.getD k.toNat zSweep).snd.snd) fun (v15 : Int) =>
   ltO (IntKind.u32.wrap (v14.fst.fst + v15)) fun (v16 : Int) =>
   chk (Tr.room (4 : Nat) (asks.length + [v16].length)) <|
   chk ((0 : Int) ≤ k ∧ k < (↑out.length : Int)) <|
   chk (k.toNat < out.length) <|
   ltO (IntKind.i64.wrap ((out.getD k.toNat zSweep).snd.snd + (1 : Int))) fun (v17 : Int) =>
   chk ((0 : Int) ≤ k ∧ k < (↑out.length : Int)) <|
   chk (k.toNat < out.length) <|
   some (.inl (ss, now, room, k, size, t23, t24, c_0, c_1, c_2, c_3, c_4, c_5, c_6, c_7, c_8, out.set k.toNat (((out.getD k.toNat zSweep).fst.fst, (out.getD k.toNat zSweep).fst.snd), (out.getD k.toNat zSweep).snd.fst, v17), done, asks ++ [v16], ()))) (
   some (.inr (.inl (ss, now, room, k, size, t23, t24, c_0, c_1, c_2, c_3, c_4, c_5, c_6, c_7, c_8, out, done, asks, ()))))

noncomputable def terrierlaw14_plan_l2 (s : (List TSweep) × Int × Int × Int × Int × Int × Int × Int × Int × Int × Int × Int × Int × Int × Int × Int × (List TSweep) × (List Bool) × (List Int) × Unit) : Option (((List TSweep) × Int × Int × Int × Int × Int × Int × Int × Int × Int × Int × Int × Int × Int × Int × Int × (List TSweep) × (List Bool) × (List Int) × Unit) ⊕ ((List Int) × (List TSweep) × Unit)) := loopM (fun s : (List TSweep) × Int × Int × Int × Int × Int × Int × Int × Int × Int × Int × Int × Int × Int × Int × Int × (List TSweep) × (List Bool) × (List Int) × Unit => terrierlaw14_plan_b2 s.1 s.2.1 s.2.2.1 s.2.2.2.1 s.2.2.2.2.1 s.2.2.2.2.2.1 s.2.2.2.2.2.2.1 s.2.2.2.2.2.2.2.1 s.2.2.2.2.2.2.2.2.1 s.2.2.2.2.2.2.2.2.2.1 s.2.2.2.2.2.2.2.2.2.2.1 s.2.2.2.2.2.2.2.2.2.2.2.1 s.2.2.2.2.2.2.2.2.2.2.2.2.1 s.2.2.2.2.2.2.2.2.2.2.2.2.2.1 s.2.2.2.2.2.2.2.2.2.2.2.2.2.2.1 s.2.2.2.2.2.2.2.2.2.2.2.2.2.2.2.1 s.2.2.2.2.2.2.2.2.2.2.2.2.2.2.2.2.1 s.2.2.2.2.2.2.2.2.2.2.2.2.2.2.2.2.2.1 s.2.2.2.2.2.2.2.2.2.2.2.2.2.2.2.2.2.2.1) s

noncomputable def terrierlaw14_plan_b0 (ss : List TSweep) (now : Int) (room : Int) (t23 : Int) (t24 : Int) (asks : List Int) (c_0 : Int) (c_1 : Int) (c_2 : Int) (c_3 : Int) (c_4 : Int) (c_5 : Int) (c_6 : Int) (c_7 : Int) (c_8 : Int) (out : List TSweep) (done : List Bool) : Option (((List TSweep) × Int × Int × Int × Int × (List Int) × Int × Int × Int × Int × Int × Int × Int × Int × Int × (List TSweep) × (List Bool) × Unit) ⊕ (((List TSweep) × (List Int) × Unit) ⊕ ((List Int) × (List TSweep) × Unit))) :=
  cnd (decide (t24 < t23)) (
   bnd (terrierlaw14_plan_l1 (ss, now, room, (-1 : Int), t23, t24, ss, (↑ss.length : Int), (0 : Int), c_0, c_1, c_2, c_3, c_4, c_5, c_6, c_7, c_8, out, done, asks, ())) fun y7 =>
   sumO y7 (fun t8 =>
    cnd (decide (t8.snd.snd.snd.fst < (0 : Int))) (
     some (.inr (.inl (t8.snd.snd.snd.snd.snd.snd.snd.snd.snd.snd.snd.snd.snd.snd.snd.fst, t8.snd.snd.snd.snd.snd.snd.snd.snd.snd.snd.snd.snd.snd.snd.snd.snd.snd.fst, ())))) (
     chk ((0 : Int) ≤ t8.snd.snd.snd.fst ∧ t8.snd.snd.snd.fst < (↑t8.snd.snd.snd.snd.snd.snd.snd.snd.snd.snd.snd.snd.snd.snd.snd.snd.fst.length : Int)) <|
     chk (t8.snd.snd.snd.fst.toNat < t8.snd.snd.snd.snd.snd.snd.snd.snd.snd.snd.snd.snd.snd.snd.snd.snd.fst.length) <|
     chk ((0 : Int) ≤ t8.snd.snd.snd.fst ∧ t8.snd.snd.snd.fst < (↑t8.fst.length : Int)) <|
     ltO ((Option.rec zSweep (fun val => val) t8.fst[t8.snd.snd.snd.fst.toNat]?)) fun (v10 : (Int × Int) × Int × Int) =>
     ltO (IntKind.i64.wrap ((32 : Int) - v10.fst.snd)) fun (v11 : Int) =>
     chk ((0 : Int) ≤ v11) <|
     ltO (shlI IntKind.i64 (1 : Int) v11) fun (v12 : Int) =>
     bnd (terrierlaw14_plan_l2 (t8.fst, t8.snd.fst, t8.snd.snd.fst, t8.snd.snd.snd.fst, v12, t8.snd.snd.snd.snd.fst, t8.snd.snd.snd.snd.snd.fst, t8.snd.snd.snd.snd.snd.snd.fst, t8.snd.snd.snd.snd.snd.snd.snd.fst, t8.snd.snd.snd.snd.snd.snd.snd.snd.fst, t8.snd.snd.snd.snd.snd.snd.snd.snd.snd.fst, t8.snd.snd.snd.snd.snd.snd.snd.snd.snd.snd.fst, t8.snd.snd.snd.snd.snd.snd.snd.snd.snd.snd.snd.fst, t8.snd.snd.snd.snd.snd.snd.snd.snd.snd.snd.snd.snd.fst, t8.snd.snd.snd.snd.snd.snd.snd.snd.snd.snd.snd.snd.snd.fst, t8.snd.snd.snd.snd.snd.snd.snd.snd.snd.snd.snd.snd.snd.snd.fst, t8.snd.snd.snd.snd.snd.snd.snd.snd.snd.snd.snd.snd.snd.snd.snd.fst, t8.snd.snd.snd.snd.snd.snd.snd.snd.snd.snd.snd.snd.snd.snd.snd.snd.fst.set t8.snd.snd.snd.fst.toNat true, t8.snd.snd.snd.snd.snd.snd.snd.snd.snd.snd.snd.snd.snd.snd.snd.snd.snd.fst, ())) fun y18 =>
     sumO y18 (fun t19 =>
      chk ((0 : Int) ≤ t19.snd.snd.snd.fst ∧ t19.snd.snd.snd.fst < (↑t19.snd.snd.snd.snd.snd.snd.snd.snd.snd.snd.snd.snd.snd.snd.snd.snd.fst.length : Int)) <|
      chk (t19.snd.snd.snd.fst.toNat < t19.snd.snd.snd.snd.snd.snd.snd.snd.snd.snd.snd.snd.snd.snd.snd.snd.fst.length) <|
      ltO ((t19.snd.snd.snd.snd.snd.snd.snd.snd.snd.snd.snd.snd.snd.snd.snd.snd.fst.getD t19.snd.snd.snd.fst.toNat zSweep).snd.snd == t19.snd.snd.snd.snd.fst) fun (v21 : Bool) =>
      cnd (v21) (
       chk ((0 : Int) ≤ t19.snd.snd.snd.fst ∧ t19.snd.snd.snd.fst < (↑t19.snd.snd.snd.snd.snd.snd.snd.snd.snd.snd.snd.snd.snd.snd.snd.snd.fst.length : Int)) <|
       chk (t19.snd.snd.snd.fst.toNat < t19.snd.snd.snd.snd.snd.snd.snd.snd.snd.snd.snd.snd.snd.snd.snd.snd.fst.length) <|
       chk ((0 : Int) ≤ t19.snd.snd.snd.fst ∧ t19.snd.snd.snd.fst < (↑t19.fst.length : Int)) <|
       ltO ((Option.rec zSweep (fun val => val) t19.fst[t19.snd.snd.snd.fst.toNat]?)) fun (v22 : (Int × Int) × Int × Int) =>
       ltO (IntKind.i64.wrap (v22.snd.fst + if (if (1099511627776 : Int) < t19.snd.snd.snd.snd.snd.snd.snd.snd.snd.snd.fst then (1099511627776 : Int) else t19.snd.snd.snd.snd.snd.snd.snd.snd.snd.snd.fst) > (-1099511627776 : Int) then if (1099511627776 : Int) < t19.snd.snd.snd.snd.snd.snd.snd.snd.snd.snd.fst then (1099511627776 : Int) else t19.snd.snd.snd.snd.snd.snd.snd.snd.snd.snd.fst else (-1099511627776 : Int))) fun (v23 : Int) =>
       chk ((0 : Int) ≤ t19.snd.snd.snd.fst ∧ t19.snd.snd.snd.fst < (↑(t19.snd.snd.snd.snd.snd.snd.snd.snd.snd.snd.snd.snd.snd.snd.snd.snd.fst.set t19.snd.snd.snd.fst.toNat (((t19.snd.snd.snd.snd.snd.snd.snd.snd.snd.snd.snd.snd.snd.snd.snd.snd.fst.getD t19.snd.snd.snd.fst.toNat zSweep).fst.fst, (t19.snd.snd.snd.snd.snd.snd.snd.snd.snd.snd.snd.snd.snd.snd.snd.snd.fst.getD t19.snd.snd.snd.fst.toNat zSweep).fst.snd), (t19.snd.snd.snd.snd.snd.snd.snd.snd.snd.snd.snd.snd.snd.snd.snd.snd.fst.getD t19.snd.snd.snd.fst.toNat zSweep).snd.fst, (0 : Int))).length : Int)) <|
       chk (t19.snd.snd.snd.fst.toNat < (t19.snd.snd.snd.snd.snd.snd.snd.snd.snd.snd.snd.snd.snd.snd.snd.snd.fst.set t19.snd.snd.snd.fst.toNat (((t19.snd.snd.snd.snd.snd.snd.snd.snd.snd.snd.snd.snd.snd.snd.snd.snd.fst.getD t19.snd.snd.snd.fst.toNat zSweep).fst.fst, (t19.snd.snd.snd.snd.snd.snd.snd.snd.snd.snd.snd.snd.snd.snd.snd.snd.fst.getD t19.snd.snd.snd.fst.toNat zSweep).fst.snd), (t19.snd.snd.snd.snd.snd.snd.snd.snd.snd.snd.snd.snd.snd.snd.snd.snd.fst.getD t19.snd.snd.snd.fst.toNat zSweep).snd.fst, (0 : Int))).length) <|
       chk ((0 : Int) ≤ t19.snd.snd.snd.fst ∧ t19.snd.snd.snd.fst < (↑((t19.snd.snd.snd.snd.snd.snd.snd.snd.snd.snd.snd.snd.snd.snd.snd.snd.fst.set t19.snd.snd.snd.fst.toNat (((t19.snd.snd.snd.snd.snd.snd.snd.snd.snd.snd.snd.snd.snd.snd.snd.snd.fst.getD t19.snd.snd.snd.fst.toNat zSweep).fst.fst, (t19.snd.snd.snd.snd.snd.snd.snd.snd.snd.snd.snd.snd.snd.snd.snd.snd.fst.getD t19.snd.snd.snd.fst.toNat zSweep).fst.snd), (t19.snd.snd.snd.snd.snd.snd.snd.snd.snd.snd.snd.snd.snd.snd.snd.snd.fst.getD t19.snd.snd.snd.fst.toNat zSweep).snd.fst, (0 : Int))).set t19.snd.snd.snd.fst.toNat ((((t19.snd.snd.snd.snd.snd.snd.snd.snd.snd.snd.snd.snd.snd.snd.snd.snd.fst.set t19.snd.snd.snd.fst.toNat (((t19.snd.snd.snd.snd.snd.snd.snd.snd.snd.snd.snd.snd.snd.snd.snd.snd.fst.getD t19.snd.snd.snd.fst.toNat zSweep).fst.fst, (t19.snd.snd.snd.snd.snd.snd.snd.snd.snd.snd.snd.snd.snd.snd.snd.snd.fst.getD t19.snd.snd.snd.fst.toNat zSweep).fst.snd), (t19.snd.snd.snd.snd.snd.snd.snd.snd.snd.snd.snd.snd.snd.snd.snd.snd.fst.getD t19.snd.snd.snd.fst.toNat zSweep).snd.fst, (0 : Int))).getD t19.snd.snd.snd.fst.toNat zSweep).fst.fst, ((t19.snd.snd.snd.snd.snd.snd.snd.snd.snd.snd.snd.snd.snd.snd.snd.snd.fst.set t19.snd.snd.snd.fst.toNat (((t19.snd.snd.snd.snd.snd.snd.snd.snd.snd.snd.snd.snd.snd.snd.snd.snd.fst.getD t19.snd.snd.snd.fst.toNat zSweep).fst.fst, (t19.snd.snd.snd.snd.snd.snd.snd.snd.snd.snd.snd.snd.snd.snd.snd.snd.fst.getD t19.snd.snd.snd.fst.toNat zSweep).fst.snd), (t19.snd.snd.snd.snd.snd.snd.snd.snd.snd.snd.snd.snd.snd.snd.snd.snd.fst.getD t19.snd.snd.snd.fst.toNat zSweep).snd.fst, (0 : Int))).getD t19.snd.snd.snd.fst.toNat zSweep).fst.snd), if (1099511627776 : Int) < v23 then (1099511627776 : Int) else v23, ((t19.snd.snd.snd.snd.snd.snd.snd.snd.snd.snd.snd.snd.snd.snd.snd.snd.fst.set t19.snd.snd.snd.fst.toNat (((t19.snd.snd.snd.snd.snd.snd.snd.snd.snd.snd.snd.snd.snd.snd.snd.snd.fst.getD t19.snd.snd.snd.fst.toNat zSweep).fst.fst, (t19.snd.snd.snd.snd.snd.snd.snd.snd.snd.snd.snd.snd.snd.snd.snd.snd.fst.getD t19.snd.snd.snd.fst.toNat zSweep).fst.snd), (t19.snd.snd.snd.snd.snd.snd.snd.snd.snd.snd.snd.snd.snd.snd.snd.snd.fst.getD t19.snd.snd.snd.fst.toNat zSweep).snd.fst, (0 : Int))).getD t19.snd.snd.snd.fst.toNat zSweep).snd.snd)).length : Int)) <|
       chk (t19.snd.snd.snd.fst.toNat < ((t19.snd.snd.snd.snd.snd.snd.snd.snd.snd.snd.snd.snd.snd.snd.snd.snd.fst.set t19.snd.snd.snd.fst.toNat (((t19.snd.snd.snd.snd.snd.snd.snd.snd.snd.snd.snd.snd.snd.snd.snd.snd.fst.getD t19.snd.snd.snd.fst.toNat zSweep).fst.fst, (t19.snd.snd.snd.snd.snd.snd.snd.snd.snd.snd.snd.snd.snd.snd.snd.snd.fst.getD t19.snd.snd.snd.fst.toNat zSweep).fst.snd), (t19.snd.snd.snd.snd.snd.snd.snd.snd.snd.snd.snd.snd.snd.snd.snd.snd.fst.getD t19.snd.snd.snd.fst.toNat zSweep).snd.fst, (0 : Int))).set t19.snd.snd.snd.fst.toNat ((((t19.snd.snd.snd.snd.snd.snd.snd.snd.snd.snd.snd.snd.snd.snd.snd.snd.fst.set t19.snd.snd.snd.fst.toNat (((t19.snd.snd.snd.snd.snd.snd.snd.snd.snd.snd.snd.snd.snd.snd.snd.snd.fst.getD t19.snd.snd.snd.fst.toNat zSweep).fst.fst, (t19.snd.snd.snd.snd.snd.snd.snd.snd.snd.snd.snd.snd.snd.snd.snd.snd.fst.getD t19.snd.snd.snd.fst.toNat zSweep).fst.snd), (t19.snd.snd.snd.snd.snd.snd.snd.snd.snd.snd.snd.snd.snd.snd.snd.snd.fst.getD t19.snd.snd.snd.fst.toNat zSweep).snd.fst, (0 : Int))).getD t19.snd.snd.snd.fst.toNat zSweep).fst.fst, ((t19.snd.snd.snd.snd.snd.snd.snd.snd.snd.snd.snd.snd.snd.snd.snd.snd.fst.set t19.snd.snd.snd.fst.toNat (((t19.snd.snd.snd.snd.snd.snd.snd.snd.snd.snd.snd.snd.snd.snd.snd.snd.fst.getD t19.snd.snd.snd.fst.toNat zSweep).fst.fst, (t19.snd.snd.snd.snd.snd.snd.snd.snd.snd.snd.snd.snd.snd.snd.snd.snd.fst.getD t19.snd.snd.snd.fst.toNat zSweep).fst.snd), (t19.snd.snd.snd.snd.snd.snd.snd.snd.snd.snd.snd.snd.snd.snd.snd.snd.fst.getD t19.snd.snd.snd.fst.toNat zSweep).snd.fst, (0 : Int))).getD t19.snd.snd.snd.fst.toNat zSweep).fst.snd), if (1099511627776 : Int) < v23 then (1099511627776 : Int) else v23, ((t19.snd.snd.snd.snd.snd.snd.snd.snd.snd.snd.snd.snd.snd.snd.snd.snd.fst.set t19.snd.snd.snd.fst.toNat (((t19.snd.snd.snd.snd.snd.snd.snd.snd.snd.snd.snd.snd.snd.snd.snd.snd.fst.getD t19.snd.snd.snd.fst.toNat zSweep).fst.fst, (t19.snd.snd.snd.snd.snd.snd.snd.snd.snd.snd.snd.snd.snd.snd.snd.snd.fst.getD t19.snd.snd.snd.fst.toNat zSweep).fst.snd), (t19.snd.snd.snd.snd.snd.snd.snd.snd.snd.snd.snd.snd.snd.snd.snd.snd.fst.getD t19.snd.snd.snd.fst.toNat zSweep).snd.fst, (0 : Int))).getD t19.snd.snd.snd.fst.toNat zSweep).snd.snd)).length) <|
       chk ((0 : Int) ≤ t19.snd.snd.snd.fst ∧ t19.snd.snd.snd.fst < (↑((t19.snd.snd.snd.snd.snd.snd.snd.snd.snd.snd.snd.snd.snd.snd.snd.snd.fst.set t19.snd.snd.snd.fst.toNat (((t19.snd.snd.snd.snd.snd.snd.snd.snd.snd.snd.snd.snd.snd.snd.snd.snd.fst.getD t19.snd.snd.snd.fst.toNat zSweep).fst.fst, (t19.snd.snd.snd.snd.snd.snd.snd.snd.snd.snd.snd.snd.snd.snd.snd.snd.fst.getD t19.snd.snd.snd.fst.toNat zSweep).fst.snd), (t19.snd.snd.snd.snd.snd.snd.snd.snd.snd.snd.snd.snd.snd.snd.snd.snd.fst.getD t19.snd.snd.snd.fst.toNat zSweep).snd.fst, (0 : Int))).set t19.snd.snd.snd.fst.toNat ((((t19.snd.snd.snd.snd.snd.snd.snd.snd.snd.snd.snd.snd.snd.snd.snd.snd.fst.set t19.snd.snd.snd.fst.toNat (((t19.snd.snd.snd.snd.snd.snd.snd.snd.snd.snd.snd.snd.snd.snd.snd.snd.fst.getD t19.snd.snd.snd.fst.toNat zSweep).fst.fst, (t19.snd.snd.snd.snd.snd.snd.snd.snd.snd.snd.snd.snd.snd.snd.snd.snd.fst.getD t19.snd.snd.snd.fst.toNat zSweep).fst.snd), (t19.snd.snd.snd.snd.snd.snd.snd.snd.snd.snd.snd.snd.snd.snd.snd.snd.fst.getD t19.snd.snd.snd.fst.toNat zSweep).snd.fst, (0 : Int))).getD t19.snd.snd.snd.fst.toNat zSweep).fst.fst, ((t19.snd.snd.snd.snd.snd.snd.snd.snd.snd.snd.snd.snd.snd.snd.snd.snd.fst.set t19.snd.snd.snd.fst.toNat (((t19.snd.snd.snd.snd.snd.snd.snd.snd.snd.snd.snd.snd.snd.snd.snd.snd.fst.getD t19.snd.snd.snd.fst.toNat zSweep).fst.fst, (t19.snd.snd.snd.snd.snd.snd.snd.snd.snd.snd.snd.snd.snd.snd.snd.snd.fst.getD t19.snd.snd.snd.fst.toNat zSweep).fst.snd), (t19.snd.snd.snd.snd.snd.snd.snd.snd.snd.snd.snd.snd.snd.snd.snd.snd.fst.getD t19.snd.snd.snd.fst.toNat zSweep).snd.fst, (0 : Int))).getD t19.snd.snd.snd.fst.toNat zSweep).fst.snd), if (1099511627776 : Int) < v23 then (1099511627776 : Int) else v23, ((t19.snd.snd.snd.snd.snd.snd.snd.snd.snd.snd.snd.snd.snd.snd.snd.snd.fst.set t19.snd.snd.snd.fst.toNat (((t19.snd.snd.snd.snd.snd.snd.snd.snd.snd.snd.snd.snd.snd.snd.snd.snd.fst.getD t19.snd.snd.snd.fst.toNat zSweep).fst.fst, (t19.snd.snd.snd.snd.snd.snd.snd.snd.snd.snd.snd.snd.snd.snd.snd.snd.fst.getD t19.snd.snd.snd.fst.toNat zSweep).fst.snd), (t19.snd.snd.snd.snd.snd.snd.snd.snd.snd.snd.snd.snd.snd.snd.snd.snd.fst.getD t19.snd.snd.snd.fst.toNat zSweep).snd.fst, (0 : Int))).getD t19.snd.snd.snd.fst.toNat zSweep).snd.snd)).length : Int)) <|
       chk (t19.snd.snd.snd.fst.toNat < ((t19.snd.snd.snd.snd.snd.snd.snd.snd.snd.snd.snd.snd.snd.snd.snd.snd.fst.set t19.snd.snd.snd.fst.toNat (((t19.snd.snd.snd.snd.snd.snd.snd.snd.snd.snd.snd.snd.snd.snd.snd.snd.fst.getD t19.snd.snd.snd.fst.toNat zSweep).fst.fst, (t19.snd.snd.snd.snd.snd.snd.snd.snd.snd.snd.snd.snd.snd.snd.snd.snd.fst.getD t19.snd.snd.snd.fst.toNat zSweep).fst.snd), (t19.snd.snd.snd.snd.snd.snd.snd.snd.snd.snd.snd.snd.snd.snd.snd.snd.fst.getD t19.snd.snd.snd.fst.toNat zSweep).snd.fst, (0 : Int))).set t19.snd.snd.snd.fst.toNat ((((t19.snd.snd.snd.snd.snd.snd.snd.snd.snd.snd.snd.snd.snd.snd.snd.snd.fst.set t19.snd.snd.snd.fst.toNat (((t19.snd.snd.snd.snd.snd.snd.snd.snd.snd.snd.snd.snd.snd.snd.snd.snd.fst.getD t19.snd.snd.snd.fst.toNat zSweep).fst.fst, (t19.snd.snd.snd.snd.snd.snd.snd.snd.snd.snd.snd.snd.snd.snd.snd.snd.fst.getD t19.snd.snd.snd.fst.toNat zSweep).fst.snd), (t19.snd.snd.snd.snd.snd.snd.snd.snd.snd.snd.snd.snd.snd.snd.snd.snd.fst.getD t19.snd.snd.snd.fst.toNat zSweep).snd.fst, (0 : Int))).getD t19.snd.snd.snd.fst.toNat zSweep).fst.fst, ((t19.snd.snd.snd.snd.snd.snd.snd.snd.snd.snd.snd.snd.snd.snd.snd.snd.fst.set t19.snd.snd.snd.fst.toNat (((t19.snd.snd.snd.snd.snd.snd.snd.snd.snd.snd.snd.snd.snd.snd.snd.snd.fst.getD t19.snd.snd.snd.fst.toNat zSweep).fst.fst, (t19.snd.snd.snd.snd.snd.snd.snd.snd.snd.snd.snd.snd.snd.snd.snd.snd.fst.getD t19.snd.snd.snd.fst.toNat zSweep).fst.snd), (t19.snd.snd.snd.snd.snd.snd.snd.snd.snd.snd.snd.snd.snd.snd.snd.snd.fst.getD t19.snd.snd.snd.fst.toNat zSweep).snd.fst, (0 : Int))).getD t19.snd.snd.snd.fst.toNat zSweep).fst.snd), if (1099511627776 : Int) < v23 then (1099511627776 : Int) else v23, ((t19.snd.snd.snd.snd.snd.snd.snd.snd.snd.snd.snd.snd.snd.snd.snd.snd.fst.set t19.snd.snd.snd.fst.toNat (((t19.snd.snd.snd.snd.snd.snd.snd.snd.snd.snd.snd.snd.snd.snd.snd.snd.fst.getD t19.snd.snd.snd.fst.toNat zSweep).fst.fst, (t19.snd.snd.snd.snd.snd.snd.snd.snd.snd.snd.snd.snd.snd.snd.snd.snd.fst.getD t19.snd.snd.snd.fst.toNat zSweep).fst.snd), (t19.snd.snd.snd.snd.snd.snd.snd.snd.snd.snd.snd.snd.snd.snd.snd.snd.fst.getD t19.snd.snd.snd.fst.toNat zSweep).snd.fst, (0 : Int))).getD t19.snd.snd.snd.fst.toNat zSweep).snd.snd)).length) <|
       ltO (IntKind.i64.wrap (t19.snd.snd.snd.snd.snd.snd.fst + (1 : Int))) fun (v24 : Int) =>
       some (.inl (t19.fst, t19.snd.fst, t19.snd.snd.fst, t19.snd.snd.snd.snd.snd.fst, v24, t19.snd.snd.snd.snd.snd.snd.snd.snd.snd.snd.snd.snd.snd.snd.snd.snd.snd.snd.fst, t19.snd.snd.snd.snd.snd.snd.snd.fst, t19.snd.snd.snd.snd.snd.snd.snd.snd.fst, t19.snd.snd.snd.snd.snd.snd.snd.snd.snd.fst, t19.snd.snd.snd.snd.snd.snd.snd.snd.snd.snd.fst, t19.snd.snd.snd.snd.snd.snd.snd.snd.snd.snd.snd.fst, t19.snd.snd.snd.snd.snd.snd.snd.snd.snd.snd.snd.snd.fst, t19.snd.snd.snd.snd.snd.snd.snd.snd.snd.snd.snd.snd.snd.fst, t19.snd.snd.snd.snd.snd.snd.snd.snd.snd.snd.snd.snd.snd.snd.fst, t19.snd.snd.snd.snd.snd.snd.snd.snd.snd.snd.snd.snd.snd.snd.snd.fst, ((t19.snd.snd.snd.snd.snd.snd.snd.snd.snd.snd.snd.snd.snd.snd.snd.snd.fst.set t19.snd.snd.snd.fst.toNat (((t19.snd.snd.snd.snd.snd.snd.snd.snd.snd.snd.snd.snd.snd.snd.snd.snd.fst.getD t19.snd.snd.snd.fst.toNat zSweep).fst.fst, (t19.snd.snd.snd.snd.snd.snd.snd.snd.snd.snd.snd.snd.snd.snd.snd.snd.fst.getD t19.snd.snd.snd.fst.toNat zSweep).fst.snd), (t19.snd.snd.snd.snd.snd.snd.snd.snd.snd.snd.snd.snd.snd.snd.snd.snd.fst.getD t19.snd.snd.snd.fst.toNat zSweep).snd.fst, (0 : Int))).set t19.snd.snd.snd.fst.toNat ((((t19.snd.snd.snd.snd.snd.snd.snd.snd.snd.snd.snd.snd.snd.snd.snd.snd.fst.set t19.snd.snd.snd.fst.toNat (((t19.snd.snd.snd.snd.snd.snd.snd.snd.snd.snd.snd.snd.snd.snd.snd.snd.fst.getD t19.snd.snd.snd.fst.toNat zSweep).fst.fst, (t19.snd.snd.snd.snd.snd.snd.snd.snd.snd.snd.snd.snd.snd.snd.snd.snd.fst.getD t19.snd.snd.snd.fst.toNat zSweep).fst.snd), (t19.snd.snd.snd.snd.snd.snd.snd.snd.snd.snd.snd.snd.snd.snd.snd.snd.fst.getD t19.snd.snd.snd.fst.toNat zSweep).snd.fst, (0 : Int))).getD t19.snd.snd.snd.fst.toNat zSweep).fst.fst, ((t19.snd.snd.snd.snd.snd.snd.snd.snd.snd.snd.snd.snd.snd.snd.snd.snd.fst.set t19.snd.snd.snd.fst.toNat (((t19.snd.snd.snd.snd.snd.snd.snd.snd.snd.snd.snd.snd.snd.snd.snd.snd.fst.getD t19.snd.snd.snd.fst.toNat zSweep).fst.fst, (t19.snd.snd.snd.snd.snd.snd.snd.snd.snd.snd.snd.snd.snd.snd.snd.snd.fst.getD t19.snd.snd.snd.fst.toNat zSweep).fst.snd), (t19.snd.snd.snd.snd.snd.snd.snd.snd.snd.snd.snd.snd.snd.snd.snd.snd.fst.getD t19.snd.snd.snd.fst.toNat zSweep).snd.fst, (0 : Int))).getD t19.snd.snd.snd.fst.toNat zSweep).fst.snd), if (1099511627776 : Int) < v23 then (1099511627776 : Int) else v23, ((t19.snd.snd.snd.snd.snd.snd.snd.snd.snd.snd.snd.snd.snd.snd.snd.snd.fst.set t19.snd.snd.snd.fst.toNat (((t19.snd.snd.snd.snd.snd.snd.snd.snd.snd.snd.snd.snd.snd.snd.snd.snd.fst.getD t19.snd.snd.snd.fst.toNat zSweep).fst.fst, (t19.snd.snd.snd.snd.snd.snd.snd.snd.snd.snd.snd.snd.snd.snd.snd.snd.fst.getD t19.snd.snd.snd.fst.toNat zSweep).fst.snd), (t19.snd.snd.snd.snd.snd.snd.snd.snd.snd.snd.snd.snd.snd.snd.snd.snd.fst.getD t19.snd.snd.snd.fst.toNat zSweep).snd.fst, (0 : Int))).getD t19.snd.snd.snd.fst.toNat zSweep).snd.snd)).set t19.snd.snd.snd.fst.toNat (((((t19.snd.snd.snd.snd.snd.snd.snd.snd.snd.snd.snd.snd.snd.snd.snd.snd.fst.set t19.snd.snd.snd.fst.toNat (((t19.snd.snd.snd.snd.snd.snd.snd.snd.snd.snd.snd.snd.snd.snd.snd.snd.fst.getD t19.snd.snd.snd.fst.toNat zSweep).fst.fst, (t19.snd.snd.snd.snd.snd.snd.snd.snd.snd.snd.snd.snd.snd.snd.snd.snd.fst.getD t19.snd.snd.snd.fst.toNat zSweep).fst.snd), (t19.snd.snd.snd.snd.snd.snd.snd.snd.snd.snd.snd.snd.snd.snd.snd.snd.fst.getD t19.snd.snd.snd.fst.toNat zSweep).snd.fst, (0 : Int))).set t19.snd.snd.snd.fst.toNat ((((t19.snd.snd.snd.snd.snd.snd.snd.snd.snd.snd.snd.snd.snd.snd.snd.snd.fst.set t19.snd.snd.snd.fst.toNat (((t19.snd.snd.snd.snd.snd.snd.snd.snd.snd.snd.snd.snd.snd.snd.snd.snd.fst.getD t19.snd.snd.snd.fst.toNat zSweep).fst.fst, (t19.snd.snd.snd.snd.snd.snd.snd.snd.snd.snd.snd.snd.snd.snd.snd.snd.fst.getD t19.snd.snd.snd.fst.toNat zSweep).fst.snd), (t19.snd.snd.snd.snd.snd.snd.snd.snd.snd.snd.snd.snd.snd.snd.snd.snd.fst.getD t19.snd.snd.snd.fst.toNat zSweep).snd.fst, (0 : Int))).getD t19.snd.snd.snd.fst.toNat zSweep).fst.fst, ((t19.snd.snd.snd.snd.snd.snd.snd.snd.snd.snd.snd.snd.snd.snd.snd.snd.fst.set t19.snd.snd.snd.fst.toNat (((t19.snd.snd.snd.snd.snd.snd.snd.snd.snd.snd.snd.snd.snd.snd.snd.snd.fst.getD t19.snd.snd.snd.fst.toNat zSweep).fst.fst, (t19.snd.snd.snd.snd.snd.snd.snd.snd.snd.snd.snd.snd.snd.snd.snd.snd.fst.getD t19.snd.snd.snd.fst.toNat zSweep).fst.snd), (t19.snd.snd.snd.snd.snd.snd.snd.snd.snd.snd.snd.snd.snd.snd.snd.snd.fst.getD t19.snd.snd.snd.fst.toNat zSweep).snd.fst, (0 : Int))).getD t19.snd.snd.snd.fst.toNat zSweep).fst.snd), if (1099511627776 : Int) < v23 then (1099511627776 : Int) else v23, ((t19.snd.snd.snd.snd.snd.snd.snd.snd.snd.snd.snd.snd.snd.snd.snd.snd.fst.set t19.snd.snd.snd.fst.toNat (((t19.snd.snd.snd.snd.snd.snd.snd.snd.snd.snd.snd.snd.snd.snd.snd.snd.fst.getD t19.snd.snd.snd.fst.toNat zSweep).fst.fst, (t19.snd.snd.snd.snd.snd.snd.snd.snd.snd.snd.snd.snd.snd.snd.snd.snd.fst.getD t19.snd.snd.snd.fst.toNat zSweep).fst.snd), (t19.snd.snd.snd.snd.snd.snd.snd.snd.snd.snd.snd.snd.snd.snd.snd.snd.fst.getD t19.snd.snd.snd.fst.toNat zSweep).snd.fst, (0 : Int))).getD t19.snd.snd.snd.fst.toNat zSweep).snd.snd)).getD t19.snd.snd.snd.fst.toNat zSweep).fst.fst, (((t19.snd.snd.snd.snd.snd.snd.snd.snd.snd.snd.snd.snd.snd.snd.snd.snd.fst.set t19.snd.snd.snd.fst.toNat (((t19.snd.snd.snd.snd.snd.snd.snd.snd.snd.snd.snd.snd.snd.snd.snd.snd.fst.getD t19.snd.snd.snd.fst.toNat zSweep).fst.fst, (t19.snd.snd.snd.snd.snd.snd.snd.snd.snd.snd.snd.snd.snd.snd.snd.snd.fst.getD t19.snd.snd.snd.fst.toNat zSweep).fst.snd), (t19.snd.snd.snd.snd.snd.snd.snd.snd.snd.snd.snd.snd.snd.snd.snd.snd.fst.getD t19.snd.snd.snd.fst.toNat zSweep).snd.fst, (0 : Int))).set t19.snd.snd.snd.fst.toNat ((((t19.snd.snd.snd.snd.snd.snd.snd.snd.snd.snd.snd.snd.snd.snd.snd.snd.fst.set t19.snd.snd.snd.fst.toNat (((t19.snd.snd.snd.snd.snd.snd.snd.snd.snd.snd.snd.snd.snd.snd.snd.snd.fst.getD t19.snd.snd.snd.fst.toNat zSweep).fst.fst, (t19.snd.snd.snd.snd.snd.snd.snd.snd.snd.snd.snd.snd.snd.snd.snd.snd.fst.getD t19.snd.snd.snd.fst.toNat zSweep).fst.snd), (t19.snd.snd.snd.snd.snd.snd.snd.snd.snd.snd.snd.snd.snd.snd.snd.snd.fst.getD t19.snd.snd.snd.fst.toNat zSweep).snd.fst, (0 : Int))).getD t19.snd.snd.snd.fst.toNat zSweep).fst.fst, ((t19.snd.snd.snd.snd.snd.snd.snd.snd.snd.snd.snd.snd.snd.snd.snd.snd.fst.set t19.snd.snd.snd.fst.toNat (((t19.snd.snd.snd.snd.snd.snd.snd.snd.snd.snd.snd.snd.snd.snd.snd.snd.fst.getD t19.snd.snd.snd.fst.toNat zSweep).fst.fst, (t19.snd.snd.snd.snd.snd.snd.snd.snd.snd.snd.snd.snd.snd.snd.snd.snd.fst.getD t19.snd.snd.snd.fst.toNat zSweep).fst.snd), (t19.snd.snd.snd.snd.snd.snd.snd.snd.snd.snd.snd.snd.snd.snd.snd.snd.fst.getD t19.snd.snd.snd.fst.toNat zSweep).snd.fst, (0 : Int))).getD t19.snd.snd.snd.fst.toNat zSweep).fst.snd), if (1099511627776 : Int) < v23 then (1099511627776 : Int) else v23, ((t19.snd.snd.snd.snd.snd.snd.snd.snd.snd.snd.snd.snd.snd.snd.snd.snd.fst.set t19.snd.snd.snd.fst.toNat (((t19.snd.snd.snd.snd.snd.snd.snd.snd.snd.snd.snd.snd.snd.snd.snd.snd.fst.getD t19.snd.snd.snd.fst.toNat zSweep).fst.fst, (t19.snd.snd.snd.snd.snd.snd.snd.snd.snd.snd.snd.snd.snd.snd.snd.snd.fst.getD t19.snd.snd.snd.fst.toNat zSweep).fst.snd), (t19.snd.snd.snd.snd.snd.snd.snd.snd.snd.snd.snd.snd.snd.snd.snd.snd.fst.getD t19.snd.snd.snd.fst.toNat zSweep).snd.fst, (0 : Int))).getD t19.snd.snd.snd.fst.toNat zSweep).snd.snd)).getD t19.snd.snd.snd.fst.toNat zSweep).fst.snd), if (((t19.snd.snd.snd.snd.snd.snd.snd.snd.snd.snd.snd.snd.snd.snd.snd.snd.fst.set t19.snd.snd.snd.fst.toNat (((t19.snd.snd.snd.snd.snd.snd.snd.snd.snd.snd.snd.snd.snd.snd.snd.snd.fst.getD t19.snd.snd.snd.fst.toNat zSweep).fst.fst, (t19.snd.snd.snd.snd.snd.snd.snd.snd.snd.snd.snd.snd.snd.snd.snd.snd.fst.getD t19.snd.snd.snd.fst.toNat zSweep).fst.snd), (t19.snd.snd.snd.snd.snd.snd.snd.snd.snd.snd.snd.snd.snd.snd.snd.snd.fst.getD t19.snd.snd.snd.fst.toNat zSweep).snd.fst, (0 : Int))).set t19.snd.snd.snd.fst.toNat ((((t19.snd.snd.snd.snd.snd.snd.snd.snd.snd.snd.snd.snd.snd.snd.snd.snd.fst.set t19.snd.snd.snd.fst.toNat (((t19.snd.snd.snd.snd.snd.snd.snd.snd.snd.snd.snd.snd.snd.snd.snd.snd.fst.getD t19.snd.snd.snd.fst.toNat zSweep).fst.fst, (t19.snd.snd.snd.snd.snd.snd.snd.snd.snd.snd.snd.snd.snd.snd.snd.snd.fst.getD t19.snd.snd.snd.fst.toNat zSweep).fst.snd), (t19.snd.snd.snd.snd.snd.snd.snd.snd.snd.snd.snd.snd.snd.snd.snd.snd.fst.getD t19.snd.snd.snd.fst.toNat zSweep).snd.fst, (0 : Int))).getD t19.snd.snd.snd.fst.toNat zSweep).fst.fst, ((t19.snd.snd.snd.snd.snd.snd.snd.snd.snd.snd.snd.snd.snd.snd.snd.snd.fst.set t19.snd.snd.snd.fst.toNat (((t19.snd.snd.snd.snd.snd.snd.snd.snd.snd.snd.snd.snd.snd.snd.snd.snd.fst.getD t19.snd.snd.snd.fst.toNat zSweep).fst.fst, (t19.snd.snd.snd.snd.snd.snd.snd.snd.snd.snd.snd.snd.snd.snd.snd.snd.fst.getD t19.snd.snd.snd.fst.toNat zSweep).fst.snd), (t19.snd.snd.snd.snd.snd.snd.snd.snd.snd.snd.snd.snd.snd.snd.snd.snd.fst.getD t19.snd.snd.snd.fst.toNat zSweep).snd.fst, (0 : Int))).getD t19.snd.snd.snd.fst.toNat zSweep).fst.snd), if (1099511627776 : Int) < v23 then (1099511627776 : Int) else v23, ((t19.snd.snd.snd.snd.snd.snd.snd.snd.snd.snd.snd.snd.snd.snd.snd.snd.fst.set t19.snd.snd.snd.fst.toNat (((t19.snd.snd.snd.snd.snd.snd.snd.snd.snd.snd.snd.snd.snd.snd.snd.snd.fst.getD t19.snd.snd.snd.fst.toNat zSweep).fst.fst, (t19.snd.snd.snd.snd.snd.snd.snd.snd.snd.snd.snd.snd.snd.snd.snd.snd.fst.getD t19.snd.snd.snd.fst.toNat zSweep).fst.snd), (t19.snd.snd.snd.snd.snd.snd.snd.snd.snd.snd.snd.snd.snd.snd.snd.snd.fst.getD t19.snd.snd.snd.fst.toNat zSweep).snd.fst, (0 : Int))).getD t19.snd.snd.snd.fst.toNat zSweep).snd.snd)).getD t19.snd.snd.snd.fst.toNat zSweep).snd.fst > (0 : Int) then (((t19.snd.snd.snd.snd.snd.snd.snd.snd.snd.snd.snd.snd.snd.snd.snd.snd.fst.set t19.snd.snd.snd.fst.toNat (((t19.snd.snd.snd.snd.snd.snd.snd.snd.snd.snd.snd.snd.snd.snd.snd.snd.fst.getD t19.snd.snd.snd.fst.toNat zSweep).fst.fst, (t19.snd.snd.snd.snd.snd.snd.snd.snd.snd.snd.snd.snd.snd.snd.snd.snd.fst.getD t19.snd.snd.snd.fst.toNat zSweep).fst.snd), (t19.snd.snd.snd.snd.snd.snd.snd.snd.snd.snd.snd.snd.snd.snd.snd.snd.fst.getD t19.snd.snd.snd.fst.toNat zSweep).snd.fst, (0 : Int))).set t19.snd.snd.snd.fst.toNat ((((t19.snd.snd.snd.snd.snd.snd.snd.snd.snd.snd.snd.snd.snd.snd.snd.snd.fst.set t19.snd.snd.snd.fst.toNat (((t19.snd.snd.snd.snd.snd.snd.snd.snd.snd.snd.snd.snd.snd.snd.snd.snd.fst.getD t19.snd.snd.snd.fst.toNat zSweep).fst.fst, (t19.snd.snd.snd.snd.snd.snd.snd.snd.snd.snd.snd.snd.snd.snd.snd.snd.fst.getD t19.snd.snd.snd.fst.toNat zSweep).fst.snd), (t19.snd.snd.snd.snd.snd.snd.snd.snd.snd.snd.snd.snd.snd.snd.snd.snd.fst.getD t19.snd.snd.snd.fst.toNat zSweep).snd.fst, (0 : Int))).getD t19.snd.snd.snd.fst.toNat zSweep).fst.fst, ((t19.snd.snd.snd.snd.snd.snd.snd.snd.snd.snd.snd.snd.snd.snd.snd.snd.fst.set t19.snd.snd.snd.fst.toNat (((t19.snd.snd.snd.snd.snd.snd.snd.snd.snd.snd.snd.snd.snd.snd.snd.snd.fst.getD t19.snd.snd.snd.fst.toNat zSweep).fst.fst, (t19.snd.snd.snd.snd.snd.snd.snd.snd.snd.snd.snd.snd.snd.snd.snd.snd.fst.getD t19.snd.snd.snd.fst.toNat zSweep).fst.snd), (t19.snd.snd.snd.snd.snd.snd.snd.snd.snd.snd.snd.snd.snd.snd.snd.snd.fst.getD t19.snd.snd.snd.fst.toNat zSweep).snd.fst, (0 : Int))).getD t19.snd.snd.snd.fst.toNat zSweep).fst.snd), if (1099511627776 : Int) < v23 then (1099511627776 : Int) else v23, ((t19.snd.snd.snd.snd.snd.snd.snd.snd.snd.snd.snd.snd.snd.snd.snd.snd.fst.set t19.snd.snd.snd.fst.toNat (((t19.snd.snd.snd.snd.snd.snd.snd.snd.snd.snd.snd.snd.snd.snd.snd.snd.fst.getD t19.snd.snd.snd.fst.toNat zSweep).fst.fst, (t19.snd.snd.snd.snd.snd.snd.snd.snd.snd.snd.snd.snd.snd.snd.snd.snd.fst.getD t19.snd.snd.snd.fst.toNat zSweep).fst.snd), (t19.snd.snd.snd.snd.snd.snd.snd.snd.snd.snd.snd.snd.snd.snd.snd.snd.fst.getD t19.snd.snd.snd.fst.toNat zSweep).snd.fst, (0 : Int))).getD t19.snd.snd.snd.fst.toNat zSweep).snd.snd)).getD t19.snd.snd.snd.fst.toNat zSweep).snd.fst else (0 : Int), (((t19.snd.snd.snd.snd.snd.snd.snd.snd.snd.snd.snd.snd.snd.snd.snd.snd.fst.set t19.snd.snd.snd.fst.toNat (((t19.snd.snd.snd.snd.snd.snd.snd.snd.snd.snd.snd.snd.snd.snd.snd.snd.fst.getD t19.snd.snd.snd.fst.toNat zSweep).fst.fst, (t19.snd.snd.snd.snd.snd.snd.snd.snd.snd.snd.snd.snd.snd.snd.snd.snd.fst.getD t19.snd.snd.snd.fst.toNat zSweep).fst.snd), (t19.snd.snd.snd.snd.snd.snd.snd.snd.snd.snd.snd.snd.snd.snd.snd.snd.fst.getD t19.snd.snd.snd.fst.toNat zSweep).snd.fst, (0 : Int))).set t19.snd.snd.snd.fst.toNat ((((t19.snd.snd.snd.snd.snd.snd.snd.snd.snd.snd.snd.snd.snd.snd.snd.snd.fst.set t19.snd.snd.snd.fst.toNat (((t19.snd.snd.snd.snd.snd.snd.snd.snd.snd.snd.snd.snd.snd.snd.snd.snd.fst.getD t19.snd.snd.snd.fst.toNat zSweep).fst.fst, (t19.snd.snd.snd.snd.snd.snd.snd.snd.snd.snd.snd.snd.snd.snd.snd.snd.fst.getD t19.snd.snd.snd.fst.toNat zSweep).fst.snd), (t19.snd.snd.snd.snd.snd.snd.snd.snd.snd.snd.snd.snd.snd.snd.snd.snd.fst.getD t19.snd.snd.snd.fst.toNat zSweep).snd.fst, (0 : Int))).getD t19.snd.snd.snd.fst.toNat zSweep).fst.fst, ((t19.snd.snd.snd.snd.snd.snd.snd.snd.snd.snd.snd.snd.snd.snd.snd.snd.fst.set t19.snd.snd.snd.fst.toNat (((t19.snd.snd.snd.snd.snd.snd.snd.snd.snd.snd.snd.snd.snd.snd.snd.snd.fst.getD t19.snd.snd.snd.fst.toNat zSweep).fst.fst, (t19.snd.snd.snd.snd.snd.snd.snd.snd.snd.snd.snd.snd.snd.snd.snd.snd.fst.getD t19.snd.snd.snd.fst.toNat zSweep).fst.snd), (t19.snd.snd.snd.snd.snd.snd.snd.snd.snd.snd.snd.snd.snd.snd.snd.snd.fst.getD t19.snd.snd.snd.fst.toNat zSweep).snd.fst, (0 : Int))).getD t19.snd.snd.snd.fst.toNat zSweep).fst.snd), if (1099511627776 : Int) < v23 then (1099511627776 : Int) else v23, ((t19.snd.snd.snd.snd.snd.snd.snd.snd.snd.snd.snd.snd.snd.snd.snd.snd.fst.set t19.snd.snd.snd.fst.toNat (((t19.snd.snd.snd.snd.snd.snd.snd.snd.snd.snd.snd.snd.snd.snd.snd.snd.fst.getD t19.snd.snd.snd.fst.toNat zSweep).fst.fst, (t19.snd.snd.snd.snd.snd.snd.snd.snd.snd.snd.snd.snd.snd.snd.snd.snd.fst.getD t19.snd.snd.snd.fst.toNat zSweep).fst.snd), (t19.snd.snd.snd.snd.snd.snd.snd.snd.snd.snd.snd.snd.snd.snd.snd.snd.fst.getD t19.snd.snd.snd.fst.toNat zSweep).snd.fst, (0 : Int))).getD t19.snd.snd.snd.fst.toNat zSweep).snd.snd)).getD t19.snd.snd.snd.fst.toNat zSweep).snd.snd), t19.snd.snd.snd.snd.snd.snd.snd.snd.snd.snd.snd.snd.snd.snd.snd.snd.snd.fst, ()))) (
       ltO (IntKind.i64.wrap (t19.snd.snd.snd.snd.snd.snd.fst + (1 : Int))) fun (v25 : Int) =>
       some (.inl (t19.fst, t19.snd.fst, t19.snd.snd.fst, t19.snd.snd.snd.snd.snd.fst, v25, t19.snd.snd.snd.snd.snd.snd.snd.snd.snd.snd.snd.snd.snd.snd.snd.snd.snd.snd.fst, t19.snd.snd.snd.snd.snd.snd.snd.fst, t19.snd.snd.snd.snd.snd.snd.snd.snd.fst, t19.snd.snd.snd.snd.snd.snd.snd.snd.snd.fst, t19.snd.snd.snd.snd.snd.snd.snd.snd.snd.snd.fst, t19.snd.snd.snd.snd.snd.snd.snd.snd.snd.snd.snd.fst, t19.snd.snd.snd.snd.snd.snd.snd.snd.snd.snd.snd.snd.fst, t19.snd.snd.snd.snd.snd.snd.snd.snd.snd.snd.snd.snd.snd.fst, t19.snd.snd.snd.snd.snd.snd.snd.snd.snd.snd.snd.snd.snd.snd.fst, t19.snd.snd.snd.snd.snd.snd.snd.snd.snd.snd.snd.snd.snd.snd.snd.fst, t19.snd.snd.snd.snd.snd.snd.snd.snd.snd.snd.snd.snd.snd.snd.snd.snd.fst, t19.snd.snd.snd.snd.snd.snd.snd.snd.snd.snd.snd.snd.snd.snd.snd.snd.snd.fst, ())))) (fun r20 =>
      some (.inr (.inr (r20)))))) (fun r9 =>
    some (.inr (.inr (r9))))) (
   some (.inr (.inl (out, asks, ()))))

noncomputable def terrierlaw14_plan_l0 (s : (List TSweep) × Int × Int × Int × Int × (List Int) × Int × Int × Int × Int × Int × Int × Int × Int × Int × (List TSweep) × (List Bool) × Unit) : Option (((List TSweep) × (List Int) × Unit) ⊕ ((List Int) × (List TSweep) × Unit)) := loopM (fun s : (List TSweep) × Int × Int × Int × Int × (List Int) × Int × Int × Int × Int × Int × Int × Int × Int × Int × (List TSweep) × (List Bool) × Unit => terrierlaw14_plan_b0 s.1 s.2.1 s.2.2.1 s.2.2.2.1 s.2.2.2.2.1 s.2.2.2.2.2.1 s.2.2.2.2.2.2.1 s.2.2.2.2.2.2.2.1 s.2.2.2.2.2.2.2.2.1 s.2.2.2.2.2.2.2.2.2.1 s.2.2.2.2.2.2.2.2.2.2.1 s.2.2.2.2.2.2.2.2.2.2.2.1 s.2.2.2.2.2.2.2.2.2.2.2.2.1 s.2.2.2.2.2.2.2.2.2.2.2.2.2.1 s.2.2.2.2.2.2.2.2.2.2.2.2.2.2.1 s.2.2.2.2.2.2.2.2.2.2.2.2.2.2.2.1 s.2.2.2.2.2.2.2.2.2.2.2.2.2.2.2.2.1) s

noncomputable def terrierlaw14_plan (c : Int × Int × Int × Int × Int × Int × Int × Int × Int) (ss : List TSweep) (now : Int) (room : Int) : Option ((List Int) × (List TSweep) × Unit) :=
  chk (Tr.room (32 : Nat) ss.length) <|
  chk ((0 : Int) ≤ (↑ss.length : Int) ∧ (↑ss.length : Int) ≤ (↑ss.length : Int) ∧ (↑ss.length : Int) < (9223372036854775808 : Int) ∧ Tr.room (1 : Nat) (↑ss.length : Int).toNat) <|
  bnd (terrierlaw14_plan_l0 (ss, now, room, (↑ss.length : Int), (0 : Int), [], c.fst, c.snd.fst, c.snd.snd.fst, c.snd.snd.snd.fst, c.snd.snd.snd.snd.fst, c.snd.snd.snd.snd.snd.fst, c.snd.snd.snd.snd.snd.snd.fst, c.snd.snd.snd.snd.snd.snd.snd.fst, c.snd.snd.snd.snd.snd.snd.snd.snd, ss, List.replicate (↑ss.length : Int).toNat false, ())) fun y26 =>
  sumO y26 (fun t27 =>
   some (t27.snd.fst, t27.fst, ())) (fun r28 =>
   some (r28))

noncomputable def terrierlaw14_same_b0 (a' : List TSweep) (b : List TSweep) (t12 : Int) (t13 : Int) : Option (((List TSweep) × (List TSweep) × Int × Int × Unit) ⊕ (Unit ⊕ (Bool × Unit))) :=
  cnd (decide (t13 < t12)) (
   chk ((0 : Int) ≤ t13 ∧ t13 < (↑a'.length : Int)) <|
   ltO ((Option.rec zSweep (fun val => val) a'[t13.toNat]?)) fun (v1 : (Int × Int) × Int × Int) =>
   chk ((0 : Int) ≤ t13 ∧ t13 < (↑b.length : Int)) <|
   ltO ((Option.rec zSweep (fun val => val) b[t13.toNat]?)) fun (v2 : (Int × Int) × Int × Int) =>
   ltO (!(v1 == v2)) fun (v3 : Bool) =>
   cnd (v3) (
    some (.inr (.inr (false, ())))) (
    ltO (IntKind.i64.wrap (t13 + (1 : Int))) fun (v4 : Int) =>
    some (.inl (a', b, t12, v4, ())))) (
   some (.inr (.inl ())))

noncomputable def terrierlaw14_same_l0 (s : (List TSweep) × (List TSweep) × Int × Int × Unit) : Option (Unit ⊕ (Bool × Unit)) := loopM (fun s : (List TSweep) × (List TSweep) × Int × Int × Unit => terrierlaw14_same_b0 s.1 s.2.1 s.2.2.1 s.2.2.2.1) s

noncomputable def terrierlaw14_same (a' : List TSweep) (b : List TSweep) : Option (Bool × Unit) :=
  ltO ((↑a'.length : Int) != (↑b.length : Int)) fun (v0 : Bool) =>
  cnd (v0) (
   some (false, ())) (
   bnd (terrierlaw14_same_l0 (a', b, (↑a'.length : Int), (0 : Int), ())) fun y5 =>
   sumO y5 (fun t6 =>
    some (true, ())) (fun r7 =>
    some (r7)))

noncomputable def terrierlaw14_SweepPlan_b0 (as : List Int) (want : List Int) (t76 : Int) (t77 : Int) : Option (((List Int) × (List Int) × Int × Int × Unit) ⊕ (Unit ⊕ (Bool × Unit))) :=
  cnd (decide (t77 < t76)) (
   chk ((0 : Int) ≤ t77 ∧ t77 < (↑«as».length : Int)) <|
   ltO («as».getD t77.toNat (0 : Int)) fun (v18 : Int) =>
   chk ((0 : Int) ≤ t77 ∧ t77 < (↑want.length : Int)) <|
   ltO (want.getD t77.toNat (0 : Int)) fun (v19 : Int) =>
   ltO (v18 != v19) fun (v20 : Bool) =>
   cnd (v20) (
    some (.inr (.inr (false, ())))) (
    ltO (IntKind.i64.wrap (t77 + (1 : Int))) fun (v21 : Int) =>
    some (.inl («as», want, t76, v21, ())))) (
   some (.inr (.inl ())))

noncomputable def terrierlaw14_SweepPlan_l0 (s : (List Int) × (List Int) × Int × Int × Unit) : Option (Unit ⊕ (Bool × Unit)) := loopM (fun s : (List Int) × (List Int) × Int × Int × Unit => terrierlaw14_SweepPlan_b0 s.1 s.2.1 s.2.2.1 s.2.2.2.1) s

noncomputable def terrierlaw14_SweepPlan (x : Int × Int × Int × Int × Int × Int × Int × Int × Int) (acts : List (Int × Int × Int)) (later : Int) (room : Int) : Option (Bool × Unit) :=
  bnd (terrierlaw14_awake) fun y0 =>
  cnd (!y0.fst) (
   some (false, ())) (
   bnd (terrierlaw10_Choice_Config (x)) fun y1 =>
   bnd (terrierlaw14_Some (y1.fst) (acts)) fun y2 =>
   ltO (IntKind.i64.wrap later) fun (v3 : Int) =>
   ltO (IntKind.i64.wrap (y2.fst + v3)) fun (v4 : Int) =>
   ltO (IntKind.i64.wrap room) fun (v5 : Int) =>
   bnd (sweep_Plan (y1.fst) (y2.snd.fst) (v4) (v5)) fun y6 =>
   ltO (IntKind.i64.wrap later) fun (v7 : Int) =>
   ltO (IntKind.i64.wrap (y2.fst + v7)) fun (v8 : Int) =>
   ltO (IntKind.i64.wrap room) fun (v9 : Int) =>
   bnd (terrierlaw14_plan (y1.fst) (y2.snd.fst) (v8) (v9)) fun y10 =>
   bnd (terrierlaw14_same (y6.snd.fst) (y10.snd.fst)) fun y11 =>
   chk ((!!y11.fst) = true → (!!y11.fst) = true) <|
   chk ((!!y11.fst) = true → (!!y11.fst) = true) <|
   chk ((!!y11.fst) = true → (!!y11.fst) = true) <|
   chk ((!!y11.fst) = true → (!!y11.fst) = true) <|
   ltO ((↑y6.fst.length : Int) != (↑y10.fst.length : Int)) fun (v12 : Bool) =>
   chk ((!y11.fst) = false → (!!y11.fst) = true) <|
   ltO (!y11.fst || v12) fun (v13 : Bool) =>
   chk ((!v13) = true → (!v13) = true) <|
   chk ((!v13) = true → (!v13) = true) <|
   ltO (IntKind.i64.wrap room) fun (v14 : Int) =>
   chk ((!v13) = true → (!v13) = true) <|
   chk ((!v13) = true → (!v13) = true) <|
   chk ((!v13) = true → (!v13) = true) <|
   chk (v13 = false → (!v13) = true) <|
   ltO (v13 || decide ((↑y6.fst.length : Int) > if v14 > (0 : Int) then v14 else (0 : Int))) fun (v15 : Bool) =>
   chk ((!v15) = true → (!v15) = true) <|
   bndG (!v15) (sweep_Right (y6.snd.fst)) (false, ()) fun y16 =>
   chk ((!v15) = true → (!v15) = true) <|
   chk (v15 = false → (!v15) = true) <|
   ltO (v15 || !y16.fst) fun (v17 : Bool) =>
   cnd (v17) (
    some (false, ())) (
    bnd (terrierlaw14_SweepPlan_l0 (y6.fst, y10.fst, (↑y6.fst.length : Int), (0 : Int), ())) fun y22 =>
    sumO y22 (fun t23 =>
     some (true, ())) (fun r24 =>
     some (r24))))

noncomputable def terrierlaw14_SweepRight (raw : List TSweep) (x : Int × Int × Int × Int × Int × Int × Int × Int × Int) (acts : List (Int × Int × Int)) (at' : Int) (turn : (Int × Int) × Int × Int) : Option (Bool × Unit) :=
  bnd (terrierlaw14_awake) fun y0 =>
  cnd (!y0.fst) (
   some (false, ())) (
   bnd (terrierlaw10_Choice_Config (x)) fun y1 =>
   bnd (terrierlaw14_Some (y1.fst) (acts)) fun y2 =>
   bnd (sweep_Right (y2.snd.fst)) fun y3 =>
   cnd (!y3.fst) (
    some (false, ())) (
    chk (room (32 : Nat) y2.snd.fst.length) <|
    cnd (decide ((↑y2.snd.fst.length : Int) > (0 : Int))) (
     ltO (IntKind.i64.wrap at') fun (v4 : Int) =>
     chk (¬(↑y2.snd.fst.length : Int) = (0 : Int)) <|
     ltO (v4.tmod (↑y2.snd.fst.length : Int)) fun (v5 : Int) =>
     chk ((0 : Int) ≤ v5 ∧ v5 < (↑y2.snd.fst.length : Int)) <|
     chk (v5.toNat < y2.snd.fst.length) <|
     bnd (sweep_Right (y2.snd.fst.set v5.toNat (turn))) fun y6 =>
     bnd (terrierlaw14_right (y2.snd.fst.set v5.toNat (turn))) fun y7 =>
     ltO (y6.fst == y7.fst) fun (v8 : Bool) =>
     chk (v8 = true → v8 = true) <|
     bndG (v8) (sweep_Right (raw)) (false, ()) fun y9 =>
     chk (v8 = true → v8 = true) <|
     bndG (v8) (terrierlaw14_right (raw)) (false, ()) fun y10 =>
     chk (v8 = true → v8 = true) <|
     chk (v8 = true → v8 = true) <|
     ltO (y9.fst == y10.fst) fun (v11 : Bool) =>
     chk (v8 = true → v8 = true) <|
     ltO (v8 && v11) fun (v12 : Bool) =>
     some (v12, ())) (
     bnd (sweep_Right (y2.snd.fst)) fun y13 =>
     bnd (terrierlaw14_right (y2.snd.fst)) fun y14 =>
     ltO (y13.fst == y14.fst) fun (v15 : Bool) =>
     chk (v15 = true → v15 = true) <|
     bndG (v15) (sweep_Right (raw)) (false, ()) fun y16 =>
     chk (v15 = true → v15 = true) <|
     bndG (v15) (terrierlaw14_right (raw)) (false, ()) fun y17 =>
     chk (v15 = true → v15 = true) <|
     chk (v15 = true → v15 = true) <|
     ltO (y16.fst == y17.fst) fun (v18 : Bool) =>
     chk (v15 = true → v15 = true) <|
     ltO (v15 && v18) fun (v19 : Bool) =>
     some (v19, ()))))

noncomputable def sweep_Take_1 (s' : (Int × Int) × Int × Int) (t1 : Int × Int) : Option (Bool × Unit) :=
  ltO (s'.fst.fst == t1.fst && s'.fst.snd == t1.snd) fun (v0 : Bool) =>
  some (v0, ())

noncomputable def slices_IndexFunc_v1_w1_b0 (s' : List TSweep) (fc_0 : Int × Int) (t7 : Int) (t8 : Int) : Option (((List TSweep) × (Int × Int) × Int × Int × Unit) ⊕ (Unit ⊕ (Int × Unit))) :=
  cnd (decide (t8 < t7)) (
   chk ((0 : Int) ≤ t8 ∧ t8 < (↑s'.length : Int)) <|
   ltO ((Option.rec zSweep (fun val => val) s'[t8.toNat]?)) fun (v0 : (Int × Int) × Int × Int) =>
   bnd (sweep_Take_1 (v0) (fc_0)) fun y1 =>
   cnd (y1.fst) (
    some (.inr (.inr (t8, ())))) (
    ltO (IntKind.i64.wrap (t8 + (1 : Int))) fun (v2 : Int) =>
    some (.inl (s', fc_0, t7, v2, ())))) (
   some (.inr (.inl ())))

noncomputable def slices_IndexFunc_v1_w1_l0 (s : (List TSweep) × (Int × Int) × Int × Int × Unit) : Option (Unit ⊕ (Int × Unit)) := loopM (fun s : (List TSweep) × (Int × Int) × Int × Int × Unit => slices_IndexFunc_v1_w1_b0 s.1 s.2.1 s.2.2.1 s.2.2.2.1) s

noncomputable def slices_IndexFunc_v1_w1 (s' : List TSweep) (fc_0 : Int × Int) : Option (Int × Unit) :=
  bnd (slices_IndexFunc_v1_w1_l0 (s', fc_0, (↑s'.length : Int), (0 : Int), ())) fun y3 =>
  sumO y3 (fun t4 =>
   some ((-1 : Int), ())) (fun r5 =>
   some (r5))

end Go.Tr
