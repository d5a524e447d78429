/- The Go functions come to these Lean functions: printed by a program of this session's. Conditions: none. -/
import Derived.Test.YtdbpknejbpiebaaBE
import Derived.Test.YtdbpknejbpiebaaSwoD
import Derived.Test.YtdbpknejbpiebaaSwoX
import Derived.Test.YtdbpknejbpiebaaSwoG
import Derived.KernelRfl
import Derived.Test.YtdbpknejbpiebaaProg
namespace Go.Tr
open Go
set_option linter.unusedVariables false
set_option maxRecDepth 100000
theorem mix : Go.Proofs.Try.prog.follows .mixedOrders = true := by rfl
def D_addr_mask : FD := ⟨[(0, .leaf (.int .i64))], [], [(0, .leaf (.int .u32))], []⟩
def L_addr_mask : List (Nat × StD × Nat × StD) := []
noncomputable def T_addr_mask : List EntX := []
theorem ok_addr_mask : FnX Go.Proofs.Try.prog 32 D_addr_mask (fun x => addr_mask x.1) :=
  FnX.of (coL_ok (es := T_addr_mask) (OKs.mem trivial)) mix (mkLs_ok (l := L_addr_mask) (by kernel_rfl)) (by kernel_rfl) Go.Proofs.Try.func32 rfl (by decide) (by decide) (fun x => by kernel_rfl)
noncomputable def E_addr_mask : Ent := ⟨32, D_addr_mask, fun x => addr_mask x.1, ((0 : Int), ()), false⟩
theorem E_addr_mask_ok : E_addr_mask.OK Go.Proofs.Try.prog := ⟨ok_addr_mask, by kernel_rfl⟩
def D_addr_Right : FD := ⟨[(0, .grp sBk)], [], [(0, .leaf .bool)], []⟩
def L_addr_Right : List (Nat × StD × Nat × StD) := []
noncomputable def T_addr_Right : List EntX := [.one E_addr_mask]
theorem ok_addr_Right : FnX Go.Proofs.Try.prog 14 D_addr_Right (fun x => addr_Right x.1) :=
  FnX.of (coL_ok (es := T_addr_Right) (OKs.mem ⟨E_addr_mask_ok, trivial⟩)) mix (mkLs_ok (l := L_addr_Right) (by kernel_rfl)) (by kernel_rfl) Go.Proofs.Try.func14 rfl (by decide) (by decide) (fun x => by kernel_rfl)
noncomputable def E_addr_Right : Ent := ⟨14, D_addr_Right, fun x => addr_Right x.1, (false, ()), false⟩
theorem E_addr_Right_ok : E_addr_Right.OK Go.Proofs.Try.prog := ⟨ok_addr_Right, by kernel_rfl⟩
def D_addr_Size : FD := ⟨[(0, .grp sBk)], [], [(0, .leaf (.int .i64))], []⟩
def L_addr_Size : List (Nat × StD × Nat × StD) := []
noncomputable def T_addr_Size : List EntX := [.one E_addr_Right]
theorem ok_addr_Size : FnX Go.Proofs.Try.prog 17 D_addr_Size (fun x => addr_Size x.1) :=
  FnX.of (coL_ok (es := T_addr_Size) (OKs.mem ⟨E_addr_Right_ok, trivial⟩)) mix (mkLs_ok (l := L_addr_Size) (by kernel_rfl)) (by kernel_rfl) Go.Proofs.Try.func17 rfl (by decide) (by decide) (fun x => by kernel_rfl)
noncomputable def E_addr_Size : Ent := ⟨17, D_addr_Size, fun x => addr_Size x.1, ((0 : Int), ()), false⟩
theorem E_addr_Size_ok : E_addr_Size.OK Go.Proofs.Try.prog := ⟨ok_addr_Size, by kernel_rfl⟩
def D_addr_Has : FD := ⟨[(0, .grp sBk), (1, .leaf (.int .u32))], [], [(0, .leaf .bool)], []⟩
def L_addr_Has : List (Nat × StD × Nat × StD) := []
noncomputable def T_addr_Has : List EntX := [.one E_addr_mask, .one E_addr_Right]
theorem ok_addr_Has : FnX Go.Proofs.Try.prog 19 D_addr_Has (fun x => addr_Has x.1 x.2.1) :=
  FnX.of (coL_ok (es := T_addr_Has) (OKs.mem ⟨E_addr_mask_ok, E_addr_Right_ok, trivial⟩)) mix (mkLs_ok (l := L_addr_Has) (by kernel_rfl)) (by kernel_rfl) Go.Proofs.Try.func19 rfl (by decide) (by decide) (fun x => by kernel_rfl)
noncomputable def E_addr_Has : Ent := ⟨19, D_addr_Has, fun x => addr_Has x.1 x.2.1, (false, ()), false⟩
theorem E_addr_Has_ok : E_addr_Has.OK Go.Proofs.Try.prog := ⟨ok_addr_Has, by kernel_rfl⟩
def D_addr_Within : FD := ⟨[(0, .grp sBk), (1, .grp sBk)], [], [(0, .leaf .bool)], []⟩
def L_addr_Within : List (Nat × StD × Nat × StD) := []
noncomputable def T_addr_Within : List EntX := [.one E_addr_Has, .one E_addr_Right]
theorem ok_addr_Within : FnX Go.Proofs.Try.prog 31 D_addr_Within (fun x => addr_Within x.1 x.2.1) :=
  FnX.of (coL_ok (es := T_addr_Within) (OKs.mem ⟨E_addr_Has_ok, E_addr_Right_ok, trivial⟩)) mix (mkLs_ok (l := L_addr_Within) (by kernel_rfl)) (by kernel_rfl) Go.Proofs.Try.func31 rfl (by decide) (by decide) (fun x => by kernel_rfl)
noncomputable def E_addr_Within : Ent := ⟨31, D_addr_Within, fun x => addr_Within x.1 x.2.1, (false, ()), false⟩
theorem E_addr_Within_ok : E_addr_Within.OK Go.Proofs.Try.prog := ⟨ok_addr_Within, by kernel_rfl⟩
def D_addr_Overlap : FD := ⟨[(0, .grp sBk), (1, .grp sBk)], [], [(0, .leaf .bool)], []⟩
def L_addr_Overlap : List (Nat × StD × Nat × StD) := []
noncomputable def T_addr_Overlap : List EntX := [.one E_addr_Within]
theorem ok_addr_Overlap : FnX Go.Proofs.Try.prog 13 D_addr_Overlap (fun x => addr_Overlap x.1 x.2.1) :=
  FnX.of (coL_ok (es := T_addr_Overlap) (OKs.mem ⟨E_addr_Within_ok, trivial⟩)) mix (mkLs_ok (l := L_addr_Overlap) (by kernel_rfl)) (by kernel_rfl) Go.Proofs.Try.func13 rfl (by decide) (by decide) (fun x => by kernel_rfl)
noncomputable def E_addr_Overlap : Ent := ⟨13, D_addr_Overlap, fun x => addr_Overlap x.1 x.2.1, (false, ()), false⟩
theorem E_addr_Overlap_ok : E_addr_Overlap.OK Go.Proofs.Try.prog := ⟨ok_addr_Overlap, by kernel_rfl⟩
def D_sweep_Put_1 : FD := ⟨[(0, .grp sSw), (1, .leaf (.fpt sBk 0))], [], [(0, .leaf .bool)], []⟩
def L_sweep_Put_1 : List (Nat × StD × Nat × StD) := []
noncomputable def T_sweep_Put_1 : List EntX := [.one E_addr_Overlap]
theorem ok_sweep_Put_1 : FnX Go.Proofs.Try.prog 26 D_sweep_Put_1 (fun x => sweep_Put_1 x.1 x.2.1) :=
  FnX.of (coL_ok (es := T_sweep_Put_1) (OKs.mem ⟨E_addr_Overlap_ok, trivial⟩)) mix (mkLs_ok (l := L_sweep_Put_1) (by kernel_rfl)) (by kernel_rfl) Go.Proofs.Try.func26 rfl (by decide) (by decide) (fun x => by kernel_rfl)
noncomputable def E_sweep_Put_1 : Ent := ⟨26, D_sweep_Put_1, fun x => sweep_Put_1 x.1 x.2.1, (false, ()), false⟩
theorem E_sweep_Put_1_ok : E_sweep_Put_1.OK Go.Proofs.Try.prog := ⟨ok_sweep_Put_1, by kernel_rfl⟩
def D_slices_IndexFunc_w1 : FD := ⟨[(0, .leaf (.sl sSw)), (1, .fn 26 [] [(.fpt sBk 0)])], [], [(0, .leaf (.int .i64))], []⟩
def L_slices_IndexFunc_w1 : List (Nat × StD × Nat × StD) := [(2, ⟨[(0, .leaf (.sl sSw)), (1, .fn 26 [] [(.fpt sBk 0)]), (7, .leaf (.int .i64)), (8, .leaf (.int .i64))], [], 16, 19⟩, 0, ⟨[], [], 16, 19⟩)]
noncomputable def T_slices_IndexFunc_w1 : List EntX := [.one E_sweep_Put_1]
theorem ok_slices_IndexFunc_w1 : FnX Go.Proofs.Try.prog 36 D_slices_IndexFunc_w1 (fun x => slices_IndexFunc_w1 x.1 x.2.1) :=
  FnX.of (coL_ok (es := T_slices_IndexFunc_w1) (OKs.mem ⟨E_sweep_Put_1_ok, trivial⟩)) mix (mkLs_ok (l := L_slices_IndexFunc_w1) (by kernel_rfl)) (by kernel_rfl) Go.Proofs.Try.func36 rfl (by decide) (by decide) (fun x => by kernel_rfl)
noncomputable def E_slices_IndexFunc_w1 : Ent := ⟨36, D_slices_IndexFunc_w1, fun x => slices_IndexFunc_w1 x.1 x.2.1, ((0 : Int), ()), false⟩
theorem E_slices_IndexFunc_w1_ok : E_slices_IndexFunc_w1.OK Go.Proofs.Try.prog := ⟨ok_slices_IndexFunc_w1, by kernel_rfl⟩
def D_slices_ContainsFunc_w1 : FD := ⟨[(0, .leaf (.sl sSw)), (1, .fn 26 [] [(.fpt sBk 0)])], [], [(0, .leaf .bool)], []⟩
def L_slices_ContainsFunc_w1 : List (Nat × StD × Nat × StD) := []
noncomputable def T_slices_ContainsFunc_w1 : List EntX := [.one E_slices_IndexFunc_w1]
theorem ok_slices_ContainsFunc_w1 : FnX Go.Proofs.Try.prog 25 D_slices_ContainsFunc_w1 (fun x => slices_ContainsFunc_w1 x.1 x.2.1) :=
  FnX.of (coL_ok (es := T_slices_ContainsFunc_w1) (OKs.mem ⟨E_slices_IndexFunc_w1_ok, trivial⟩)) mix (mkLs_ok (l := L_slices_ContainsFunc_w1) (by kernel_rfl)) (by kernel_rfl) Go.Proofs.Try.func25 rfl (by decide) (by decide) (fun x => by kernel_rfl)
noncomputable def E_slices_ContainsFunc_w1 : Ent := ⟨25, D_slices_ContainsFunc_w1, fun x => slices_ContainsFunc_w1 x.1 x.2.1, (false, ()), false⟩
theorem E_slices_ContainsFunc_w1_ok : E_slices_ContainsFunc_w1.OK Go.Proofs.Try.prog := ⟨ok_slices_ContainsFunc_w1, by kernel_rfl⟩
def D_slices_Clone_Sweep : FD := D_Clone sSw
theorem ok_slices_Clone_Sweep : FnX Go.Proofs.Try.prog 27 D_slices_Clone_Sweep (fun x => slices_Clone_Sweep x.1) :=
  X_Clone ⟨_, Go.Proofs.Try.func27, by decide, rfl⟩ Go.Proofs.Try.gclone27 rfl (by kernel_rfl) (by decide) (by decide) Go.Proofs.Try.sizeOf40
noncomputable def E_slices_Clone_Sweep : Ent := ⟨27, D_slices_Clone_Sweep, fun x => slices_Clone_Sweep x.1, ([], ()), false⟩
theorem E_slices_Clone_Sweep_ok : E_slices_Clone_Sweep.OK Go.Proofs.Try.prog := ⟨ok_slices_Clone_Sweep, by kernel_rfl⟩
def D_clock_Clamp : FD := ⟨[(0, .leaf (.int .i64))], [], [(0, .leaf (.int .i64))], []⟩
def L_clock_Clamp : List (Nat × StD × Nat × StD) := []
noncomputable def T_clock_Clamp : List EntX := []
theorem ok_clock_Clamp : FnX Go.Proofs.Try.prog 28 D_clock_Clamp (fun x => clock_Clamp x.1) :=
  FnX.of (coL_ok (es := T_clock_Clamp) (OKs.mem trivial)) mix (mkLs_ok (l := L_clock_Clamp) (by kernel_rfl)) (by kernel_rfl) Go.Proofs.Try.func28 rfl (by decide) (by decide) (fun x => by kernel_rfl)
noncomputable def E_clock_Clamp : Ent := ⟨28, D_clock_Clamp, fun x => clock_Clamp x.1, ((0 : Int), ()), false⟩
theorem E_clock_Clamp_ok : E_clock_Clamp.OK Go.Proofs.Try.prog := ⟨ok_clock_Clamp, by kernel_rfl⟩
end Go.Tr
namespace Go.Proofs
open Go Go.Shelf Go.RowKit Go.Lib Go.Sort
theorem walk_sweep_Put_2 (x y : ((Int × Int) × Int × Int)) (W : World) : Calls Go.Proofs.Try.prog 30 #[.agg #[.int .u32 x.1.1, .int .i64 x.1.2, .int .i64 x.2.1, .int .i64 x.2.2], .agg #[.int .u32 y.1.1, .int .i64 y.1.2, .int .i64 y.2.1, .int .i64 y.2.2]] W fun en w' => ∃ c, Go.Tr.sweep_Put_2 x y = some (c, ()) ∧ en = .returned (.int .i64 c) ∧ ∃ q os', w' = grow (W.drewN q) os' := by
  go_enter Go.Proofs.Try.func30, Go.Proofs.Try.ntmps30
  go_wp2
  go_ret
  refine ⟨_, rfl, ?_, 0, _, by rw [alloc_eq_grow, alloc_eq_grow, grow_grow]; rfl⟩
  simp only [IntWalk.i64_left]
  rfl
end Go.Proofs
namespace Go.Tr
open Go
set_option linter.unusedVariables false
set_option maxRecDepth 100000
def D_slices_SortFunc_sweep_Put_2 : FD := D_Sort sSw 30
theorem ok_slices_SortFunc_sweep_Put_2 : FnX Go.Proofs.Try.prog 29 D_slices_SortFunc_sweep_Put_2 (fun x => slices_SortFunc_sweep_Put_2 x.1) :=
  X_Sort (e := sSw) ⟨_, Go.Proofs.Try.func29, by decide, rfl⟩ Go.Proofs.Try.gsort29 rfl (by decide) Go.Proofs.Try.isAgg40 Go.Proofs.Try.sizeOf40 (Go.Proofs.enters_of Go.Proofs.Try.func30 (by kernel_rfl) rfl) (by decide) Go.Proofs.walk_sweep_Put_2 (fun x y => ⟨_, rfl⟩)
noncomputable def E_slices_SortFunc_sweep_Put_2 : Ent := ⟨29, D_slices_SortFunc_sweep_Put_2, fun x => slices_SortFunc_sweep_Put_2 x.1, ([], ()), false⟩
theorem E_slices_SortFunc_sweep_Put_2_ok : E_slices_SortFunc_sweep_Put_2.OK Go.Proofs.Try.prog := ⟨ok_slices_SortFunc_sweep_Put_2, by kernel_rfl⟩
def D_sweep_Put : FD := ⟨[(0, .leaf (.sl sSw)), (1, .grp sBk), (2, .leaf (.int .i64))], [], [(0, .leaf (.own 16 sSw)), (1, .leaf (.int .i64))], [(16, .rows sSw)]⟩
def L_sweep_Put : List (Nat × StD × Nat × StD) := []
noncomputable def T_sweep_Put : List EntX := [.one E_slices_SortFunc_sweep_Put_2, .one E_clock_Clamp, .one E_slices_Clone_Sweep, .one E_slices_ContainsFunc_w1, .one E_addr_Size, .one E_addr_Right]
theorem ok_sweep_Put : FnX Go.Proofs.Try.prog 12 D_sweep_Put (fun x => sweep_Put x.1 x.2.1 x.2.2.1) :=
  FnX.of (coL_ok (es := T_sweep_Put) (OKs.mem ⟨E_slices_SortFunc_sweep_Put_2_ok, E_clock_Clamp_ok, E_slices_Clone_Sweep_ok, E_slices_ContainsFunc_w1_ok, E_addr_Size_ok, E_addr_Right_ok, trivial⟩)) mix (mkLs_ok (l := L_sweep_Put) (by kernel_rfl)) (by kernel_rfl) Go.Proofs.Try.func12 rfl (by decide) (by decide) (fun x => by kernel_rfl)
noncomputable def E_sweep_Put : Ent := ⟨12, D_sweep_Put, fun x => sweep_Put x.1 x.2.1 x.2.2.1, ((0 : Int), ([], ())), false⟩
theorem E_sweep_Put_ok : E_sweep_Put.OK Go.Proofs.Try.prog := ⟨ok_sweep_Put, by kernel_rfl⟩
def D_sweep_order_1 : FD := ⟨[(0, .leaf (.int .i64)), (1, .leaf (.int .i64)), (2, .leaf (.fpt (.sl sSw) 0))], [], [(0, .leaf (.int .i64))], []⟩
def L_sweep_order_1 : List (Nat × StD × Nat × StD) := []
noncomputable def T_sweep_order_1 : List EntX := []
theorem ok_sweep_order_1 : FnX Go.Proofs.Try.prog 42 D_sweep_order_1 (fun x => sweep_order_1 x.1 x.2.1 x.2.2.1) :=
  FnX.of (coL_ok (es := T_sweep_order_1) (OKs.mem trivial)) mix (mkLs_ok (l := L_sweep_order_1) (by kernel_rfl)) (by kernel_rfl) Go.Proofs.Try.func42 rfl (by decide) (by decide) (fun x => by kernel_rfl)
noncomputable def E_sweep_order_1 : Ent := ⟨42, D_sweep_order_1, fun x => sweep_order_1 x.1 x.2.1 x.2.2.1, ((0 : Int), ()), false⟩
theorem E_sweep_order_1_ok : E_sweep_order_1.OK Go.Proofs.Try.prog := ⟨ok_sweep_order_1, by kernel_rfl⟩
def D_slices_insertionSortCmpFunc_int_ : FD := ⟨[(0, .leaf (.own 0 (.int .i64))), (1, .leaf (.int .i64)), (2, .leaf (.int .i64)), (3, .fn 42 [] [(.ptr 1 0)])], [(0, .rows (.int .i64)), (1, .cells [(.sl sSw)])], [], [(0, .rows (.int .i64)), (1, .cells [(.sl sSw)])]⟩
def L_slices_insertionSortCmpFunc_int_ : List (Nat × StD × Nat × StD) := [(1, ⟨[(0, .leaf (.own 0 (.int .i64))), (1, .leaf (.int .i64)), (2, .leaf (.int .i64)), (3, .fn 42 [] [(.ptr 1 0)]), (8, .leaf (.int .i64))], [(0, .rows (.int .i64)), (1, .cells [(.sl sSw)])], 16, 53⟩, 0, ⟨[], [(0, .rows (.int .i64)), (1, .cells [(.sl sSw)])], 16, 53⟩), (4, ⟨[(0, .leaf (.own 0 (.int .i64))), (1, .leaf (.int .i64)), (2, .leaf (.int .i64)), (3, .fn 42 [] [(.ptr 1 0)]), (8, .leaf (.int .i64)), (9, .leaf (.int .i64))], [(0, .rows (.int .i64)), (1, .cells [(.sl sSw)])], 16, 53⟩, 2, ⟨[(0, .leaf (.own 0 (.int .i64))), (1, .leaf (.int .i64)), (2, .leaf (.int .i64)), (3, .fn 42 [] [(.ptr 1 0)]), (8, .leaf (.int .i64))], [(0, .rows (.int .i64)), (1, .cells [(.sl sSw)])], 16, 53⟩)]
noncomputable def T_slices_insertionSortCmpFunc_int_ : List EntX := [.one E_sweep_order_1]
theorem ok_slices_insertionSortCmpFunc_int_ : FnX Go.Proofs.Try.prog 59 D_slices_insertionSortCmpFunc_int_ (fun x => slices_insertionSortCmpFunc_int_ x.1 x.2.1 x.2.2.1 x.2.2.2.1) :=
  FnX.of (coL_ok (es := T_slices_insertionSortCmpFunc_int_) (OKs.mem ⟨E_sweep_order_1_ok, trivial⟩)) mix (mkLs_ok (l := L_slices_insertionSortCmpFunc_int_) (by kernel_rfl)) (by kernel_rfl) Go.Proofs.Try.func59 rfl (by decide) (by decide) (fun x => by kernel_rfl)
noncomputable def E_slices_insertionSortCmpFunc_int_ : Ent := ⟨59, D_slices_insertionSortCmpFunc_int_, fun x => slices_insertionSortCmpFunc_int_ x.1 x.2.1 x.2.2.1 x.2.2.2.1, ([], ([], ())), true⟩
theorem E_slices_insertionSortCmpFunc_int__ok : E_slices_insertionSortCmpFunc_int_.OK Go.Proofs.Try.prog := ⟨ok_slices_insertionSortCmpFunc_int_, by kernel_rfl⟩
def D_slices_symMergeCmpFunc_int__none : FD := ⟨[(0, .leaf (.sl (.int .i64))), (1, .leaf (.int .i64)), (2, .leaf (.int .i64)), (3, .leaf (.int .i64)), (4, .fn 42 [] [(.fpt (.sl sSw) 0)])], [], [], []⟩
theorem ok_slices_symMergeCmpFunc_int__none : FnX Go.Proofs.Try.prog 60 D_slices_symMergeCmpFunc_int__none (fun x => slices_symMergeCmpFunc_int__none x.1 x.2.1 x.2.2.1 x.2.2.2.1 x.2.2.2.2.1) := FnX.none ⟨_, Go.Proofs.Try.func60, by decide, rfl⟩
noncomputable def E_slices_symMergeCmpFunc_int__none : Ent := ⟨60, D_slices_symMergeCmpFunc_int__none, fun x => slices_symMergeCmpFunc_int__none x.1 x.2.1 x.2.2.1 x.2.2.2.1 x.2.2.2.2.1, (), false⟩
theorem E_slices_symMergeCmpFunc_int__none_ok : E_slices_symMergeCmpFunc_int__none.OK Go.Proofs.Try.prog := ⟨ok_slices_symMergeCmpFunc_int__none, by kernel_rfl⟩
def D_slices_stableCmpFunc_int_ : FD := ⟨[(0, .leaf (.own 0 (.int .i64))), (1, .leaf (.int .i64)), (2, .fn 42 [] [(.ptr 1 0)])], [(0, .rows (.int .i64)), (1, .cells [(.sl sSw)])], [], [(0, .rows (.int .i64)), (1, .cells [(.sl sSw)])]⟩
def L_slices_stableCmpFunc_int_ : List (Nat × StD × Nat × StD) := [(2, ⟨[(0, .leaf (.own 0 (.int .i64))), (1, .leaf (.int .i64)), (2, .fn 42 [] [(.ptr 1 0)]), (6, .leaf (.int .i64)), (7, .leaf (.int .i64)), (8, .leaf (.int .i64))], [(0, .rows (.int .i64)), (1, .cells [(.sl sSw)])], 16, 63⟩, 0, ⟨[(0, .leaf (.own 0 (.int .i64))), (1, .leaf (.int .i64)), (2, .fn 42 [] [(.ptr 1 0)]), (6, .leaf (.int .i64)), (7, .leaf (.int .i64))], [(0, .rows (.int .i64)), (1, .cells [(.sl sSw)])], 16, 63⟩), (7, ⟨[(0, .leaf (.own 0 (.int .i64))), (1, .leaf (.int .i64)), (2, .fn 42 [] [(.ptr 1 0)]), (6, .leaf (.int .i64))], [(0, .rows (.int .i64)), (1, .cells [(.sl sSw)])], 16, 63⟩, 2, ⟨[], [(0, .rows (.int .i64)), (1, .cells [(.sl sSw)])], 16, 63⟩), (9, ⟨[(0, .leaf (.own 0 (.int .i64))), (1, .leaf (.int .i64)), (2, .fn 42 [] [(.ptr 1 0)]), (6, .leaf (.int .i64)), (7, .leaf (.int .i64)), (8, .leaf (.int .i64))], [(0, .rows (.int .i64)), (1, .cells [(.sl sSw)])], 16, 63⟩, 4, ⟨[(0, .leaf (.own 0 (.int .i64))), (1, .leaf (.int .i64)), (2, .fn 42 [] [(.ptr 1 0)]), (6, .leaf (.int .i64)), (7, .leaf (.int .i64))], [(0, .rows (.int .i64)), (1, .cells [(.sl sSw)])], 16, 63⟩)]
noncomputable def T_slices_stableCmpFunc_int_ : List EntX := [.one E_slices_symMergeCmpFunc_int__none, .one E_slices_insertionSortCmpFunc_int_]
theorem ok_slices_stableCmpFunc_int_ : FnX Go.Proofs.Try.prog 53 D_slices_stableCmpFunc_int_ (fun x => slices_stableCmpFunc_int_ x.1 x.2.1 x.2.2.1) :=
  FnX.of (coL_ok (es := T_slices_stableCmpFunc_int_) (OKs.mem ⟨E_slices_symMergeCmpFunc_int__none_ok, E_slices_insertionSortCmpFunc_int__ok, trivial⟩)) mix (mkLs_ok (l := L_slices_stableCmpFunc_int_) (by kernel_rfl)) (by kernel_rfl) Go.Proofs.Try.func53 rfl (by decide) (by decide) (fun x => by kernel_rfl)
noncomputable def E_slices_stableCmpFunc_int_ : Ent := ⟨53, D_slices_stableCmpFunc_int_, fun x => slices_stableCmpFunc_int_ x.1 x.2.1 x.2.2.1, ([], ([], ())), true⟩
theorem E_slices_stableCmpFunc_int__ok : E_slices_stableCmpFunc_int_.OK Go.Proofs.Try.prog := ⟨ok_slices_stableCmpFunc_int_, by kernel_rfl⟩
def D_slices_SortStableFunc___int_int_ : FD := ⟨[(0, .leaf (.own 0 (.int .i64))), (1, .fn 42 [] [(.ptr 1 0)])], [(0, .rows (.int .i64)), (1, .cells [(.sl sSw)])], [], [(0, .rows (.int .i64)), (1, .cells [(.sl sSw)])]⟩
def L_slices_SortStableFunc___int_int_ : List (Nat × StD × Nat × StD) := []
noncomputable def T_slices_SortStableFunc___int_int_ : List EntX := [.one E_slices_stableCmpFunc_int_]
theorem ok_slices_SortStableFunc___int_int_ : FnX Go.Proofs.Try.prog 41 D_slices_SortStableFunc___int_int_ (fun x => slices_SortStableFunc___int_int_ x.1 x.2.1) :=
  FnX.of (coL_ok (es := T_slices_SortStableFunc___int_int_) (OKs.mem ⟨E_slices_stableCmpFunc_int__ok, trivial⟩)) mix (mkLs_ok (l := L_slices_SortStableFunc___int_int_) (by kernel_rfl)) (by kernel_rfl) Go.Proofs.Try.func41 rfl (by decide) (by decide) (fun x => by kernel_rfl)
noncomputable def E_slices_SortStableFunc___int_int_ : Ent := ⟨41, D_slices_SortStableFunc___int_int_, fun x => slices_SortStableFunc___int_int_ x.1 x.2.1, ([], ([], ())), true⟩
theorem E_slices_SortStableFunc___int_int__ok : E_slices_SortStableFunc___int_int_.OK Go.Proofs.Try.prog := ⟨ok_slices_SortStableFunc___int_int_, by kernel_rfl⟩
def D_sweep_order : FD := ⟨[(0, .leaf (.sl sSw)), (1, .leaf (.int .i64))], [], [(0, .leaf (.own 16 (.int .i64)))], [(16, .rows (.int .i64))]⟩
def L_sweep_order : List (Nat × StD × Nat × StD) := [(3, ⟨[(1, .leaf (.int .i64)), (2, .leaf (.ptr 16 0)), (5, .leaf (.own 17 (.int .i64))), (8, .leaf (.sl sSw)), (9, .leaf (.int .i64)), (10, .leaf (.int .i64))], [(17, .rows (.int .i64)), (16, .cells [(.sl sSw)])], 18, 28⟩, 0, ⟨[(2, .leaf (.ptr 16 0)), (5, .leaf (.own 17 (.int .i64)))], [(16, .cells [(.sl sSw)]), (17, .rows (.int .i64))], 18, 28⟩)]
noncomputable def T_sweep_order : List EntX := [.one E_slices_SortStableFunc___int_int_]
theorem ok_sweep_order : FnX Go.Proofs.Try.prog 33 D_sweep_order (fun x => sweep_order x.1 x.2.1) :=
  FnX.of (coL_ok (es := T_sweep_order) (OKs.mem ⟨E_slices_SortStableFunc___int_int__ok, trivial⟩)) mix (mkLs_ok (l := L_sweep_order) (by kernel_rfl)) (by kernel_rfl) Go.Proofs.Try.func33 rfl (by decide) (by decide) (fun x => by kernel_rfl)
noncomputable def E_sweep_order : Ent := ⟨33, D_sweep_order, fun x => sweep_order x.1 x.2.1, ([], ()), false⟩
theorem E_sweep_order_ok : E_sweep_order.OK Go.Proofs.Try.prog := ⟨ok_sweep_order, by kernel_rfl⟩
def D_addr_At : FD := ⟨[(0, .grp sBk), (1, .leaf (.int .i64))], [], [(0, .leaf (.int .u32)), (1, .leaf .bool)], []⟩
def L_addr_At : List (Nat × StD × Nat × StD) := []
noncomputable def T_addr_At : List EntX := [.one E_addr_Size]
theorem ok_addr_At : FnX Go.Proofs.Try.prog 34 D_addr_At (fun x => addr_At x.1 x.2.1) :=
  FnX.of (coL_ok (es := T_addr_At) (OKs.mem ⟨E_addr_Size_ok, trivial⟩)) mix (mkLs_ok (l := L_addr_At) (by kernel_rfl)) (by kernel_rfl) Go.Proofs.Try.func34 rfl (by decide) (by decide) (fun x => by kernel_rfl)
noncomputable def E_addr_At : Ent := ⟨34, D_addr_At, fun x => addr_At x.1 x.2.1, ((0 : Int), (false, ())), false⟩
theorem E_addr_At_ok : E_addr_At.OK Go.Proofs.Try.prog := ⟨ok_addr_At, by kernel_rfl⟩
def D_clock_Add : FD := ⟨[(0, .leaf (.int .i64)), (1, .leaf (.int .i64))], [], [(0, .leaf (.int .i64))], []⟩
def L_clock_Add : List (Nat × StD × Nat × StD) := []
noncomputable def T_clock_Add : List EntX := [.one E_clock_Clamp]
theorem ok_clock_Add : FnX Go.Proofs.Try.prog 35 D_clock_Add (fun x => clock_Add x.1 x.2.1) :=
  FnX.of (coL_ok (es := T_clock_Add) (OKs.mem ⟨E_clock_Clamp_ok, trivial⟩)) mix (mkLs_ok (l := L_clock_Add) (by kernel_rfl)) (by kernel_rfl) Go.Proofs.Try.func35 rfl (by decide) (by decide) (fun x => by kernel_rfl)
noncomputable def E_clock_Add : Ent := ⟨35, D_clock_Add, fun x => clock_Add x.1 x.2.1, ((0 : Int), ()), false⟩
theorem E_clock_Add_ok : E_clock_Add.OK Go.Proofs.Try.prog := ⟨ok_clock_Add, by kernel_rfl⟩
def D_sweep_Plan : FD := ⟨[(0, .grp sCf), (1, .leaf (.sl sSw)), (2, .leaf (.int .i64)), (3, .leaf (.int .i64))], [], [(0, .leaf (.own 16 sSw)), (1, .leaf (.sl (.int .u32)))], [(16, .rows sSw)]⟩
def L_sweep_Plan : List (Nat × StD × Nat × StD) := [(4, ⟨[(3, .leaf (.int .i64)), (4, .leaf (.ptr 16 0)), (10, .leaf (.own 17 sSw)), (11, .leaf (.own 18 (.int .u32))), (21, .leaf (.own 19 (.int .i64))), (22, .leaf (.int .i64)), (23, .leaf (.int .i64))], [(18, .rows (.int .u32)), (16, .cells [(.int .i64), (.int .i64), (.int .i64), (.int .i64), (.int .i64), (.int .i64), (.int .i64), (.int .i64), (.int .i64)]), (17, .rows sSw), (19, .rows (.int .i64))], 20, 95⟩, 0, ⟨[(10, .leaf (.own 16 sSw)), (11, .leaf (.own 17 (.int .u32)))], [(16, .rows sSw), (17, .rows (.int .u32))], 18, 95⟩), (7, ⟨[(3, .leaf (.int .i64)), (4, .leaf (.ptr 16 0)), (10, .leaf (.own 17 sSw)), (11, .leaf (.own 18 (.int .u32))), (14, .leaf (.epr 17 sSw 0)), (21, .leaf (.own 19 (.int .i64))), (22, .leaf (.int .i64)), (23, .leaf (.int .i64))], [(16, .cells [(.int .i64), (.int .i64), (.int .i64), (.int .i64), (.int .i64), (.int .i64), (.int .i64), (.int .i64), (.int .i64)]), (17, .rows sSw), (18, .rows (.int .u32)), (19, .rows (.int .i64))], 20, 95⟩, 2, ⟨[(3, .leaf (.int .i64)), (4, .leaf (.ptr 16 0)), (10, .leaf (.own 17 sSw)), (11, .leaf (.own 18 (.int .u32))), (14, .leaf (.epr 17 sSw 0)), (21, .leaf (.own 19 (.int .i64))), (22, .leaf (.int .i64)), (23, .leaf (.int .i64))], [(16, .cells [(.int .i64), (.int .i64), (.int .i64), (.int .i64), (.int .i64), (.int .i64), (.int .i64), (.int .i64), (.int .i64)]), (17, .rows sSw), (18, .rows (.int .u32)), (19, .rows (.int .i64))], 20, 95⟩)]
noncomputable def T_sweep_Plan : List EntX := [.one E_clock_Add, .one E_addr_At, .one E_addr_Size, .one E_sweep_order, .one E_slices_Clone_Sweep]
theorem ok_sweep_Plan : FnX Go.Proofs.Try.prog 18 D_sweep_Plan (fun x => sweep_Plan x.1 x.2.1 x.2.2.1 x.2.2.2.1) :=
  FnX.of (coL_ok (es := T_sweep_Plan) (OKs.mem ⟨E_clock_Add_ok, E_addr_At_ok, E_addr_Size_ok, E_sweep_order_ok, E_slices_Clone_Sweep_ok, trivial⟩)) mix (mkLs_ok (l := L_sweep_Plan) (by kernel_rfl)) (by kernel_rfl) Go.Proofs.Try.func18 rfl (by decide) (by decide) (fun x => by kernel_rfl)
noncomputable def E_sweep_Plan : Ent := ⟨18, D_sweep_Plan, fun x => sweep_Plan x.1 x.2.1 x.2.2.1 x.2.2.2.1, ([], ([], ())), true⟩
theorem E_sweep_Plan_ok : E_sweep_Plan.OK Go.Proofs.Try.prog := ⟨ok_sweep_Plan, by kernel_rfl⟩
def D_terrierlaw14_awake : FD := ⟨[], [], [(0, .leaf .bool)], []⟩
def L_terrierlaw14_awake : List (Nat × StD × Nat × StD) := []
noncomputable def T_terrierlaw14_awake : List EntX := [.one E_sweep_Plan, .one E_sweep_Put]
theorem ok_terrierlaw14_awake : FnX Go.Proofs.Try.prog 9 D_terrierlaw14_awake (fun x => terrierlaw14_awake) :=
  FnX.of (coL_ok (es := T_terrierlaw14_awake) (OKs.mem ⟨E_sweep_Plan_ok, E_sweep_Put_ok, trivial⟩)) mix (mkLs_ok (l := L_terrierlaw14_awake) (by kernel_rfl)) (by kernel_rfl) Go.Proofs.Try.func9 rfl (by decide) (by decide) (fun x => by kernel_rfl)
noncomputable def E_terrierlaw14_awake : Ent := ⟨9, D_terrierlaw14_awake, fun x => terrierlaw14_awake, (false, ()), false⟩
theorem E_terrierlaw14_awake_ok : E_terrierlaw14_awake.OK Go.Proofs.Try.prog := ⟨ok_terrierlaw14_awake, by kernel_rfl⟩
def D_terrierlaw10_Choice_Config : FD := ⟨[(0, .grp (.pair (.int .u8) (.pair (.int .u8) (.pair (.int .u8) sMc))))], [], [(0, .grp sCf)], []⟩
def L_terrierlaw10_Choice_Config : List (Nat × StD × Nat × StD) := []
noncomputable def T_terrierlaw10_Choice_Config : List EntX := []
theorem ok_terrierlaw10_Choice_Config : FnX Go.Proofs.Try.prog 11 D_terrierlaw10_Choice_Config (fun x => terrierlaw10_Choice_Config x.1) :=
  FnX.of (coL_ok (es := T_terrierlaw10_Choice_Config) (OKs.mem trivial)) mix (mkLs_ok (l := L_terrierlaw10_Choice_Config) (by kernel_rfl)) (by kernel_rfl) Go.Proofs.Try.func11 rfl (by decide) (by decide) (fun x => by kernel_rfl)
noncomputable def E_terrierlaw10_Choice_Config : Ent := ⟨11, D_terrierlaw10_Choice_Config, fun x => terrierlaw10_Choice_Config x.1, (((0 : Int), ((0 : Int), ((0 : Int), ((0 : Int), ((0 : Int), ((0 : Int), ((0 : Int), ((0 : Int), (0 : Int))))))))), ()), false⟩
theorem E_terrierlaw10_Choice_Config_ok : E_terrierlaw10_Choice_Config.OK Go.Proofs.Try.prog := ⟨ok_terrierlaw10_Choice_Config, by kernel_rfl⟩
def D_terrierlaw01_Block : FD := ⟨[(0, .leaf (.int .u32)), (1, .leaf (.int .u8))], [], [(0, .grp sBk)], []⟩
def L_terrierlaw01_Block : List (Nat × StD × Nat × StD) := []
noncomputable def T_terrierlaw01_Block : List EntX := []
theorem ok_terrierlaw01_Block : FnX Go.Proofs.Try.prog 16 D_terrierlaw01_Block (fun x => terrierlaw01_Block x.1 x.2.1) :=
  FnX.of (coL_ok (es := T_terrierlaw01_Block) (OKs.mem trivial)) mix (mkLs_ok (l := L_terrierlaw01_Block) (by kernel_rfl)) (by kernel_rfl) Go.Proofs.Try.func16 rfl (by decide) (by decide) (fun x => by kernel_rfl)
noncomputable def E_terrierlaw01_Block : Ent := ⟨16, D_terrierlaw01_Block, fun x => terrierlaw01_Block x.1 x.2.1, (((0 : Int), (0 : Int)), ()), false⟩
theorem E_terrierlaw01_Block_ok : E_terrierlaw01_Block.OK Go.Proofs.Try.prog := ⟨ok_terrierlaw01_Block, by kernel_rfl⟩
def D_terrierlaw14_Act_block : FD := ⟨[(0, .grp (.pair (.int .u8) (.pair (.int .u16) (.int .u8))))], [], [(0, .grp sBk)], []⟩
def L_terrierlaw14_Act_block : List (Nat × StD × Nat × StD) := []
noncomputable def T_terrierlaw14_Act_block : List EntX := [.one E_terrierlaw01_Block]
theorem ok_terrierlaw14_Act_block : FnX Go.Proofs.Try.prog 23 D_terrierlaw14_Act_block (fun x => terrierlaw14_Act_block x.1) :=
  FnX.of (coL_ok (es := T_terrierlaw14_Act_block) (OKs.mem ⟨E_terrierlaw01_Block_ok, trivial⟩)) mix (mkLs_ok (l := L_terrierlaw14_Act_block) (by kernel_rfl)) (by kernel_rfl) Go.Proofs.Try.func23 rfl (by decide) (by decide) (fun x => by kernel_rfl)
noncomputable def E_terrierlaw14_Act_block : Ent := ⟨23, D_terrierlaw14_Act_block, fun x => terrierlaw14_Act_block x.1, (((0 : Int), (0 : Int)), ()), false⟩
theorem E_terrierlaw14_Act_block_ok : E_terrierlaw14_Act_block.OK Go.Proofs.Try.prog := ⟨ok_terrierlaw14_Act_block, by kernel_rfl⟩
def D_terrierlaw14_Some : FD := ⟨[(0, .grp sCf), (1, .leaf (.sl (.pair (.int .u8) (.pair (.int .u16) (.int .u8)))))], [], [(0, .leaf (.own 16 sSw)), (1, .leaf (.int .i64))], [(16, .rows sSw)]⟩
def L_terrierlaw14_Some : List (Nat × StD × Nat × StD) := [(4, ⟨[(2, .leaf (.ptr 16 0)), (6, .leaf (.own 17 sSw)), (7, .leaf (.int .i64)), (16, .leaf (.sl (.pair (.int .u8) (.pair (.int .u16) (.int .u8))))), (17, .leaf (.int .i64)), (18, .leaf (.int .i64))], [(17, .rows sSw), (16, .cells [(.int .i64), (.int .i64), (.int .i64), (.int .i64), (.int .i64), (.int .i64), (.int .i64), (.int .i64), (.int .i64)])], 18, 54⟩, 0, ⟨[(6, .leaf (.own 16 sSw)), (7, .leaf (.int .i64))], [(16, .rows sSw)], 17, 54⟩)]
noncomputable def T_terrierlaw14_Some : List EntX := [.one E_sweep_Put, .one E_terrierlaw14_Act_block, .one E_sweep_Plan]
theorem ok_terrierlaw14_Some : FnX Go.Proofs.Try.prog 10 D_terrierlaw14_Some (fun x => terrierlaw14_Some x.1 x.2.1) :=
  FnX.of (coL_ok (es := T_terrierlaw14_Some) (OKs.mem ⟨E_sweep_Put_ok, E_terrierlaw14_Act_block_ok, E_sweep_Plan_ok, trivial⟩)) mix (mkLs_ok (l := L_terrierlaw14_Some) (by kernel_rfl)) (by kernel_rfl) Go.Proofs.Try.func10 rfl (by decide) (by decide) (fun x => by kernel_rfl)
noncomputable def E_terrierlaw14_Some : Ent := ⟨10, D_terrierlaw14_Some, fun x => terrierlaw14_Some x.1 x.2.1, ((0 : Int), ([], ())), false⟩
theorem E_terrierlaw14_Some_ok : E_terrierlaw14_Some.OK Go.Proofs.Try.prog := ⟨ok_terrierlaw14_Some, by kernel_rfl⟩
def D_terrierlaw14_SweepOnce : FD := ⟨[(0, .grp (.pair (.int .u8) (.pair (.int .u8) (.pair (.int .u8) sMc)))), (1, .leaf (.sl (.pair (.int .u8) (.pair (.int .u16) (.int .u8))))), (2, .leaf (.int .u8))], [], [(0, .leaf .bool)], []⟩
def L_terrierlaw14_SweepOnce : List (Nat × StD × Nat × StD) := [(8, ⟨[(8, .leaf (.sl sSw)), (9, .leaf (.int .i64)), (10, .leaf (.mpr 16)), (39, .leaf (.sl (.int .u32))), (40, .leaf (.int .i64)), (41, .leaf (.int .i64))], [(16, .mp .u32 .bool)], 17, 76⟩, 0, ⟨[], [], 16, 76⟩), (12, ⟨[(8, .leaf (.sl sSw)), (9, .leaf (.int .i64)), (10, .leaf (.mpr 16)), (14, .leaf (.int .u32)), (15, .leaf .bool), (39, .leaf (.sl (.int .u32))), (40, .leaf (.int .i64)), (41, .leaf (.int .i64)), (45, .leaf (.sl sSw)), (46, .leaf (.int .i64)), (47, .leaf (.int .i64))], [(16, .mp .u32 .bool)], 17, 76⟩, 2, ⟨[(8, .leaf (.sl sSw)), (9, .leaf (.int .i64)), (10, .leaf (.mpr 16)), (14, .leaf (.int .u32)), (15, .leaf .bool), (39, .leaf (.sl (.int .u32))), (40, .leaf (.int .i64)), (41, .leaf (.int .i64))], [(16, .mp .u32 .bool)], 17, 76⟩)]
noncomputable def T_terrierlaw14_SweepOnce : List EntX := [.one E_addr_Has, .one E_sweep_Plan, .one E_terrierlaw14_Some, .one E_terrierlaw10_Choice_Config, .one E_terrierlaw14_awake]
theorem ok_terrierlaw14_SweepOnce : FnX Go.Proofs.Try.prog 5 D_terrierlaw14_SweepOnce (fun x => terrierlaw14_SweepOnce x.1 x.2.1 x.2.2.1) :=
  FnX.of (coL_ok (es := T_terrierlaw14_SweepOnce) (OKs.mem ⟨E_addr_Has_ok, E_sweep_Plan_ok, E_terrierlaw14_Some_ok, E_terrierlaw10_Choice_Config_ok, E_terrierlaw14_awake_ok, trivial⟩)) mix (mkLs_ok (l := L_terrierlaw14_SweepOnce) (by kernel_rfl)) (by kernel_rfl) Go.Proofs.Try.func5 rfl (by decide) (by decide) (fun x => by kernel_rfl)
end Go.Tr
