/- The Go functions come to these Lean functions: printed by a program of this session's. Conditions: none. -/
import Derived.Test.YtedeacbkaidknaaGreatBE
import Derived.Test.YtedeacbkaidknaaGreatOpsD
import Derived.Test.YtedeacbkaidknaaGreatOpsX
import Derived.Test.YtedeacbkaidknaaGreatOpsG
import Derived.KernelRfl
import Derived.Test.YtedeacbkaidknaaGreatProg
namespace Go.Tr
open Go
set_option linter.unusedVariables false
set_option maxRecDepth 100000
theorem mix : Go.Proofs.Tryz.prog.follows .mixedOrders = true := by rfl
def D_clock_Clamp : FD := ⟨[(0, .leaf (.int .i64))], [], [(0, .leaf (.int .i64))], []⟩
def L_clock_Clamp : List (Nat × StD × Nat × StD) := []
noncomputable def T_clock_Clamp : List Ent := []
theorem ok_clock_Clamp : FnX Go.Proofs.Tryz.prog 69 D_clock_Clamp (fun x => clock_Clamp x.1) :=
  FnX.of (coL_ok (es := T_clock_Clamp) (OKs.mem trivial)) mix (mkLs_ok (l := L_clock_Clamp) (by kernel_rfl)) (by kernel_rfl) Go.Proofs.Tryz.func69 rfl (by decide) (by decide) (fun x => by kernel_rfl)
noncomputable def E_clock_Clamp : Ent := ⟨69, D_clock_Clamp, fun x => clock_Clamp x.1, ((0 : Int), ()), false⟩
theorem E_clock_Clamp_ok : E_clock_Clamp.OK Go.Proofs.Tryz.prog := ⟨ok_clock_Clamp, by kernel_rfl⟩
def D_clock_Add : FD := ⟨[(0, .leaf (.int .i64)), (1, .leaf (.int .i64))], [], [(0, .leaf (.int .i64))], []⟩
def L_clock_Add : List (Nat × StD × Nat × StD) := []
noncomputable def T_clock_Add : List Ent := [E_clock_Clamp]
theorem ok_clock_Add : FnX Go.Proofs.Tryz.prog 55 D_clock_Add (fun x => clock_Add x.1 x.2.1) :=
  FnX.of (coL_ok (es := T_clock_Add) (OKs.mem ⟨E_clock_Clamp_ok, trivial⟩)) mix (mkLs_ok (l := L_clock_Add) (by kernel_rfl)) (by kernel_rfl) Go.Proofs.Tryz.func55 rfl (by decide) (by decide) (fun x => by kernel_rfl)
noncomputable def E_clock_Add : Ent := ⟨55, D_clock_Add, fun x => clock_Add x.1 x.2.1, ((0 : Int), ()), false⟩
theorem E_clock_Add_ok : E_clock_Add.OK Go.Proofs.Tryz.prog := ⟨ok_clock_Add, by kernel_rfl⟩
def D_slices_Clone_Case : FD := D_Clone sCa
theorem ok_slices_Clone_Case : FnX Go.Proofs.Tryz.prog 92 D_slices_Clone_Case (fun x => slices_Clone_Case x.1) :=
  X_Clone ⟨_, Go.Proofs.Tryz.func92, by decide, rfl⟩ Go.Proofs.Tryz.gclone92 rfl (by kernel_rfl) (by decide) (by decide) Go.Proofs.Tryz.sizeOf67
noncomputable def E_slices_Clone_Case : Ent := ⟨92, D_slices_Clone_Case, fun x => slices_Clone_Case x.1, ([], ()), false⟩
theorem E_slices_Clone_Case_ok : E_slices_Clone_Case.OK Go.Proofs.Tryz.prog := ⟨ok_slices_Clone_Case, by kernel_rfl⟩
def D_clock_Since : FD := ⟨[(0, .leaf (.int .i64)), (1, .leaf (.int .i64))], [], [(0, .leaf (.int .i64))], []⟩
def L_clock_Since : List (Nat × StD × Nat × StD) := []
noncomputable def T_clock_Since : List Ent := [E_clock_Clamp]
theorem ok_clock_Since : FnX Go.Proofs.Tryz.prog 93 D_clock_Since (fun x => clock_Since x.1 x.2.1) :=
  FnX.of (coL_ok (es := T_clock_Since) (OKs.mem ⟨E_clock_Clamp_ok, trivial⟩)) mix (mkLs_ok (l := L_clock_Since) (by kernel_rfl)) (by kernel_rfl) Go.Proofs.Tryz.func93 rfl (by decide) (by decide) (fun x => by kernel_rfl)
noncomputable def E_clock_Since : Ent := ⟨93, D_clock_Since, fun x => clock_Since x.1 x.2.1, ((0 : Int), ()), false⟩
theorem E_clock_Since_ok : E_clock_Since.OK Go.Proofs.Tryz.prog := ⟨ok_clock_Since, by kernel_rfl⟩
def D_cases_Tick : FD := ⟨[(0, .grp sCf), (1, .leaf (.sl sCa)), (2, .leaf (.int .i64))], [], [(0, .leaf (.own 16 sCa))], [(16, .rows sCa)]⟩
def L_cases_Tick : List (Nat × StD × Nat × StD) := [(3, ⟨[(2, .leaf (.int .i64)), (3, .leaf (.ptr 16 0)), (7, .leaf (.own 17 sCa)), (12, .leaf (.own 17 sCa)), (13, .leaf (.int .i64)), (14, .leaf (.int .i64))], [(16, .grp sCf), (17, .rows sCa)], 18, 43⟩, 0, ⟨[(7, .leaf (.own 16 sCa))], [(16, .rows sCa)], 17, 43⟩)]
noncomputable def T_cases_Tick : List Ent := [E_clock_Clamp, E_clock_Since, E_slices_Clone_Case]
theorem ok_cases_Tick : FnX Go.Proofs.Tryz.prog 56 D_cases_Tick (fun x => cases_Tick x.1 x.2.1 x.2.2.1) :=
  FnX.of (coL_ok (es := T_cases_Tick) (OKs.mem ⟨E_clock_Clamp_ok, E_clock_Since_ok, E_slices_Clone_Case_ok, trivial⟩)) mix (mkLs_ok (l := L_cases_Tick) (by kernel_rfl)) (by kernel_rfl) Go.Proofs.Tryz.func56 rfl (by decide) (by decide) (fun x => by kernel_rfl)
noncomputable def E_cases_Tick : Ent := ⟨56, D_cases_Tick, fun x => cases_Tick x.1 x.2.1 x.2.2.1, ([], ()), false⟩
theorem E_cases_Tick_ok : E_cases_Tick.OK Go.Proofs.Tryz.prog := ⟨ok_cases_Tick, by kernel_rfl⟩
def D_held_find_1 : FD := ⟨[(0, .leaf (.int .i64)), (1, .leaf (.fpt (.sl sHd) 0)), (2, .leaf (.fpt (.int .u32) 0))], [], [(0, .leaf .bool)], []⟩
def L_held_find_1 : List (Nat × StD × Nat × StD) := []
noncomputable def T_held_find_1 : List Ent := []
theorem ok_held_find_1 : FnX Go.Proofs.Tryz.prog 78 D_held_find_1 (fun x => held_find_1 x.1 x.2.1 x.2.2.1) :=
  FnX.of (coL_ok (es := T_held_find_1) (OKs.mem trivial)) mix (mkLs_ok (l := L_held_find_1) (by kernel_rfl)) (by kernel_rfl) Go.Proofs.Tryz.func78 rfl (by decide) (by decide) (fun x => by kernel_rfl)
noncomputable def E_held_find_1 : Ent := ⟨78, D_held_find_1, fun x => held_find_1 x.1 x.2.1 x.2.2.1, (false, ()), false⟩
theorem E_held_find_1_ok : E_held_find_1.OK Go.Proofs.Tryz.prog := ⟨ok_held_find_1, by kernel_rfl⟩
def D_sort_Search : FD := ⟨[(0, .leaf (.int .i64)), (1, .fn 78 [] [(.fpt (.sl sHd) 0), (.fpt (.int .u32) 0)])], [], [(0, .leaf (.int .i64))], []⟩
def L_sort_Search : List (Nat × StD × Nat × StD) := [(2, ⟨[(1, .fn 78 [] [(.fpt (.sl sHd) 0), (.fpt (.int .u32) 0)]), (5, .leaf (.int .i64)), (6, .leaf (.int .i64))], [], 16, 26⟩, 0, ⟨[(5, .leaf (.int .i64))], [], 16, 26⟩)]
noncomputable def T_sort_Search : List Ent := [E_held_find_1]
theorem ok_sort_Search : FnX Go.Proofs.Tryz.prog 77 D_sort_Search (fun x => sort_Search x.1 x.2.1 x.2.2.1) :=
  FnX.of (coL_ok (es := T_sort_Search) (OKs.mem ⟨E_held_find_1_ok, trivial⟩)) mix (mkLs_ok (l := L_sort_Search) (by kernel_rfl)) (by kernel_rfl) Go.Proofs.Tryz.func77 rfl (by decide) (by decide) (fun x => by kernel_rfl)
noncomputable def E_sort_Search : Ent := ⟨77, D_sort_Search, fun x => sort_Search x.1 x.2.1 x.2.2.1, ((0 : Int), ()), false⟩
theorem E_sort_Search_ok : E_sort_Search.OK Go.Proofs.Tryz.prog := ⟨ok_sort_Search, by kernel_rfl⟩
def D_held_find : FD := ⟨[(0, .leaf (.sl sHd)), (1, .leaf (.int .u32))], [], [(0, .leaf (.int .i64)), (1, .leaf .bool)], []⟩
def L_held_find : List (Nat × StD × Nat × StD) := []
noncomputable def T_held_find : List Ent := [E_sort_Search]
theorem ok_held_find : FnX Go.Proofs.Tryz.prog 37 D_held_find (fun x => held_find x.1 x.2.1) :=
  FnX.of (coL_ok (es := T_held_find) (OKs.mem ⟨E_sort_Search_ok, trivial⟩)) mix (mkLs_ok (l := L_held_find) (by kernel_rfl)) (by kernel_rfl) Go.Proofs.Tryz.func37 rfl (by decide) (by decide) (fun x => by kernel_rfl)
noncomputable def E_held_find : Ent := ⟨37, D_held_find, fun x => held_find x.1 x.2.1, ((0 : Int), (false, ())), false⟩
theorem E_held_find_ok : E_held_find.OK Go.Proofs.Tryz.prog := ⟨ok_held_find, by kernel_rfl⟩
def D_held_Get : FD := ⟨[(0, .leaf (.sl sHd)), (1, .leaf (.int .u32))], [], [(0, .grp sHd), (1, .leaf .bool)], []⟩
def L_held_Get : List (Nat × StD × Nat × StD) := []
noncomputable def T_held_Get : List Ent := [E_held_find]
theorem ok_held_Get : FnX Go.Proofs.Tryz.prog 15 D_held_Get (fun x => held_Get x.1 x.2.1) :=
  FnX.of (coL_ok (es := T_held_Get) (OKs.mem ⟨E_held_find_ok, trivial⟩)) mix (mkLs_ok (l := L_held_Get) (by kernel_rfl)) (by kernel_rfl) Go.Proofs.Tryz.func15 rfl (by decide) (by decide) (fun x => by kernel_rfl)
noncomputable def E_held_Get : Ent := ⟨15, D_held_Get, fun x => held_Get x.1 x.2.1, (((0 : Int), ([], ((0 : Int), ((0 : Int), ((0 : Int), ((0 : Int), ((0 : Int), (0 : Int)))))))), (false, ())), false⟩
theorem E_held_Get_ok : E_held_Get.OK Go.Proofs.Tryz.prog := ⟨ok_held_Get, by kernel_rfl⟩
def D_seen_find_1 : FD := ⟨[(0, .leaf (.int .i64)), (1, .leaf (.fpt (.sl sKn) 0)), (2, .leaf (.fpt (.int .u32) 0))], [], [(0, .leaf .bool)], []⟩
def L_seen_find_1 : List (Nat × StD × Nat × StD) := []
noncomputable def T_seen_find_1 : List Ent := []
theorem ok_seen_find_1 : FnX Go.Proofs.Tryz.prog 79 D_seen_find_1 (fun x => seen_find_1 x.1 x.2.1 x.2.2.1) :=
  FnX.of (coL_ok (es := T_seen_find_1) (OKs.mem trivial)) mix (mkLs_ok (l := L_seen_find_1) (by kernel_rfl)) (by kernel_rfl) Go.Proofs.Tryz.func79 rfl (by decide) (by decide) (fun x => by kernel_rfl)
noncomputable def E_seen_find_1 : Ent := ⟨79, D_seen_find_1, fun x => seen_find_1 x.1 x.2.1 x.2.2.1, (false, ()), false⟩
theorem E_seen_find_1_ok : E_seen_find_1.OK Go.Proofs.Tryz.prog := ⟨ok_seen_find_1, by kernel_rfl⟩
def D_sort_Search_v1 : FD := ⟨[(0, .leaf (.int .i64)), (1, .fn 79 [] [(.fpt (.sl sKn) 0), (.fpt (.int .u32) 0)])], [], [(0, .leaf (.int .i64))], []⟩
def L_sort_Search_v1 : List (Nat × StD × Nat × StD) := [(2, ⟨[(1, .fn 79 [] [(.fpt (.sl sKn) 0), (.fpt (.int .u32) 0)]), (5, .leaf (.int .i64)), (6, .leaf (.int .i64))], [], 16, 26⟩, 0, ⟨[(5, .leaf (.int .i64))], [], 16, 26⟩)]
noncomputable def T_sort_Search_v1 : List Ent := [E_seen_find_1]
theorem ok_sort_Search_v1 : FnX Go.Proofs.Tryz.prog 77 D_sort_Search_v1 (fun x => sort_Search_v1 x.1 x.2.1 x.2.2.1) :=
  FnX.of (coL_ok (es := T_sort_Search_v1) (OKs.mem ⟨E_seen_find_1_ok, trivial⟩)) mix (mkLs_ok (l := L_sort_Search_v1) (by kernel_rfl)) (by kernel_rfl) Go.Proofs.Tryz.func77 rfl (by decide) (by decide) (fun x => by kernel_rfl)
noncomputable def E_sort_Search_v1 : Ent := ⟨77, D_sort_Search_v1, fun x => sort_Search_v1 x.1 x.2.1 x.2.2.1, ((0 : Int), ()), false⟩
theorem E_sort_Search_v1_ok : E_sort_Search_v1.OK Go.Proofs.Tryz.prog := ⟨ok_sort_Search_v1, by kernel_rfl⟩
def D_seen_find : FD := ⟨[(0, .leaf (.sl sKn)), (1, .leaf (.int .u32))], [], [(0, .leaf (.int .i64)), (1, .leaf .bool)], []⟩
def L_seen_find : List (Nat × StD × Nat × StD) := []
noncomputable def T_seen_find : List Ent := [E_sort_Search_v1]
theorem ok_seen_find : FnX Go.Proofs.Tryz.prog 41 D_seen_find (fun x => seen_find x.1 x.2.1) :=
  FnX.of (coL_ok (es := T_seen_find) (OKs.mem ⟨E_sort_Search_v1_ok, trivial⟩)) mix (mkLs_ok (l := L_seen_find) (by kernel_rfl)) (by kernel_rfl) Go.Proofs.Tryz.func41 rfl (by decide) (by decide) (fun x => by kernel_rfl)
noncomputable def E_seen_find : Ent := ⟨41, D_seen_find, fun x => seen_find x.1 x.2.1, ((0 : Int), (false, ())), false⟩
theorem E_seen_find_ok : E_seen_find.OK Go.Proofs.Tryz.prog := ⟨ok_seen_find, by kernel_rfl⟩
def D_seen_Of : FD := ⟨[(0, .leaf (.sl sKn)), (1, .leaf (.int .u32))], [], [(0, .leaf (.own 16 sSg))], [(16, .rows sSg)]⟩
def L_seen_Of : List (Nat × StD × Nat × StD) := []
noncomputable def T_seen_Of : List Ent := [E_seen_find]
theorem ok_seen_Of : FnX Go.Proofs.Tryz.prog 43 D_seen_Of (fun x => seen_Of x.1 x.2.1) :=
  FnX.of (coL_ok (es := T_seen_Of) (OKs.mem ⟨E_seen_find_ok, trivial⟩)) mix (mkLs_ok (l := L_seen_Of) (by kernel_rfl)) (by kernel_rfl) Go.Proofs.Tryz.func43 rfl (by decide) (by decide) (fun x => by kernel_rfl)
noncomputable def E_seen_Of : Ent := ⟨43, D_seen_Of, fun x => seen_Of x.1 x.2.1, ([], ()), false⟩
theorem E_seen_Of_ok : E_seen_Of.OK Go.Proofs.Tryz.prog := ⟨ok_seen_Of, by kernel_rfl⟩
def D_clock_Within : FD := ⟨[(0, .leaf (.int .i64)), (1, .leaf (.int .i64)), (2, .leaf (.int .i64))], [], [(0, .leaf .bool)], []⟩
def L_clock_Within : List (Nat × StD × Nat × StD) := []
noncomputable def T_clock_Within : List Ent := [E_clock_Since]
theorem ok_clock_Within : FnX Go.Proofs.Tryz.prog 83 D_clock_Within (fun x => clock_Within x.1 x.2.1 x.2.2.1) :=
  FnX.of (coL_ok (es := T_clock_Within) (OKs.mem ⟨E_clock_Since_ok, trivial⟩)) mix (mkLs_ok (l := L_clock_Within) (by kernel_rfl)) (by kernel_rfl) Go.Proofs.Tryz.func83 rfl (by decide) (by decide) (fun x => by kernel_rfl)
noncomputable def E_clock_Within : Ent := ⟨83, D_clock_Within, fun x => clock_Within x.1 x.2.1 x.2.2.1, (false, ()), false⟩
theorem E_clock_Within_ok : E_clock_Within.OK Go.Proofs.Tryz.prog := ⟨ok_clock_Within, by kernel_rfl⟩
def D_status_fresh : FD := ⟨[(0, .grp sCf), (1, .leaf (.sl sSg)), (2, .leaf (.int .i64))], [], [(0, .leaf (.own 16 sSg))], [(16, .rows sSg)]⟩
def L_status_fresh : List (Nat × StD × Nat × StD) := [(3, ⟨[(2, .leaf (.int .i64)), (3, .leaf (.ptr 16 0)), (7, .leaf (.own 17 sSg)), (19, .leaf (.sl sSg)), (20, .leaf (.int .i64)), (21, .leaf (.int .i64))], [(17, .rows sSg), (16, .grp sCf)], 18, 37⟩, 0, ⟨[(7, .leaf (.own 16 sSg))], [(16, .rows sSg)], 17, 37⟩)]
noncomputable def T_status_fresh : List Ent := [E_clock_Within]
theorem ok_status_fresh : FnX Go.Proofs.Tryz.prog 80 D_status_fresh (fun x => status_fresh x.1 x.2.1 x.2.2.1) :=
  FnX.of (coL_ok (es := T_status_fresh) (OKs.mem ⟨E_clock_Within_ok, trivial⟩)) mix (mkLs_ok (l := L_status_fresh) (by kernel_rfl)) (by kernel_rfl) Go.Proofs.Tryz.func80 rfl (by decide) (by decide) (fun x => by kernel_rfl)
noncomputable def E_status_fresh : Ent := ⟨80, D_status_fresh, fun x => status_fresh x.1 x.2.1 x.2.2.1, ([], ()), false⟩
theorem E_status_fresh_ok : E_status_fresh.OK Go.Proofs.Tryz.prog := ⟨ok_status_fresh, by kernel_rfl⟩
def D_mac_None : FD := ⟨[(0, .grp sMc)], [], [(0, .leaf .bool)], []⟩
def L_mac_None : List (Nat × StD × Nat × StD) := []
noncomputable def T_mac_None : List Ent := []
theorem ok_mac_None : FnX Go.Proofs.Tryz.prog 106 D_mac_None (fun x => mac_None x.1) :=
  FnX.of (coL_ok (es := T_mac_None) (OKs.mem trivial)) mix (mkLs_ok (l := L_mac_None) (by kernel_rfl)) (by kernel_rfl) Go.Proofs.Tryz.func106 rfl (by decide) (by decide) (fun x => by kernel_rfl)
noncomputable def E_mac_None : Ent := ⟨106, D_mac_None, fun x => mac_None x.1, (false, ()), false⟩
theorem E_mac_None_ok : E_mac_None.OK Go.Proofs.Tryz.prog := ⟨ok_mac_None, by kernel_rfl⟩
def D_status_apart : FD := ⟨[(0, .leaf (.sl sSg))], [], [(0, .leaf .bool)], []⟩
def L_status_apart : List (Nat × StD × Nat × StD) := [(3, ⟨[(3, .leaf (.ptr 16 0)), (6, .leaf (.sl sSg)), (7, .leaf (.int .i64)), (8, .leaf (.int .i64))], [(16, .cells [(.int .u8), (.int .u8), (.int .u8), (.int .u8), (.int .u8), (.int .u8)])], 17, 27⟩, 0, ⟨[], [], 16, 27⟩)]
noncomputable def T_status_apart : List Ent := [E_mac_None]
theorem ok_status_apart : FnX Go.Proofs.Tryz.prog 81 D_status_apart (fun x => status_apart x.1) :=
  FnX.of (coL_ok (es := T_status_apart) (OKs.mem ⟨E_mac_None_ok, trivial⟩)) mix (mkLs_ok (l := L_status_apart) (by kernel_rfl)) (by kernel_rfl) Go.Proofs.Tryz.func81 rfl (by decide) (by decide) (fun x => by kernel_rfl)
noncomputable def E_status_apart : Ent := ⟨81, D_status_apart, fun x => status_apart x.1, (false, ()), false⟩
theorem E_status_apart_ok : E_status_apart.OK Go.Proofs.Tryz.prog := ⟨ok_status_apart, by kernel_rfl⟩
def D_status_foreign : FD := ⟨[(0, .grp sHd), (1, .leaf (.sl sSg))], [], [(0, .leaf .bool)], []⟩
def L_status_foreign : List (Nat × StD × Nat × StD) := [(2, ⟨[(2, .leaf (.ptr 16 0)), (7, .leaf (.sl sSg)), (8, .leaf (.int .i64)), (9, .leaf (.int .i64))], [(16, .cells [(.int .u32), .str, (.int .u8), (.int .u8), (.int .u8), (.int .u8), (.int .u8), (.int .u8)])], 17, 31⟩, 0, ⟨[], [], 16, 31⟩)]
noncomputable def T_status_foreign : List Ent := [E_mac_None]
theorem ok_status_foreign : FnX Go.Proofs.Tryz.prog 82 D_status_foreign (fun x => status_foreign x.1 x.2.1) :=
  FnX.of (coL_ok (es := T_status_foreign) (OKs.mem ⟨E_mac_None_ok, trivial⟩)) mix (mkLs_ok (l := L_status_foreign) (by kernel_rfl)) (by kernel_rfl) Go.Proofs.Tryz.func82 rfl (by decide) (by decide) (fun x => by kernel_rfl)
noncomputable def E_status_foreign : Ent := ⟨82, D_status_foreign, fun x => status_foreign x.1 x.2.1, (false, ()), false⟩
theorem E_status_foreign_ok : E_status_foreign.OK Go.Proofs.Tryz.prog := ⟨ok_status_foreign, by kernel_rfl⟩
def D_status_Of : FD := ⟨[(0, .grp sCf), (1, .leaf (.fpt sHd 0)), (2, .leaf (.sl sSg)), (3, .leaf (.int .i64))], [], [(0, .leaf (.int .i64))], []⟩
def L_status_Of : List (Nat × StD × Nat × StD) := []
noncomputable def T_status_Of : List Ent := [E_clock_Within, E_status_foreign, E_status_apart, E_status_fresh]
theorem ok_status_Of : FnX Go.Proofs.Tryz.prog 42 D_status_Of (fun x => status_Of x.1 x.2.1 x.2.2.1 x.2.2.2.1) :=
  FnX.of (coL_ok (es := T_status_Of) (OKs.mem ⟨E_clock_Within_ok, E_status_foreign_ok, E_status_apart_ok, E_status_fresh_ok, trivial⟩)) mix (mkLs_ok (l := L_status_Of) (by kernel_rfl)) (by kernel_rfl) Go.Proofs.Tryz.func42 rfl (by decide) (by decide) (fun x => by kernel_rfl)
noncomputable def E_status_Of : Ent := ⟨42, D_status_Of, fun x => status_Of x.1 x.2.1 x.2.2.1 x.2.2.2.1, ((0 : Int), ()), false⟩
theorem E_status_Of_ok : E_status_Of.OK Go.Proofs.Tryz.prog := ⟨ok_status_Of, by kernel_rfl⟩
def D_status_Of_v1 : FD := ⟨[(0, .grp sCf), (1, .leaf .nilp), (2, .leaf (.sl sSg)), (3, .leaf (.int .i64))], [], [(0, .leaf (.int .i64))], []⟩
def L_status_Of_v1 : List (Nat × StD × Nat × StD) := []
noncomputable def T_status_Of_v1 : List Ent := [E_clock_Within, E_status_foreign, E_status_apart, E_status_fresh]
theorem ok_status_Of_v1 : FnX Go.Proofs.Tryz.prog 42 D_status_Of_v1 (fun x => status_Of_v1 x.1 x.2.1 x.2.2.1) :=
  FnX.of (coL_ok (es := T_status_Of_v1) (OKs.mem ⟨E_clock_Within_ok, E_status_foreign_ok, E_status_apart_ok, E_status_fresh_ok, trivial⟩)) mix (mkLs_ok (l := L_status_Of_v1) (by kernel_rfl)) (by kernel_rfl) Go.Proofs.Tryz.func42 rfl (by decide) (by decide) (fun x => by kernel_rfl)
noncomputable def E_status_Of_v1 : Ent := ⟨42, D_status_Of_v1, fun x => status_Of_v1 x.1 x.2.1 x.2.2.1, ((0 : Int), ()), false⟩
theorem E_status_Of_v1_ok : E_status_Of_v1.OK Go.Proofs.Tryz.prog := ⟨ok_status_Of_v1, by kernel_rfl⟩
def D_ops_Status : FD := ⟨[(0, .grp sCf), (1, .grp sSt), (2, .leaf (.int .u32))], [], [(0, .leaf (.int .i64))], []⟩
def L_ops_Status : List (Nat × StD × Nat × StD) := []
noncomputable def T_ops_Status : List Ent := [E_status_Of_v1, E_status_Of, E_seen_Of, E_held_Get]
theorem ok_ops_Status : FnX Go.Proofs.Tryz.prog 19 D_ops_Status (fun x => ops_Status x.1 x.2.1 x.2.2.1) :=
  FnX.of (coL_ok (es := T_ops_Status) (OKs.mem ⟨E_status_Of_v1_ok, E_status_Of_ok, E_seen_Of_ok, E_held_Get_ok, trivial⟩)) mix (mkLs_ok (l := L_ops_Status) (by kernel_rfl)) (by kernel_rfl) Go.Proofs.Tryz.func19 rfl (by decide) (by decide) (fun x => by kernel_rfl)
noncomputable def E_ops_Status : Ent := ⟨19, D_ops_Status, fun x => ops_Status x.1 x.2.1 x.2.2.1, ((0 : Int), ()), false⟩
theorem E_ops_Status_ok : E_ops_Status.OK Go.Proofs.Tryz.prog := ⟨ok_ops_Status, by kernel_rfl⟩
def D_cases_Open : FD := ⟨[(0, .grp sCa)], [], [(0, .leaf .bool)], []⟩
def L_cases_Open : List (Nat × StD × Nat × StD) := []
noncomputable def T_cases_Open : List Ent := []
theorem ok_cases_Open : FnX Go.Proofs.Tryz.prog 40 D_cases_Open (fun x => cases_Open x.1) :=
  FnX.of (coL_ok (es := T_cases_Open) (OKs.mem trivial)) mix (mkLs_ok (l := L_cases_Open) (by kernel_rfl)) (by kernel_rfl) Go.Proofs.Tryz.func40 rfl (by decide) (by decide) (fun x => by kernel_rfl)
noncomputable def E_cases_Open : Ent := ⟨40, D_cases_Open, fun x => cases_Open x.1, (false, ()), false⟩
theorem E_cases_Open_ok : E_cases_Open.OK Go.Proofs.Tryz.prog := ⟨ok_cases_Open, by kernel_rfl⟩
def D_cases_Find_1 : FD := ⟨[(0, .grp sCa), (1, .leaf (.fpt (.int .u32) 0))], [], [(0, .leaf .bool)], []⟩
def L_cases_Find_1 : List (Nat × StD × Nat × StD) := []
noncomputable def T_cases_Find_1 : List Ent := [E_cases_Open]
theorem ok_cases_Find_1 : FnX Go.Proofs.Tryz.prog 39 D_cases_Find_1 (fun x => cases_Find_1 x.1 x.2.1) :=
  FnX.of (coL_ok (es := T_cases_Find_1) (OKs.mem ⟨E_cases_Open_ok, trivial⟩)) mix (mkLs_ok (l := L_cases_Find_1) (by kernel_rfl)) (by kernel_rfl) Go.Proofs.Tryz.func39 rfl (by decide) (by decide) (fun x => by kernel_rfl)
noncomputable def E_cases_Find_1 : Ent := ⟨39, D_cases_Find_1, fun x => cases_Find_1 x.1 x.2.1, (false, ()), false⟩
theorem E_cases_Find_1_ok : E_cases_Find_1.OK Go.Proofs.Tryz.prog := ⟨ok_cases_Find_1, by kernel_rfl⟩
def D_slices_IndexFunc_v1 : FD := ⟨[(0, .leaf (.sl sCa)), (1, .fn 39 [] [(.fpt (.int .u32) 0)])], [], [(0, .leaf (.int .i64))], []⟩
def L_slices_IndexFunc_v1 : List (Nat × StD × Nat × StD) := [(2, ⟨[(0, .leaf (.sl sCa)), (1, .fn 39 [] [(.fpt (.int .u32) 0)]), (7, .leaf (.int .i64)), (8, .leaf (.int .i64))], [], 16, 19⟩, 0, ⟨[], [], 16, 19⟩)]
noncomputable def T_slices_IndexFunc_v1 : List Ent := [E_cases_Find_1]
theorem ok_slices_IndexFunc_v1 : FnX Go.Proofs.Tryz.prog 38 D_slices_IndexFunc_v1 (fun x => slices_IndexFunc_v1 x.1 x.2.1) :=
  FnX.of (coL_ok (es := T_slices_IndexFunc_v1) (OKs.mem ⟨E_cases_Find_1_ok, trivial⟩)) mix (mkLs_ok (l := L_slices_IndexFunc_v1) (by kernel_rfl)) (by kernel_rfl) Go.Proofs.Tryz.func38 rfl (by decide) (by decide) (fun x => by kernel_rfl)
noncomputable def E_slices_IndexFunc_v1 : Ent := ⟨38, D_slices_IndexFunc_v1, fun x => slices_IndexFunc_v1 x.1 x.2.1, ((0 : Int), ()), false⟩
theorem E_slices_IndexFunc_v1_ok : E_slices_IndexFunc_v1.OK Go.Proofs.Tryz.prog := ⟨ok_slices_IndexFunc_v1, by kernel_rfl⟩
def D_cases_Find : FD := ⟨[(0, .leaf (.sl sCa)), (1, .leaf (.int .u32))], [], [(0, .leaf (.int .i64))], []⟩
def L_cases_Find : List (Nat × StD × Nat × StD) := []
noncomputable def T_cases_Find : List Ent := [E_slices_IndexFunc_v1]
theorem ok_cases_Find : FnX Go.Proofs.Tryz.prog 16 D_cases_Find (fun x => cases_Find x.1 x.2.1) :=
  FnX.of (coL_ok (es := T_cases_Find) (OKs.mem ⟨E_slices_IndexFunc_v1_ok, trivial⟩)) mix (mkLs_ok (l := L_cases_Find) (by kernel_rfl)) (by kernel_rfl) Go.Proofs.Tryz.func16 rfl (by decide) (by decide) (fun x => by kernel_rfl)
noncomputable def E_cases_Find : Ent := ⟨16, D_cases_Find, fun x => cases_Find x.1 x.2.1, ((0 : Int), ()), false⟩
theorem E_cases_Find_ok : E_cases_Find.OK Go.Proofs.Tryz.prog := ⟨ok_cases_Find, by kernel_rfl⟩
def D_cases_next : FD := ⟨[(0, .leaf (.sl sCa)), (1, .leaf (.int .u32)), (2, .leaf (.int .i64)), (3, .leaf (.int .i64)), (4, .leaf (.int .i64))], [], [(0, .leaf (.own 16 sCa)), (1, .leaf (.int .i64))], [(16, .rows sCa)]⟩
def L_cases_next : List (Nat × StD × Nat × StD) := []
noncomputable def T_cases_next : List Ent := [E_clock_Clamp, E_cases_Open, E_slices_Clone_Case, E_cases_Find]
theorem ok_cases_next : FnX Go.Proofs.Tryz.prog 76 D_cases_next (fun x => cases_next x.1 x.2.1 x.2.2.1 x.2.2.2.1 x.2.2.2.2.1) :=
  FnX.of (coL_ok (es := T_cases_next) (OKs.mem ⟨E_clock_Clamp_ok, E_cases_Open_ok, E_slices_Clone_Case_ok, E_cases_Find_ok, trivial⟩)) mix (mkLs_ok (l := L_cases_next) (by kernel_rfl)) (by kernel_rfl) Go.Proofs.Tryz.func76 rfl (by decide) (by decide) (fun x => by kernel_rfl)
noncomputable def E_cases_next : Ent := ⟨76, D_cases_next, fun x => cases_next x.1 x.2.1 x.2.2.1 x.2.2.2.1 x.2.2.2.2.1, ((0 : Int), ([], ())), false⟩
theorem E_cases_next_ok : E_cases_next.OK Go.Proofs.Tryz.prog := ⟨ok_cases_next, by kernel_rfl⟩
def D_cases_Cancel : FD := ⟨[(0, .leaf (.sl sCa)), (1, .leaf (.int .u32)), (2, .leaf (.int .i64))], [], [(0, .leaf (.own 16 sCa)), (1, .leaf (.int .i64))], [(16, .rows sCa)]⟩
def L_cases_Cancel : List (Nat × StD × Nat × StD) := []
noncomputable def T_cases_Cancel : List Ent := [E_cases_next, E_cases_Find]
theorem ok_cases_Cancel : FnX Go.Proofs.Tryz.prog 62 D_cases_Cancel (fun x => cases_Cancel x.1 x.2.1 x.2.2.1) :=
  FnX.of (coL_ok (es := T_cases_Cancel) (OKs.mem ⟨E_cases_next_ok, E_cases_Find_ok, trivial⟩)) mix (mkLs_ok (l := L_cases_Cancel) (by kernel_rfl)) (by kernel_rfl) Go.Proofs.Tryz.func62 rfl (by decide) (by decide) (fun x => by kernel_rfl)
noncomputable def E_cases_Cancel : Ent := ⟨62, D_cases_Cancel, fun x => cases_Cancel x.1 x.2.1 x.2.2.1, ((0 : Int), ([], ())), false⟩
theorem E_cases_Cancel_ok : E_cases_Cancel.OK Go.Proofs.Tryz.prog := ⟨ok_cases_Cancel, by kernel_rfl⟩
def D_cases_Done : FD := ⟨[(0, .leaf (.sl sCa)), (1, .leaf (.int .u32)), (2, .leaf (.int .i64))], [], [(0, .leaf (.own 16 sCa)), (1, .leaf (.int .i64))], [(16, .rows sCa)]⟩
def L_cases_Done : List (Nat × StD × Nat × StD) := []
noncomputable def T_cases_Done : List Ent := [E_cases_next]
theorem ok_cases_Done : FnX Go.Proofs.Tryz.prog 84 D_cases_Done (fun x => cases_Done x.1 x.2.1 x.2.2.1) :=
  FnX.of (coL_ok (es := T_cases_Done) (OKs.mem ⟨E_cases_next_ok, trivial⟩)) mix (mkLs_ok (l := L_cases_Done) (by kernel_rfl)) (by kernel_rfl) Go.Proofs.Tryz.func84 rfl (by decide) (by decide) (fun x => by kernel_rfl)
noncomputable def E_cases_Done : Ent := ⟨84, D_cases_Done, fun x => cases_Done x.1 x.2.1 x.2.2.1, ((0 : Int), ([], ())), false⟩
theorem E_cases_Done_ok : E_cases_Done.OK Go.Proofs.Tryz.prog := ⟨ok_cases_Done, by kernel_rfl⟩
def D_held_Take : FD := ⟨[(0, .leaf (.sl sHd)), (1, .leaf (.int .u32))], [], [(0, .leaf (.own 16 sHd)), (1, .leaf (.int .i64))], [(16, .rows sHd)]⟩
def L_held_Take : List (Nat × StD × Nat × StD) := []
noncomputable def T_held_Take : List Ent := [E_held_find]
theorem ok_held_Take : FnX Go.Proofs.Tryz.prog 45 D_held_Take (fun x => held_Take x.1 x.2.1) :=
  FnX.of (coL_ok (es := T_held_Take) (OKs.mem ⟨E_held_find_ok, trivial⟩)) mix (mkLs_ok (l := L_held_Take) (by kernel_rfl)) (by kernel_rfl) Go.Proofs.Tryz.func45 rfl (by decide) (by decide) (fun x => by kernel_rfl)
noncomputable def E_held_Take : Ent := ⟨45, D_held_Take, fun x => held_Take x.1 x.2.1, ((0 : Int), ([], ())), false⟩
theorem E_held_Take_ok : E_held_Take.OK Go.Proofs.Tryz.prog := ⟨ok_held_Take, by kernel_rfl⟩
def D_ops_execute : FD := ⟨[(0, .grp sCf), (1, .grp sSt)], [], [(0, .grp sSt)], []⟩
def L_ops_execute : List (Nat × StD × Nat × StD) := [(2, ⟨[(2, .leaf (.ptr 16 0)), (3, .leaf (.ptr 17 0)), (4, .leaf (.ptr 18 0)), (8, .leaf (.sl sCa)), (9, .leaf (.int .i64)), (10, .leaf (.int .i64))], [(16, .grp sCf), (17, .grp sSt), (18, .grp sSt)], 19, 56⟩, 0, ⟨[(3, .leaf (.ptr 16 0)), (4, .leaf (.ptr 17 0))], [(16, .grp sSt), (17, .grp sSt)], 18, 56⟩)]
noncomputable def T_ops_execute : List Ent := [E_held_Take, E_cases_Done, E_cases_Cancel, E_ops_Status]
theorem ok_ops_execute : FnX Go.Proofs.Tryz.prog 60 D_ops_execute (fun x => ops_execute x.1 x.2.1) :=
  FnX.of (coL_ok (es := T_ops_execute) (OKs.mem ⟨E_held_Take_ok, E_cases_Done_ok, E_cases_Cancel_ok, E_ops_Status_ok, trivial⟩)) mix (mkLs_ok (l := L_ops_execute) (by kernel_rfl)) (by kernel_rfl) Go.Proofs.Tryz.func60 rfl (by decide) (by decide) (fun x => by kernel_rfl)
noncomputable def E_ops_execute : Ent := ⟨60, D_ops_execute, fun x => ops_execute x.1 x.2.1, (((0 : Int), ((0 : Int), ([], ([], ([], ([], [])))))), ()), true⟩
theorem E_ops_execute_ok : E_ops_execute.OK Go.Proofs.Tryz.prog := ⟨ok_ops_execute, by kernel_rfl⟩
def D_cases_quiet_1 : FD := ⟨[(0, .grp sCa), (1, .leaf (.fpt (.int .u32) 0)), (2, .leaf (.fpt (.int .i64) 0)), (3, .leaf (.fpt sCf 0))], [], [(0, .leaf .bool)], []⟩
def L_cases_quiet_1 : List (Nat × StD × Nat × StD) := []
noncomputable def T_cases_quiet_1 : List Ent := [E_clock_Within]
theorem ok_cases_quiet_1 : FnX Go.Proofs.Tryz.prog 125 D_cases_quiet_1 (fun x => cases_quiet_1 x.1 x.2.1 x.2.2.1 x.2.2.2.1) :=
  FnX.of (coL_ok (es := T_cases_quiet_1) (OKs.mem ⟨E_clock_Within_ok, trivial⟩)) mix (mkLs_ok (l := L_cases_quiet_1) (by kernel_rfl)) (by kernel_rfl) Go.Proofs.Tryz.func125 rfl (by decide) (by decide) (fun x => by kernel_rfl)
noncomputable def E_cases_quiet_1 : Ent := ⟨125, D_cases_quiet_1, fun x => cases_quiet_1 x.1 x.2.1 x.2.2.1 x.2.2.2.1, (false, ()), false⟩
theorem E_cases_quiet_1_ok : E_cases_quiet_1.OK Go.Proofs.Tryz.prog := ⟨ok_cases_quiet_1, by kernel_rfl⟩
def D_slices_IndexFunc_v1_w2 : FD := ⟨[(0, .leaf (.sl sCa)), (1, .fn 125 [] [(.fpt (.int .u32) 0), (.fpt (.int .i64) 0), (.fpt sCf 0)])], [], [(0, .leaf (.int .i64))], []⟩
def L_slices_IndexFunc_v1_w2 : List (Nat × StD × Nat × StD) := [(2, ⟨[(0, .leaf (.sl sCa)), (1, .fn 125 [] [(.fpt (.int .u32) 0), (.fpt (.int .i64) 0), (.fpt sCf 0)]), (7, .leaf (.int .i64)), (8, .leaf (.int .i64))], [], 16, 19⟩, 0, ⟨[], [], 16, 19⟩)]
noncomputable def T_slices_IndexFunc_v1_w2 : List Ent := [E_cases_quiet_1]
theorem ok_slices_IndexFunc_v1_w2 : FnX Go.Proofs.Tryz.prog 38 D_slices_IndexFunc_v1_w2 (fun x => slices_IndexFunc_v1_w2 x.1 x.2.1 x.2.2.1 x.2.2.2.1) :=
  FnX.of (coL_ok (es := T_slices_IndexFunc_v1_w2) (OKs.mem ⟨E_cases_quiet_1_ok, trivial⟩)) mix (mkLs_ok (l := L_slices_IndexFunc_v1_w2) (by kernel_rfl)) (by kernel_rfl) Go.Proofs.Tryz.func38 rfl (by decide) (by decide) (fun x => by kernel_rfl)
noncomputable def E_slices_IndexFunc_v1_w2 : Ent := ⟨38, D_slices_IndexFunc_v1_w2, fun x => slices_IndexFunc_v1_w2 x.1 x.2.1 x.2.2.1 x.2.2.2.1, ((0 : Int), ()), false⟩
theorem E_slices_IndexFunc_v1_w2_ok : E_slices_IndexFunc_v1_w2.OK Go.Proofs.Tryz.prog := ⟨ok_slices_IndexFunc_v1_w2, by kernel_rfl⟩
def D_slices_ContainsFunc_w2 : FD := ⟨[(0, .leaf (.sl sCa)), (1, .fn 125 [] [(.fpt (.int .u32) 0), (.fpt (.int .i64) 0), (.fpt sCf 0)])], [], [(0, .leaf .bool)], []⟩
def L_slices_ContainsFunc_w2 : List (Nat × StD × Nat × StD) := []
noncomputable def T_slices_ContainsFunc_w2 : List Ent := [E_slices_IndexFunc_v1_w2]
theorem ok_slices_ContainsFunc_w2 : FnX Go.Proofs.Tryz.prog 124 D_slices_ContainsFunc_w2 (fun x => slices_ContainsFunc_w2 x.1 x.2.1 x.2.2.1 x.2.2.2.1) :=
  FnX.of (coL_ok (es := T_slices_ContainsFunc_w2) (OKs.mem ⟨E_slices_IndexFunc_v1_w2_ok, trivial⟩)) mix (mkLs_ok (l := L_slices_ContainsFunc_w2) (by kernel_rfl)) (by kernel_rfl) Go.Proofs.Tryz.func124 rfl (by decide) (by decide) (fun x => by kernel_rfl)
noncomputable def E_slices_ContainsFunc_w2 : Ent := ⟨124, D_slices_ContainsFunc_w2, fun x => slices_ContainsFunc_w2 x.1 x.2.1 x.2.2.1 x.2.2.2.1, (false, ()), false⟩
theorem E_slices_ContainsFunc_w2_ok : E_slices_ContainsFunc_w2.OK Go.Proofs.Tryz.prog := ⟨ok_slices_ContainsFunc_w2, by kernel_rfl⟩
def D_cases_quiet : FD := ⟨[(0, .grp sCf), (1, .leaf (.sl sCa)), (2, .leaf (.int .u32)), (3, .leaf (.int .i64))], [], [(0, .leaf .bool)], []⟩
def L_cases_quiet : List (Nat × StD × Nat × StD) := []
noncomputable def T_cases_quiet : List Ent := [E_slices_ContainsFunc_w2]
theorem ok_cases_quiet : FnX Go.Proofs.Tryz.prog 107 D_cases_quiet (fun x => cases_quiet x.1 x.2.1 x.2.2.1 x.2.2.2.1) :=
  FnX.of (coL_ok (es := T_cases_quiet) (OKs.mem ⟨E_slices_ContainsFunc_w2_ok, trivial⟩)) mix (mkLs_ok (l := L_cases_quiet) (by kernel_rfl)) (by kernel_rfl) Go.Proofs.Tryz.func107 rfl (by decide) (by decide) (fun x => by kernel_rfl)
noncomputable def E_cases_quiet : Ent := ⟨107, D_cases_quiet, fun x => cases_quiet x.1 x.2.1 x.2.2.1 x.2.2.2.1, (false, ()), false⟩
theorem E_cases_quiet_ok : E_cases_quiet.OK Go.Proofs.Tryz.prog := ⟨ok_cases_quiet, by kernel_rfl⟩
def D_cases_spare : FD := ⟨[(0, .grp sCf), (1, .leaf (.sl sCa)), (2, .leaf (.int .i64))], [], [(0, .leaf (.int .i64))], []⟩
def L_cases_spare : List (Nat × StD × Nat × StD) := [(3, ⟨[(1, .leaf (.sl sCa)), (2, .leaf (.int .i64)), (3, .leaf (.ptr 16 0)), (7, .leaf (.int .i64)), (10, .leaf (.sl sCa)), (11, .leaf (.int .i64)), (12, .leaf (.int .i64))], [(16, .grp sCf)], 17, 47⟩, 0, ⟨[(7, .leaf (.int .i64))], [], 16, 47⟩)]
noncomputable def T_cases_spare : List Ent := [E_clock_Within, E_cases_Open]
theorem ok_cases_spare : FnX Go.Proofs.Tryz.prog 108 D_cases_spare (fun x => cases_spare x.1 x.2.1 x.2.2.1) :=
  FnX.of (coL_ok (es := T_cases_spare) (OKs.mem ⟨E_clock_Within_ok, E_cases_Open_ok, trivial⟩)) mix (mkLs_ok (l := L_cases_spare) (by kernel_rfl)) (by kernel_rfl) Go.Proofs.Tryz.func108 rfl (by decide) (by decide) (fun x => by kernel_rfl)
noncomputable def E_cases_spare : Ent := ⟨108, D_cases_spare, fun x => cases_spare x.1 x.2.1 x.2.2.1, ((0 : Int), ()), false⟩
theorem E_cases_spare_ok : E_cases_spare.OK Go.Proofs.Tryz.prog := ⟨ok_cases_spare, by kernel_rfl⟩
def D_slices_Delete_Case : FD := D_Delete sCa
theorem ok_slices_Delete_Case : FnX Go.Proofs.Tryz.prog 109 D_slices_Delete_Case (fun x => slices_Delete_Case x.1 x.2.1 x.2.2.1) :=
  X_Delete ⟨_, Go.Proofs.Tryz.func109, by decide, rfl⟩ Go.Proofs.Tryz.gdelete109 rfl (by kernel_rfl) (by decide) (by kernel_rfl) (by kernel_rfl) Go.Proofs.Tryz.zeroValue67 Go.Proofs.Tryz.sizeOf67
noncomputable def E_slices_Delete_Case : Ent := ⟨109, D_slices_Delete_Case, fun x => slices_Delete_Case x.1 x.2.1 x.2.2.1, ([], ()), false⟩
theorem E_slices_Delete_Case_ok : E_slices_Delete_Case.OK Go.Proofs.Tryz.prog := ⟨ok_slices_Delete_Case, by kernel_rfl⟩
def D_cases_Raise : FD := ⟨[(0, .grp sCf), (1, .leaf (.sl sCa)), (2, .leaf (.int .u32)), (3, .leaf (.int .i64))], [], [(0, .leaf (.own 16 sCa)), (1, .leaf (.int .i64))], [(16, .rows sCa)]⟩
def L_cases_Raise : List (Nat × StD × Nat × StD) := []
noncomputable def T_cases_Raise : List Ent := [E_clock_Clamp, E_slices_Delete_Case, E_cases_spare, E_slices_Clone_Case, E_cases_quiet, E_cases_Find]
theorem ok_cases_Raise : FnX Go.Proofs.Tryz.prog 85 D_cases_Raise (fun x => cases_Raise x.1 x.2.1 x.2.2.1 x.2.2.2.1) :=
  FnX.of (coL_ok (es := T_cases_Raise) (OKs.mem ⟨E_clock_Clamp_ok, E_slices_Delete_Case_ok, E_cases_spare_ok, E_slices_Clone_Case_ok, E_cases_quiet_ok, E_cases_Find_ok, trivial⟩)) mix (mkLs_ok (l := L_cases_Raise) (by kernel_rfl)) (by kernel_rfl) Go.Proofs.Tryz.func85 rfl (by decide) (by decide) (fun x => by kernel_rfl)
noncomputable def E_cases_Raise : Ent := ⟨85, D_cases_Raise, fun x => cases_Raise x.1 x.2.1 x.2.2.1 x.2.2.2.1, ((0 : Int), ([], ())), false⟩
theorem E_cases_Raise_ok : E_cases_Raise.OK Go.Proofs.Tryz.prog := ⟨ok_cases_Raise, by kernel_rfl⟩
def D_ops_raise : FD := ⟨[(0, .grp sCf), (1, .grp sSt)], [], [(0, .grp sSt)], []⟩
def L_ops_raise : List (Nat × StD × Nat × StD) := [(2, ⟨[(2, .leaf (.ptr 16 0)), (3, .leaf (.ptr 17 0)), (4, .leaf (.ptr 18 0)), (10, .leaf (.sl sHd)), (11, .leaf (.int .i64)), (12, .leaf (.int .i64))], [(16, .grp sCf), (17, .grp sSt), (18, .grp sSt)], 19, 39⟩, 0, ⟨[(3, .leaf (.ptr 16 0)), (4, .leaf (.ptr 17 0))], [(16, .grp sSt), (17, .grp sSt)], 18, 39⟩)]
noncomputable def T_ops_raise : List Ent := [E_cases_Raise, E_ops_Status]
theorem ok_ops_raise : FnX Go.Proofs.Tryz.prog 59 D_ops_raise (fun x => ops_raise x.1 x.2.1) :=
  FnX.of (coL_ok (es := T_ops_raise) (OKs.mem ⟨E_cases_Raise_ok, E_ops_Status_ok, trivial⟩)) mix (mkLs_ok (l := L_ops_raise) (by kernel_rfl)) (by kernel_rfl) Go.Proofs.Tryz.func59 rfl (by decide) (by decide) (fun x => by kernel_rfl)
noncomputable def E_ops_raise : Ent := ⟨59, D_ops_raise, fun x => ops_raise x.1 x.2.1, (((0 : Int), ((0 : Int), ([], ([], ([], ([], [])))))), ()), true⟩
theorem E_ops_raise_ok : E_ops_raise.OK Go.Proofs.Tryz.prog := ⟨ok_ops_raise, by kernel_rfl⟩
def D_seen_Last : FD := ⟨[(0, .leaf (.sl sKn)), (1, .leaf (.int .u32))], [], [(0, .leaf (.int .i64)), (1, .leaf .bool)], []⟩
def L_seen_Last : List (Nat × StD × Nat × StD) := []
noncomputable def T_seen_Last : List Ent := [E_seen_find]
theorem ok_seen_Last : FnX Go.Proofs.Tryz.prog 17 D_seen_Last (fun x => seen_Last x.1 x.2.1) :=
  FnX.of (coL_ok (es := T_seen_Last) (OKs.mem ⟨E_seen_find_ok, trivial⟩)) mix (mkLs_ok (l := L_seen_Last) (by kernel_rfl)) (by kernel_rfl) Go.Proofs.Tryz.func17 rfl (by decide) (by decide) (fun x => by kernel_rfl)
noncomputable def E_seen_Last : Ent := ⟨17, D_seen_Last, fun x => seen_Last x.1 x.2.1, ((0 : Int), (false, ())), false⟩
theorem E_seen_Last_ok : E_seen_Last.OK Go.Proofs.Tryz.prog := ⟨ok_seen_Last, by kernel_rfl⟩
def D_ops_forget_1 : FD := ⟨[(0, .leaf (.int .u32)), (1, .leaf (.ptr 0 0)), (2, .leaf (.ptr 1 0))], [(0, .cells [(.int .i64), (.int .i64), (.sl sHd), (.sl sSw), (.sl sKn), (.sl sPr), (.sl sCa)]), (1, .cells [(.int .i64), (.int .i64), (.int .i64), (.int .i64), (.int .i64), (.int .i64), (.int .i64), (.int .i64), (.int .i64)])], [(0, .leaf .bool)], [(0, .cells [(.int .i64), (.int .i64), (.sl sHd), (.sl sSw), (.sl sKn), (.sl sPr), (.sl sCa)]), (1, .cells [(.int .i64), (.int .i64), (.int .i64), (.int .i64), (.int .i64), (.int .i64), (.int .i64), (.int .i64), (.int .i64)])]⟩
def L_ops_forget_1 : List (Nat × StD × Nat × StD) := []
noncomputable def T_ops_forget_1 : List Ent := [E_clock_Within, E_seen_Last, E_held_Get]
theorem ok_ops_forget_1 : FnX Go.Proofs.Tryz.prog 97 D_ops_forget_1 (fun x => ops_forget_1 x.1 x.2.1 x.2.2.1 x.2.2.2.1 x.2.2.2.2.1 x.2.2.2.2.2.1 x.2.2.2.2.2.2.1 x.2.2.2.2.2.2.2.1 x.2.2.2.2.2.2.2.2.1 x.2.2.2.2.2.2.2.2.2.1 x.2.2.2.2.2.2.2.2.2.2.1 x.2.2.2.2.2.2.2.2.2.2.2.1 x.2.2.2.2.2.2.2.2.2.2.2.2.1 x.2.2.2.2.2.2.2.2.2.2.2.2.2.1 x.2.2.2.2.2.2.2.2.2.2.2.2.2.2.1 x.2.2.2.2.2.2.2.2.2.2.2.2.2.2.2.1 x.2.2.2.2.2.2.2.2.2.2.2.2.2.2.2.2.1) :=
  FnX.of (coL_ok (es := T_ops_forget_1) (OKs.mem ⟨E_clock_Within_ok, E_seen_Last_ok, E_held_Get_ok, trivial⟩)) mix (mkLs_ok (l := L_ops_forget_1) (by kernel_rfl)) (by kernel_rfl) Go.Proofs.Tryz.func97 rfl (by decide) (by decide) (fun x => by kernel_rfl)
noncomputable def E_ops_forget_1 : Ent := ⟨97, D_ops_forget_1, fun x => ops_forget_1 x.1 x.2.1 x.2.2.1 x.2.2.2.1 x.2.2.2.2.1 x.2.2.2.2.2.1 x.2.2.2.2.2.2.1 x.2.2.2.2.2.2.2.1 x.2.2.2.2.2.2.2.2.1 x.2.2.2.2.2.2.2.2.2.1 x.2.2.2.2.2.2.2.2.2.2.1 x.2.2.2.2.2.2.2.2.2.2.2.1 x.2.2.2.2.2.2.2.2.2.2.2.2.1 x.2.2.2.2.2.2.2.2.2.2.2.2.2.1 x.2.2.2.2.2.2.2.2.2.2.2.2.2.2.1 x.2.2.2.2.2.2.2.2.2.2.2.2.2.2.2.1 x.2.2.2.2.2.2.2.2.2.2.2.2.2.2.2.2.1, (false, ((0 : Int), ((0 : Int), ([], ([], ([], ([], ([], ((0 : Int), ((0 : Int), ((0 : Int), ((0 : Int), ((0 : Int), ((0 : Int), ((0 : Int), ((0 : Int), ((0 : Int), ()))))))))))))))))), true⟩
theorem E_ops_forget_1_ok : E_ops_forget_1.OK Go.Proofs.Tryz.prog := ⟨ok_ops_forget_1, by kernel_rfl⟩
def D_seen_Forget : FD := ⟨[(0, .leaf (.sl sKn)), (1, .fn 97 [] [(.ptr 0 0), (.ptr 1 0)])], [(0, .grp sSt), (1, .grp sCf)], [(0, .leaf (.own 16 sKn))], [(0, .grp sSt), (1, .grp sCf), (16, .rows sKn)]⟩
def L_seen_Forget : List (Nat × StD × Nat × StD) := [(3, ⟨[(1, .fn 97 [] [(.ptr 0 0), (.ptr 1 0)]), (5, .leaf (.own 16 sKn)), (8, .leaf (.sl sKn)), (9, .leaf (.int .i64)), (10, .leaf (.int .i64))], [(16, .rows sKn), (0, .cells [(.int .i64), (.int .i64), (.sl sHd), (.sl sSw), (.sl sKn), (.sl sPr), (.sl sCa)]), (1, .cells [(.int .i64), (.int .i64), (.int .i64), (.int .i64), (.int .i64), (.int .i64), (.int .i64), (.int .i64), (.int .i64)])], 17, 24⟩, 0, ⟨[(5, .leaf (.own 16 sKn))], [(0, .cells [(.int .i64), (.int .i64), (.sl sHd), (.sl sSw), (.sl sKn), (.sl sPr), (.sl sCa)]), (1, .cells [(.int .i64), (.int .i64), (.int .i64), (.int .i64), (.int .i64), (.int .i64), (.int .i64), (.int .i64), (.int .i64)]), (16, .rows sKn)], 17, 24⟩)]
noncomputable def T_seen_Forget : List Ent := [E_ops_forget_1]
theorem ok_seen_Forget : FnX Go.Proofs.Tryz.prog 96 D_seen_Forget (fun x => seen_Forget x.1 x.2.1 x.2.2.1) :=
  FnX.of (coL_ok (es := T_seen_Forget) (OKs.mem ⟨E_ops_forget_1_ok, trivial⟩)) mix (mkLs_ok (l := L_seen_Forget) (by kernel_rfl)) (by kernel_rfl) Go.Proofs.Tryz.func96 rfl (by decide) (by decide) (fun x => by kernel_rfl)
noncomputable def E_seen_Forget : Ent := ⟨96, D_seen_Forget, fun x => seen_Forget x.1 x.2.1 x.2.2.1, (((0 : Int), ((0 : Int), ([], ([], ([], ([], [])))))), (((0 : Int), ((0 : Int), ((0 : Int), ((0 : Int), ((0 : Int), ((0 : Int), ((0 : Int), ((0 : Int), (0 : Int))))))))), ([], ()))), true⟩
theorem E_seen_Forget_ok : E_seen_Forget.OK Go.Proofs.Tryz.prog := ⟨ok_seen_Forget, by kernel_rfl⟩
def D_ops_forget : FD := ⟨[(0, .grp sCf), (1, .grp sSt)], [], [(0, .grp sSt)], []⟩
def L_ops_forget : List (Nat × StD × Nat × StD) := []
noncomputable def T_ops_forget : List Ent := [E_seen_Forget]
theorem ok_ops_forget : FnX Go.Proofs.Tryz.prog 58 D_ops_forget (fun x => ops_forget x.1 x.2.1) :=
  FnX.of (coL_ok (es := T_ops_forget) (OKs.mem ⟨E_seen_Forget_ok, trivial⟩)) mix (mkLs_ok (l := L_ops_forget) (by kernel_rfl)) (by kernel_rfl) Go.Proofs.Tryz.func58 rfl (by decide) (by decide) (fun x => by kernel_rfl)
noncomputable def E_ops_forget : Ent := ⟨58, D_ops_forget, fun x => ops_forget x.1 x.2.1, (((0 : Int), ((0 : Int), ([], ([], ([], ([], [])))))), ()), true⟩
theorem E_ops_forget_ok : E_ops_forget.OK Go.Proofs.Tryz.prog := ⟨ok_ops_forget, by kernel_rfl⟩
def D_probe_Late : FD := ⟨[(0, .grp sCf), (1, .leaf (.sl sPr)), (2, .leaf (.int .i64)), (3, .leaf (.int .i64))], [], [(0, .leaf (.own 16 sPr)), (1, .leaf (.sl sPr))], [(16, .rows sPr)]⟩
def L_probe_Late : List (Nat × StD × Nat × StD) := [(3, ⟨[(2, .leaf (.int .i64)), (3, .leaf (.int .i64)), (4, .leaf (.ptr 16 0)), (10, .leaf (.own 17 sPr)), (11, .leaf (.own 18 sPr)), (14, .leaf (.sl sPr)), (15, .leaf (.int .i64)), (16, .leaf (.int .i64))], [(17, .rows sPr), (18, .rows sPr), (16, .grp sCf)], 19, 58⟩, 0, ⟨[(10, .leaf (.own 16 sPr)), (11, .leaf (.own 17 sPr))], [(16, .rows sPr), (17, .rows sPr)], 18, 58⟩)]
noncomputable def T_probe_Late : List Ent := [E_clock_Clamp, E_clock_Since]
theorem ok_probe_Late : FnX Go.Proofs.Tryz.prog 86 D_probe_Late (fun x => probe_Late x.1 x.2.1 x.2.2.1 x.2.2.2.1) :=
  FnX.of (coL_ok (es := T_probe_Late) (OKs.mem ⟨E_clock_Clamp_ok, E_clock_Since_ok, trivial⟩)) mix (mkLs_ok (l := L_probe_Late) (by kernel_rfl)) (by kernel_rfl) Go.Proofs.Tryz.func86 rfl (by decide) (by decide) (fun x => by kernel_rfl)
noncomputable def E_probe_Late : Ent := ⟨86, D_probe_Late, fun x => probe_Late x.1 x.2.1 x.2.2.1 x.2.2.2.1, ([], ([], ())), true⟩
theorem E_probe_Late_ok : E_probe_Late.OK Go.Proofs.Tryz.prog := ⟨ok_probe_Late, by kernel_rfl⟩
def D_probe_Packet : FD := ⟨[(0, .grp sPr)], [], [(0, .grp sPk)], []⟩
def L_probe_Packet : List (Nat × StD × Nat × StD) := []
noncomputable def T_probe_Packet : List Ent := []
theorem ok_probe_Packet : FnX Go.Proofs.Tryz.prog 94 D_probe_Packet (fun x => probe_Packet x.1) :=
  FnX.of (coL_ok (es := T_probe_Packet) (OKs.mem trivial)) mix (mkLs_ok (l := L_probe_Packet) (by kernel_rfl)) (by kernel_rfl) Go.Proofs.Tryz.func94 rfl (by decide) (by decide) (fun x => by kernel_rfl)
noncomputable def E_probe_Packet : Ent := ⟨94, D_probe_Packet, fun x => probe_Packet x.1, ((false, ((0 : Int), ((0 : Int), (((0 : Int), ((0 : Int), ((0 : Int), ((0 : Int), ((0 : Int), (0 : Int)))))), ((0 : Int), (0 : Int)))))), ()), false⟩
theorem E_probe_Packet_ok : E_probe_Packet.OK Go.Proofs.Tryz.prog := ⟨ok_probe_Packet, by kernel_rfl⟩
def D_slices_Clone_Sweep : FD := D_Clone sSw
theorem ok_slices_Clone_Sweep : FnX Go.Proofs.Tryz.prog 68 D_slices_Clone_Sweep (fun x => slices_Clone_Sweep x.1) :=
  X_Clone ⟨_, Go.Proofs.Tryz.func68, by decide, rfl⟩ Go.Proofs.Tryz.gclone68 rfl (by kernel_rfl) (by decide) (by decide) Go.Proofs.Tryz.sizeOf93
noncomputable def E_slices_Clone_Sweep : Ent := ⟨68, D_slices_Clone_Sweep, fun x => slices_Clone_Sweep x.1, ([], ()), false⟩
theorem E_slices_Clone_Sweep_ok : E_slices_Clone_Sweep.OK Go.Proofs.Tryz.prog := ⟨ok_slices_Clone_Sweep, by kernel_rfl⟩
def D_sweep_order_1 : FD := ⟨[(0, .leaf (.int .i64)), (1, .leaf (.int .i64)), (2, .leaf (.fpt (.sl sSw) 0))], [], [(0, .leaf (.int .i64))], []⟩
def L_sweep_order_1 : List (Nat × StD × Nat × StD) := []
noncomputable def T_sweep_order_1 : List Ent := []
theorem ok_sweep_order_1 : FnX Go.Proofs.Tryz.prog 127 D_sweep_order_1 (fun x => sweep_order_1 x.1 x.2.1 x.2.2.1) :=
  FnX.of (coL_ok (es := T_sweep_order_1) (OKs.mem trivial)) mix (mkLs_ok (l := L_sweep_order_1) (by kernel_rfl)) (by kernel_rfl) Go.Proofs.Tryz.func127 rfl (by decide) (by decide) (fun x => by kernel_rfl)
noncomputable def E_sweep_order_1 : Ent := ⟨127, D_sweep_order_1, fun x => sweep_order_1 x.1 x.2.1 x.2.2.1, ((0 : Int), ()), false⟩
theorem E_sweep_order_1_ok : E_sweep_order_1.OK Go.Proofs.Tryz.prog := ⟨ok_sweep_order_1, by kernel_rfl⟩
def D_slices_insertionSortCmpFunc_int_ : FD := ⟨[(0, .leaf (.own 0 (.int .i64))), (1, .leaf (.int .i64)), (2, .leaf (.int .i64)), (3, .fn 127 [] [(.ptr 1 0)])], [(0, .rows (.int .i64)), (1, .cells [(.sl sSw)])], [], [(0, .rows (.int .i64)), (1, .cells [(.sl sSw)])]⟩
def L_slices_insertionSortCmpFunc_int_ : List (Nat × StD × Nat × StD) := [(1, ⟨[(0, .leaf (.own 0 (.int .i64))), (1, .leaf (.int .i64)), (2, .leaf (.int .i64)), (3, .fn 127 [] [(.ptr 1 0)]), (8, .leaf (.int .i64))], [(0, .rows (.int .i64)), (1, .cells [(.sl sSw)])], 16, 53⟩, 0, ⟨[], [(0, .rows (.int .i64)), (1, .cells [(.sl sSw)])], 16, 53⟩), (4, ⟨[(0, .leaf (.own 0 (.int .i64))), (1, .leaf (.int .i64)), (2, .leaf (.int .i64)), (3, .fn 127 [] [(.ptr 1 0)]), (8, .leaf (.int .i64)), (9, .leaf (.int .i64))], [(0, .rows (.int .i64)), (1, .cells [(.sl sSw)])], 16, 53⟩, 2, ⟨[(0, .leaf (.own 0 (.int .i64))), (1, .leaf (.int .i64)), (2, .leaf (.int .i64)), (3, .fn 127 [] [(.ptr 1 0)]), (8, .leaf (.int .i64))], [(0, .rows (.int .i64)), (1, .cells [(.sl sSw)])], 16, 53⟩)]
noncomputable def T_slices_insertionSortCmpFunc_int_ : List Ent := [E_sweep_order_1]
theorem ok_slices_insertionSortCmpFunc_int_ : FnX Go.Proofs.Tryz.prog 135 D_slices_insertionSortCmpFunc_int_ (fun x => slices_insertionSortCmpFunc_int_ x.1 x.2.1 x.2.2.1 x.2.2.2.1) :=
  FnX.of (coL_ok (es := T_slices_insertionSortCmpFunc_int_) (OKs.mem ⟨E_sweep_order_1_ok, trivial⟩)) mix (mkLs_ok (l := L_slices_insertionSortCmpFunc_int_) (by kernel_rfl)) (by kernel_rfl) Go.Proofs.Tryz.func135 rfl (by decide) (by decide) (fun x => by kernel_rfl)
noncomputable def E_slices_insertionSortCmpFunc_int_ : Ent := ⟨135, D_slices_insertionSortCmpFunc_int_, fun x => slices_insertionSortCmpFunc_int_ x.1 x.2.1 x.2.2.1 x.2.2.2.1, ([], ([], ())), true⟩
theorem E_slices_insertionSortCmpFunc_int__ok : E_slices_insertionSortCmpFunc_int_.OK Go.Proofs.Tryz.prog := ⟨ok_slices_insertionSortCmpFunc_int_, by kernel_rfl⟩
def D_slices_symMergeCmpFunc_int__none : FD := ⟨[(0, .leaf (.sl (.int .i64))), (1, .leaf (.int .i64)), (2, .leaf (.int .i64)), (3, .leaf (.int .i64)), (4, .fn 127 [] [(.fpt (.sl sSw) 0)])], [], [], []⟩
theorem ok_slices_symMergeCmpFunc_int__none : FnX Go.Proofs.Tryz.prog 136 D_slices_symMergeCmpFunc_int__none (fun x => slices_symMergeCmpFunc_int__none x.1 x.2.1 x.2.2.1 x.2.2.2.1 x.2.2.2.2.1) := FnX.none ⟨_, Go.Proofs.Tryz.func136, by decide, rfl⟩
noncomputable def E_slices_symMergeCmpFunc_int__none : Ent := ⟨136, D_slices_symMergeCmpFunc_int__none, fun x => slices_symMergeCmpFunc_int__none x.1 x.2.1 x.2.2.1 x.2.2.2.1 x.2.2.2.2.1, (), false⟩
theorem E_slices_symMergeCmpFunc_int__none_ok : E_slices_symMergeCmpFunc_int__none.OK Go.Proofs.Tryz.prog := ⟨ok_slices_symMergeCmpFunc_int__none, by kernel_rfl⟩
def D_slices_stableCmpFunc_int_ : FD := ⟨[(0, .leaf (.own 0 (.int .i64))), (1, .leaf (.int .i64)), (2, .fn 127 [] [(.ptr 1 0)])], [(0, .rows (.int .i64)), (1, .cells [(.sl sSw)])], [], [(0, .rows (.int .i64)), (1, .cells [(.sl sSw)])]⟩
def L_slices_stableCmpFunc_int_ : List (Nat × StD × Nat × StD) := [(2, ⟨[(0, .leaf (.own 0 (.int .i64))), (1, .leaf (.int .i64)), (2, .fn 127 [] [(.ptr 1 0)]), (6, .leaf (.int .i64)), (7, .leaf (.int .i64)), (8, .leaf (.int .i64))], [(0, .rows (.int .i64)), (1, .cells [(.sl sSw)])], 16, 63⟩, 0, ⟨[(0, .leaf (.own 0 (.int .i64))), (1, .leaf (.int .i64)), (2, .fn 127 [] [(.ptr 1 0)]), (6, .leaf (.int .i64)), (7, .leaf (.int .i64))], [(0, .rows (.int .i64)), (1, .cells [(.sl sSw)])], 16, 63⟩), (7, ⟨[(0, .leaf (.own 0 (.int .i64))), (1, .leaf (.int .i64)), (2, .fn 127 [] [(.ptr 1 0)]), (6, .leaf (.int .i64))], [(0, .rows (.int .i64)), (1, .cells [(.sl sSw)])], 16, 63⟩, 2, ⟨[], [(0, .rows (.int .i64)), (1, .cells [(.sl sSw)])], 16, 63⟩), (9, ⟨[(0, .leaf (.own 0 (.int .i64))), (1, .leaf (.int .i64)), (2, .fn 127 [] [(.ptr 1 0)]), (6, .leaf (.int .i64)), (7, .leaf (.int .i64)), (8, .leaf (.int .i64))], [(0, .rows (.int .i64)), (1, .cells [(.sl sSw)])], 16, 63⟩, 4, ⟨[(0, .leaf (.own 0 (.int .i64))), (1, .leaf (.int .i64)), (2, .fn 127 [] [(.ptr 1 0)]), (6, .leaf (.int .i64)), (7, .leaf (.int .i64))], [(0, .rows (.int .i64)), (1, .cells [(.sl sSw)])], 16, 63⟩)]
noncomputable def T_slices_stableCmpFunc_int_ : List Ent := [E_slices_symMergeCmpFunc_int__none, E_slices_insertionSortCmpFunc_int_]
theorem ok_slices_stableCmpFunc_int_ : FnX Go.Proofs.Tryz.prog 133 D_slices_stableCmpFunc_int_ (fun x => slices_stableCmpFunc_int_ x.1 x.2.1 x.2.2.1) :=
  FnX.of (coL_ok (es := T_slices_stableCmpFunc_int_) (OKs.mem ⟨E_slices_symMergeCmpFunc_int__none_ok, E_slices_insertionSortCmpFunc_int__ok, trivial⟩)) mix (mkLs_ok (l := L_slices_stableCmpFunc_int_) (by kernel_rfl)) (by kernel_rfl) Go.Proofs.Tryz.func133 rfl (by decide) (by decide) (fun x => by kernel_rfl)
noncomputable def E_slices_stableCmpFunc_int_ : Ent := ⟨133, D_slices_stableCmpFunc_int_, fun x => slices_stableCmpFunc_int_ x.1 x.2.1 x.2.2.1, ([], ([], ())), true⟩
theorem E_slices_stableCmpFunc_int__ok : E_slices_stableCmpFunc_int_.OK Go.Proofs.Tryz.prog := ⟨ok_slices_stableCmpFunc_int_, by kernel_rfl⟩
def D_slices_SortStableFunc___int_int_ : FD := ⟨[(0, .leaf (.own 0 (.int .i64))), (1, .fn 127 [] [(.ptr 1 0)])], [(0, .rows (.int .i64)), (1, .cells [(.sl sSw)])], [], [(0, .rows (.int .i64)), (1, .cells [(.sl sSw)])]⟩
def L_slices_SortStableFunc___int_int_ : List (Nat × StD × Nat × StD) := []
noncomputable def T_slices_SortStableFunc___int_int_ : List Ent := [E_slices_stableCmpFunc_int_]
theorem ok_slices_SortStableFunc___int_int_ : FnX Go.Proofs.Tryz.prog 126 D_slices_SortStableFunc___int_int_ (fun x => slices_SortStableFunc___int_int_ x.1 x.2.1) :=
  FnX.of (coL_ok (es := T_slices_SortStableFunc___int_int_) (OKs.mem ⟨E_slices_stableCmpFunc_int__ok, trivial⟩)) mix (mkLs_ok (l := L_slices_SortStableFunc___int_int_) (by kernel_rfl)) (by kernel_rfl) Go.Proofs.Tryz.func126 rfl (by decide) (by decide) (fun x => by kernel_rfl)
noncomputable def E_slices_SortStableFunc___int_int_ : Ent := ⟨126, D_slices_SortStableFunc___int_int_, fun x => slices_SortStableFunc___int_int_ x.1 x.2.1, ([], ([], ())), true⟩
theorem E_slices_SortStableFunc___int_int__ok : E_slices_SortStableFunc___int_int_.OK Go.Proofs.Tryz.prog := ⟨ok_slices_SortStableFunc___int_int_, by kernel_rfl⟩
def D_sweep_order : FD := ⟨[(0, .leaf (.sl sSw)), (1, .leaf (.int .i64))], [], [(0, .leaf (.own 16 (.int .i64)))], [(16, .rows (.int .i64))]⟩
def L_sweep_order : List (Nat × StD × Nat × StD) := [(3, ⟨[(1, .leaf (.int .i64)), (2, .leaf (.ptr 16 0)), (5, .leaf (.own 17 (.int .i64))), (8, .leaf (.sl sSw)), (9, .leaf (.int .i64)), (10, .leaf (.int .i64))], [(17, .rows (.int .i64)), (16, .cells [(.sl sSw)])], 18, 28⟩, 0, ⟨[(2, .leaf (.ptr 16 0)), (5, .leaf (.own 17 (.int .i64)))], [(16, .cells [(.sl sSw)]), (17, .rows (.int .i64))], 18, 28⟩)]
noncomputable def T_sweep_order : List Ent := [E_slices_SortStableFunc___int_int_]
theorem ok_sweep_order : FnX Go.Proofs.Tryz.prog 110 D_sweep_order (fun x => sweep_order x.1 x.2.1) :=
  FnX.of (coL_ok (es := T_sweep_order) (OKs.mem ⟨E_slices_SortStableFunc___int_int__ok, trivial⟩)) mix (mkLs_ok (l := L_sweep_order) (by kernel_rfl)) (by kernel_rfl) Go.Proofs.Tryz.func110 rfl (by decide) (by decide) (fun x => by kernel_rfl)
noncomputable def E_sweep_order : Ent := ⟨110, D_sweep_order, fun x => sweep_order x.1 x.2.1, ([], ()), false⟩
theorem E_sweep_order_ok : E_sweep_order.OK Go.Proofs.Tryz.prog := ⟨ok_sweep_order, by kernel_rfl⟩
def D_addr_mask : FD := ⟨[(0, .leaf (.int .i64))], [], [(0, .leaf (.int .u32))], []⟩
def L_addr_mask : List (Nat × StD × Nat × StD) := []
noncomputable def T_addr_mask : List Ent := []
theorem ok_addr_mask : FnX Go.Proofs.Tryz.prog 98 D_addr_mask (fun x => addr_mask x.1) :=
  FnX.of (coL_ok (es := T_addr_mask) (OKs.mem trivial)) mix (mkLs_ok (l := L_addr_mask) (by kernel_rfl)) (by kernel_rfl) Go.Proofs.Tryz.func98 rfl (by decide) (by decide) (fun x => by kernel_rfl)
noncomputable def E_addr_mask : Ent := ⟨98, D_addr_mask, fun x => addr_mask x.1, ((0 : Int), ()), false⟩
theorem E_addr_mask_ok : E_addr_mask.OK Go.Proofs.Tryz.prog := ⟨ok_addr_mask, by kernel_rfl⟩
def D_addr_Right : FD := ⟨[(0, .grp sBk)], [], [(0, .leaf .bool)], []⟩
def L_addr_Right : List (Nat × StD × Nat × StD) := []
noncomputable def T_addr_Right : List Ent := [E_addr_mask]
theorem ok_addr_Right : FnX Go.Proofs.Tryz.prog 63 D_addr_Right (fun x => addr_Right x.1) :=
  FnX.of (coL_ok (es := T_addr_Right) (OKs.mem ⟨E_addr_mask_ok, trivial⟩)) mix (mkLs_ok (l := L_addr_Right) (by kernel_rfl)) (by kernel_rfl) Go.Proofs.Tryz.func63 rfl (by decide) (by decide) (fun x => by kernel_rfl)
noncomputable def E_addr_Right : Ent := ⟨63, D_addr_Right, fun x => addr_Right x.1, (false, ()), false⟩
theorem E_addr_Right_ok : E_addr_Right.OK Go.Proofs.Tryz.prog := ⟨ok_addr_Right, by kernel_rfl⟩
def D_addr_Size : FD := ⟨[(0, .grp sBk)], [], [(0, .leaf (.int .i64))], []⟩
def L_addr_Size : List (Nat × StD × Nat × StD) := []
noncomputable def T_addr_Size : List Ent := [E_addr_Right]
theorem ok_addr_Size : FnX Go.Proofs.Tryz.prog 64 D_addr_Size (fun x => addr_Size x.1) :=
  FnX.of (coL_ok (es := T_addr_Size) (OKs.mem ⟨E_addr_Right_ok, trivial⟩)) mix (mkLs_ok (l := L_addr_Size) (by kernel_rfl)) (by kernel_rfl) Go.Proofs.Tryz.func64 rfl (by decide) (by decide) (fun x => by kernel_rfl)
noncomputable def E_addr_Size : Ent := ⟨64, D_addr_Size, fun x => addr_Size x.1, ((0 : Int), ()), false⟩
theorem E_addr_Size_ok : E_addr_Size.OK Go.Proofs.Tryz.prog := ⟨ok_addr_Size, by kernel_rfl⟩
def D_addr_At : FD := ⟨[(0, .grp sBk), (1, .leaf (.int .i64))], [], [(0, .leaf (.int .u32)), (1, .leaf .bool)], []⟩
def L_addr_At : List (Nat × StD × Nat × StD) := []
noncomputable def T_addr_At : List Ent := [E_addr_Size]
theorem ok_addr_At : FnX Go.Proofs.Tryz.prog 111 D_addr_At (fun x => addr_At x.1 x.2.1) :=
  FnX.of (coL_ok (es := T_addr_At) (OKs.mem ⟨E_addr_Size_ok, trivial⟩)) mix (mkLs_ok (l := L_addr_At) (by kernel_rfl)) (by kernel_rfl) Go.Proofs.Tryz.func111 rfl (by decide) (by decide) (fun x => by kernel_rfl)
noncomputable def E_addr_At : Ent := ⟨111, D_addr_At, fun x => addr_At x.1 x.2.1, ((0 : Int), (false, ())), false⟩
theorem E_addr_At_ok : E_addr_At.OK Go.Proofs.Tryz.prog := ⟨ok_addr_At, by kernel_rfl⟩
def D_sweep_Plan_w1 : FD := ⟨[(0, .grp sCf), (1, .leaf (.sl sSw)), (2, .leaf (.int .i64)), (3, .leaf (.int .i64))], [], [(0, .leaf (.own 16 sSw)), (1, .leaf (.sl (.int .u32)))], [(16, .rows sSw)]⟩
def L_sweep_Plan_w1 : List (Nat × StD × Nat × StD) := [(4, ⟨[(3, .leaf (.int .i64)), (4, .leaf (.ptr 16 0)), (10, .leaf (.own 17 sSw)), (11, .leaf (.own 18 (.int .u32))), (21, .leaf (.own 19 (.int .i64))), (22, .leaf (.int .i64)), (23, .leaf (.int .i64))], [(18, .rows (.int .u32)), (16, .grp sCf), (17, .rows sSw), (19, .rows (.int .i64))], 20, 95⟩, 0, ⟨[(10, .leaf (.own 16 sSw)), (11, .leaf (.own 17 (.int .u32)))], [(16, .rows sSw), (17, .rows (.int .u32))], 18, 95⟩), (7, ⟨[(3, .leaf (.int .i64)), (4, .leaf (.ptr 16 0)), (10, .leaf (.own 17 sSw)), (11, .leaf (.own 18 (.int .u32))), (14, .leaf (.epr 17 sSw 0)), (21, .leaf (.own 19 (.int .i64))), (22, .leaf (.int .i64)), (23, .leaf (.int .i64))], [(16, .grp sCf), (17, .rows sSw), (18, .rows (.int .u32)), (19, .rows (.int .i64))], 20, 95⟩, 2, ⟨[(3, .leaf (.int .i64)), (4, .leaf (.ptr 16 0)), (10, .leaf (.own 17 sSw)), (11, .leaf (.own 18 (.int .u32))), (14, .leaf (.epr 17 sSw 0)), (21, .leaf (.own 19 (.int .i64))), (22, .leaf (.int .i64)), (23, .leaf (.int .i64))], [(16, .grp sCf), (17, .rows sSw), (18, .rows (.int .u32)), (19, .rows (.int .i64))], 20, 95⟩)]
noncomputable def T_sweep_Plan_w1 : List Ent := [E_clock_Add, E_addr_At, E_addr_Size, E_sweep_order, E_slices_Clone_Sweep]
theorem ok_sweep_Plan_w1 : FnX Go.Proofs.Tryz.prog 87 D_sweep_Plan_w1 (fun x => sweep_Plan_w1 x.1 x.2.1 x.2.2.1 x.2.2.2.1) :=
  FnX.of (coL_ok (es := T_sweep_Plan_w1) (OKs.mem ⟨E_clock_Add_ok, E_addr_At_ok, E_addr_Size_ok, E_sweep_order_ok, E_slices_Clone_Sweep_ok, trivial⟩)) mix (mkLs_ok (l := L_sweep_Plan_w1) (by kernel_rfl)) (by kernel_rfl) Go.Proofs.Tryz.func87 rfl (by decide) (by decide) (fun x => by kernel_rfl)
noncomputable def E_sweep_Plan_w1 : Ent := ⟨87, D_sweep_Plan_w1, fun x => sweep_Plan_w1 x.1 x.2.1 x.2.2.1 x.2.2.2.1, ([], ([], ())), true⟩
theorem E_sweep_Plan_w1_ok : E_sweep_Plan_w1.OK Go.Proofs.Tryz.prog := ⟨ok_sweep_Plan_w1, by kernel_rfl⟩
def D_probe_Of : FD := ⟨[(0, .leaf (.int .u32)), (1, .leaf (.int .i64)), (2, .leaf (.int .i64))], [], [(0, .grp sPr)], []⟩
def L_probe_Of : List (Nat × StD × Nat × StD) := []
noncomputable def T_probe_Of : List Ent := [E_clock_Clamp]
theorem ok_probe_Of : FnX Go.Proofs.Tryz.prog 95 D_probe_Of (fun x => probe_Of x.1 x.2.1 x.2.2.1) :=
  FnX.of (coL_ok (es := T_probe_Of) (OKs.mem ⟨E_clock_Clamp_ok, trivial⟩)) mix (mkLs_ok (l := L_probe_Of) (by kernel_rfl)) (by kernel_rfl) Go.Proofs.Tryz.func95 rfl (by decide) (by decide) (fun x => by kernel_rfl)
noncomputable def E_probe_Of : Ent := ⟨95, D_probe_Of, fun x => probe_Of x.1 x.2.1 x.2.2.1, (((0 : Int), ((0 : Int), ((0 : Int), ((0 : Int), (0 : Int))))), ()), false⟩
theorem E_probe_Of_ok : E_probe_Of.OK Go.Proofs.Tryz.prog := ⟨ok_probe_Of, by kernel_rfl⟩
def D_probe_Put_1 : FD := ⟨[(0, .grp sPr), (1, .leaf (.fpt sPr 0))], [], [(0, .leaf .bool)], []⟩
def L_probe_Put_1 : List (Nat × StD × Nat × StD) := []
noncomputable def T_probe_Put_1 : List Ent := []
theorem ok_probe_Put_1 : FnX Go.Proofs.Tryz.prog 112 D_probe_Put_1 (fun x => probe_Put_1 x.1 x.2.1) :=
  FnX.of (coL_ok (es := T_probe_Put_1) (OKs.mem trivial)) mix (mkLs_ok (l := L_probe_Put_1) (by kernel_rfl)) (by kernel_rfl) Go.Proofs.Tryz.func112 rfl (by decide) (by decide) (fun x => by kernel_rfl)
noncomputable def E_probe_Put_1 : Ent := ⟨112, D_probe_Put_1, fun x => probe_Put_1 x.1 x.2.1, (false, ()), false⟩
theorem E_probe_Put_1_ok : E_probe_Put_1.OK Go.Proofs.Tryz.prog := ⟨ok_probe_Put_1, by kernel_rfl⟩
def D_slices_IndexFunc_v2 : FD := ⟨[(0, .leaf (.sl sPr)), (1, .fn 112 [] [(.fpt sPr 0)])], [], [(0, .leaf (.int .i64))], []⟩
def L_slices_IndexFunc_v2 : List (Nat × StD × Nat × StD) := [(2, ⟨[(0, .leaf (.sl sPr)), (1, .fn 112 [] [(.fpt sPr 0)]), (7, .leaf (.int .i64)), (8, .leaf (.int .i64))], [], 16, 19⟩, 0, ⟨[], [], 16, 19⟩)]
noncomputable def T_slices_IndexFunc_v2 : List Ent := [E_probe_Put_1]
theorem ok_slices_IndexFunc_v2 : FnX Go.Proofs.Tryz.prog 102 D_slices_IndexFunc_v2 (fun x => slices_IndexFunc_v2 x.1 x.2.1) :=
  FnX.of (coL_ok (es := T_slices_IndexFunc_v2) (OKs.mem ⟨E_probe_Put_1_ok, trivial⟩)) mix (mkLs_ok (l := L_slices_IndexFunc_v2) (by kernel_rfl)) (by kernel_rfl) Go.Proofs.Tryz.func102 rfl (by decide) (by decide) (fun x => by kernel_rfl)
noncomputable def E_slices_IndexFunc_v2 : Ent := ⟨102, D_slices_IndexFunc_v2, fun x => slices_IndexFunc_v2 x.1 x.2.1, ((0 : Int), ()), false⟩
theorem E_slices_IndexFunc_v2_ok : E_slices_IndexFunc_v2.OK Go.Proofs.Tryz.prog := ⟨ok_slices_IndexFunc_v2, by kernel_rfl⟩
def D_slices_ContainsFunc_v1 : FD := ⟨[(0, .leaf (.sl sPr)), (1, .fn 112 [] [(.fpt sPr 0)])], [], [(0, .leaf .bool)], []⟩
def L_slices_ContainsFunc_v1 : List (Nat × StD × Nat × StD) := []
noncomputable def T_slices_ContainsFunc_v1 : List Ent := [E_slices_IndexFunc_v2]
theorem ok_slices_ContainsFunc_v1 : FnX Go.Proofs.Tryz.prog 90 D_slices_ContainsFunc_v1 (fun x => slices_ContainsFunc_v1 x.1 x.2.1) :=
  FnX.of (coL_ok (es := T_slices_ContainsFunc_v1) (OKs.mem ⟨E_slices_IndexFunc_v2_ok, trivial⟩)) mix (mkLs_ok (l := L_slices_ContainsFunc_v1) (by kernel_rfl)) (by kernel_rfl) Go.Proofs.Tryz.func90 rfl (by decide) (by decide) (fun x => by kernel_rfl)
noncomputable def E_slices_ContainsFunc_v1 : Ent := ⟨90, D_slices_ContainsFunc_v1, fun x => slices_ContainsFunc_v1 x.1 x.2.1, (false, ()), false⟩
theorem E_slices_ContainsFunc_v1_ok : E_slices_ContainsFunc_v1.OK Go.Proofs.Tryz.prog := ⟨ok_slices_ContainsFunc_v1, by kernel_rfl⟩
def D_slices_Clone_Probe : FD := D_Clone sPr
theorem ok_slices_Clone_Probe : FnX Go.Proofs.Tryz.prog 105 D_slices_Clone_Probe (fun x => slices_Clone_Probe x.1) :=
  X_Clone ⟨_, Go.Proofs.Tryz.func105, by decide, rfl⟩ Go.Proofs.Tryz.gclone105 rfl (by kernel_rfl) (by decide) (by decide) Go.Proofs.Tryz.sizeOf108
noncomputable def E_slices_Clone_Probe : Ent := ⟨105, D_slices_Clone_Probe, fun x => slices_Clone_Probe x.1, ([], ()), false⟩
theorem E_slices_Clone_Probe_ok : E_slices_Clone_Probe.OK Go.Proofs.Tryz.prog := ⟨ok_slices_Clone_Probe, by kernel_rfl⟩
def D_probe_Put : FD := ⟨[(0, .leaf (.sl sPr)), (1, .grp sPr)], [], [(0, .leaf (.own 16 sPr)), (1, .leaf (.int .i64))], [(16, .rows sPr)]⟩
def L_probe_Put : List (Nat × StD × Nat × StD) := []
noncomputable def T_probe_Put : List Ent := [E_slices_Clone_Probe, E_slices_ContainsFunc_v1]
theorem ok_probe_Put : FnX Go.Proofs.Tryz.prog 88 D_probe_Put (fun x => probe_Put x.1 x.2.1) :=
  FnX.of (coL_ok (es := T_probe_Put) (OKs.mem ⟨E_slices_Clone_Probe_ok, E_slices_ContainsFunc_v1_ok, trivial⟩)) mix (mkLs_ok (l := L_probe_Put) (by kernel_rfl)) (by kernel_rfl) Go.Proofs.Tryz.func88 rfl (by decide) (by decide) (fun x => by kernel_rfl)
noncomputable def E_probe_Put : Ent := ⟨88, D_probe_Put, fun x => probe_Put x.1 x.2.1, ((0 : Int), ([], ())), false⟩
theorem E_probe_Put_ok : E_probe_Put.OK Go.Proofs.Tryz.prog := ⟨ok_probe_Put, by kernel_rfl⟩
def D_ops_ask : FD := ⟨[(0, .grp sCf), (1, .grp sSt)], [], [(0, .grp sSt), (1, .leaf (.own 16 sPk))], [(16, .rows sPk)]⟩
def L_ops_ask : List (Nat × StD × Nat × StD) := [(4, ⟨[(2, .leaf (.ptr 16 0)), (3, .leaf (.ptr 17 0)), (4, .leaf (.ptr 18 0)), (6, .leaf (.own 19 sPk)), (7, .leaf (.own 20 sPr)), (8, .leaf (.sl sPr)), (30, .leaf (.sl sPr)), (31, .leaf (.int .i64)), (32, .leaf (.int .i64))], [(19, .rows sPk), (16, .grp sCf), (17, .grp sSt), (18, .grp sSt), (20, .rows sPr)], 21, 102⟩, 0, ⟨[(2, .leaf (.ptr 16 0)), (3, .leaf (.ptr 17 0)), (4, .leaf (.ptr 18 0)), (6, .leaf (.own 19 sPk)), (7, .leaf (.own 20 sPr)), (8, .leaf (.sl sPr))], [(16, .grp sCf), (17, .grp sSt), (18, .grp sSt), (19, .rows sPk), (20, .rows sPr)], 21, 102⟩), (13, ⟨[(3, .leaf (.ptr 16 0)), (4, .leaf (.ptr 17 0)), (6, .leaf (.own 18 sPk)), (66, .leaf (.sl (.int .u32))), (67, .leaf (.int .i64)), (68, .leaf (.int .i64))], [(16, .grp sSt), (17, .grp sSt), (18, .rows sPk)], 19, 102⟩, 2, ⟨[(3, .leaf (.ptr 16 0)), (4, .leaf (.ptr 17 0)), (6, .leaf (.own 18 sPk))], [(16, .grp sSt), (17, .grp sSt), (18, .rows sPk)], 19, 102⟩)]
noncomputable def T_ops_ask : List Ent := [E_probe_Put, E_probe_Of, E_sweep_Plan_w1, E_probe_Packet, E_probe_Late]
theorem ok_ops_ask : FnX Go.Proofs.Tryz.prog 57 D_ops_ask (fun x => ops_ask x.1 x.2.1) :=
  FnX.of (coL_ok (es := T_ops_ask) (OKs.mem ⟨E_probe_Put_ok, E_probe_Of_ok, E_sweep_Plan_w1_ok, E_probe_Packet_ok, E_probe_Late_ok, trivial⟩)) mix (mkLs_ok (l := L_ops_ask) (by kernel_rfl)) (by kernel_rfl) Go.Proofs.Tryz.func57 rfl (by decide) (by decide) (fun x => by kernel_rfl)
noncomputable def E_ops_ask : Ent := ⟨57, D_ops_ask, fun x => ops_ask x.1 x.2.1, (((0 : Int), ((0 : Int), ([], ([], ([], ([], [])))))), ([], ())), true⟩
theorem E_ops_ask_ok : E_ops_ask.OK Go.Proofs.Tryz.prog := ⟨ok_ops_ask, by kernel_rfl⟩
def D_ops_tick : FD := ⟨[(0, .grp sCf), (1, .grp sSt)], [], [(0, .grp sSt), (1, .leaf (.own 16 sPk))], [(16, .rows sPk)]⟩
def L_ops_tick : List (Nat × StD × Nat × StD) := []
noncomputable def T_ops_tick : List Ent := [E_ops_ask, E_ops_forget, E_ops_raise, E_ops_execute, E_cases_Tick, E_clock_Add]
theorem ok_ops_tick : FnX Go.Proofs.Tryz.prog 26 D_ops_tick (fun x => ops_tick x.1 x.2.1) :=
  FnX.of (coL_ok (es := T_ops_tick) (OKs.mem ⟨E_ops_ask_ok, E_ops_forget_ok, E_ops_raise_ok, E_ops_execute_ok, E_cases_Tick_ok, E_clock_Add_ok, trivial⟩)) mix (mkLs_ok (l := L_ops_tick) (by kernel_rfl)) (by kernel_rfl) Go.Proofs.Tryz.func26 rfl (by decide) (by decide) (fun x => by kernel_rfl)
noncomputable def E_ops_tick : Ent := ⟨26, D_ops_tick, fun x => ops_tick x.1 x.2.1, (((0 : Int), ((0 : Int), ([], ([], ([], ([], [])))))), ([], ())), true⟩
theorem E_ops_tick_ok : E_ops_tick.OK Go.Proofs.Tryz.prog := ⟨ok_ops_tick, by kernel_rfl⟩
def D_held_May : FD := ⟨[(0, .leaf .str)], [], [(0, .leaf .bool)], []⟩
def L_held_May : List (Nat × StD × Nat × StD) := [(2, ⟨[(0, .leaf .str), (6, .leaf (.int .i64)), (7, .leaf (.int .i64))], [], 16, 35⟩, 0, ⟨[(0, .leaf .str)], [], 16, 35⟩)]
noncomputable def T_held_May : List Ent := []
theorem ok_held_May : FnX Go.Proofs.Tryz.prog 61 D_held_May (fun x => held_May x.1) :=
  FnX.of (coL_ok (es := T_held_May) (OKs.mem trivial)) mix (mkLs_ok (l := L_held_May) (by kernel_rfl)) (by kernel_rfl) Go.Proofs.Tryz.func61 rfl (by decide) (by decide) (fun x => by kernel_rfl)
noncomputable def E_held_May : Ent := ⟨61, D_held_May, fun x => held_May x.1, (false, ()), false⟩
theorem E_held_May_ok : E_held_May.OK Go.Proofs.Tryz.prog := ⟨ok_held_May, by kernel_rfl⟩
def D_held_Put : FD := ⟨[(0, .leaf (.sl sHd)), (1, .grp sHd)], [], [(0, .leaf (.own 16 sHd)), (1, .leaf (.int .i64))], [(16, .rows sHd)]⟩
def L_held_Put : List (Nat × StD × Nat × StD) := []
noncomputable def T_held_Put : List Ent := [E_held_May, E_held_find]
theorem ok_held_Put : FnX Go.Proofs.Tryz.prog 27 D_held_Put (fun x => held_Put x.1 x.2.1) :=
  FnX.of (coL_ok (es := T_held_Put) (OKs.mem ⟨E_held_May_ok, E_held_find_ok, trivial⟩)) mix (mkLs_ok (l := L_held_Put) (by kernel_rfl)) (by kernel_rfl) Go.Proofs.Tryz.func27 rfl (by decide) (by decide) (fun x => by kernel_rfl)
noncomputable def E_held_Put : Ent := ⟨27, D_held_Put, fun x => held_Put x.1 x.2.1, ((0 : Int), ([], ())), false⟩
theorem E_held_Put_ok : E_held_Put.OK Go.Proofs.Tryz.prog := ⟨ok_held_Put, by kernel_rfl⟩
def D_ops_lay : FD := ⟨[(0, .leaf (.ptr 0 2)), (1, .leaf (.sl sHd)), (2, .leaf (.int .i64))], [(0, .cells [(.int .i64), (.int .i64), (.sl sHd), (.sl sSw), (.sl sKn), (.sl sPr), (.sl sCa)])], [(0, .leaf (.int .i64))], [(0, .cells [(.int .i64), (.int .i64), (.sl sHd), (.sl sSw), (.sl sKn), (.sl sPr), (.sl sCa)])]⟩
def L_ops_lay : List (Nat × StD × Nat × StD) := []
noncomputable def T_ops_lay : List Ent := []
theorem ok_ops_lay : FnX Go.Proofs.Tryz.prog 28 D_ops_lay (fun x => ops_lay x.1 x.2.1 x.2.2.1 x.2.2.2.1 x.2.2.2.2.1 x.2.2.2.2.2.1 x.2.2.2.2.2.2.1 x.2.2.2.2.2.2.2.1 x.2.2.2.2.2.2.2.2.1) :=
  FnX.of (coL_ok (es := T_ops_lay) (OKs.mem trivial)) mix (mkLs_ok (l := L_ops_lay) (by kernel_rfl)) (by kernel_rfl) Go.Proofs.Tryz.func28 rfl (by decide) (by decide) (fun x => by kernel_rfl)
noncomputable def E_ops_lay : Ent := ⟨28, D_ops_lay, fun x => ops_lay x.1 x.2.1 x.2.2.1 x.2.2.2.1 x.2.2.2.2.1 x.2.2.2.2.2.1 x.2.2.2.2.2.2.1 x.2.2.2.2.2.2.2.1 x.2.2.2.2.2.2.2.2.1, ((0 : Int), ((0 : Int), ((0 : Int), ([], ([], ([], ([], ([], ())))))))), true⟩
theorem E_ops_lay_ok : E_ops_lay.OK Go.Proofs.Tryz.prog := ⟨ok_ops_lay, by kernel_rfl⟩
def D_ops_drop : FD := ⟨[(0, .grp sSt), (1, .leaf (.int .u32))], [], [(0, .grp sSt), (1, .leaf (.int .i64))], []⟩
def L_ops_drop : List (Nat × StD × Nat × StD) := []
noncomputable def T_ops_drop : List Ent := [E_cases_Cancel, E_held_Take]
theorem ok_ops_drop : FnX Go.Proofs.Tryz.prog 29 D_ops_drop (fun x => ops_drop x.1 x.2.1) :=
  FnX.of (coL_ok (es := T_ops_drop) (OKs.mem ⟨E_cases_Cancel_ok, E_held_Take_ok, trivial⟩)) mix (mkLs_ok (l := L_ops_drop) (by kernel_rfl)) (by kernel_rfl) Go.Proofs.Tryz.func29 rfl (by decide) (by decide) (fun x => by kernel_rfl)
noncomputable def E_ops_drop : Ent := ⟨29, D_ops_drop, fun x => ops_drop x.1 x.2.1, (((0 : Int), ((0 : Int), ([], ([], ([], ([], [])))))), ((0 : Int), ())), true⟩
theorem E_ops_drop_ok : E_ops_drop.OK Go.Proofs.Tryz.prog := ⟨ok_ops_drop, by kernel_rfl⟩
def D_addr_Has : FD := ⟨[(0, .grp sBk), (1, .leaf (.int .u32))], [], [(0, .leaf .bool)], []⟩
def L_addr_Has : List (Nat × StD × Nat × StD) := []
noncomputable def T_addr_Has : List Ent := [E_addr_mask, E_addr_Right]
theorem ok_addr_Has : FnX Go.Proofs.Tryz.prog 113 D_addr_Has (fun x => addr_Has x.1 x.2.1) :=
  FnX.of (coL_ok (es := T_addr_Has) (OKs.mem ⟨E_addr_mask_ok, E_addr_Right_ok, trivial⟩)) mix (mkLs_ok (l := L_addr_Has) (by kernel_rfl)) (by kernel_rfl) Go.Proofs.Tryz.func113 rfl (by decide) (by decide) (fun x => by kernel_rfl)
noncomputable def E_addr_Has : Ent := ⟨113, D_addr_Has, fun x => addr_Has x.1 x.2.1, (false, ()), false⟩
theorem E_addr_Has_ok : E_addr_Has.OK Go.Proofs.Tryz.prog := ⟨ok_addr_Has, by kernel_rfl⟩
def D_addr_Within : FD := ⟨[(0, .grp sBk), (1, .grp sBk)], [], [(0, .leaf .bool)], []⟩
def L_addr_Within : List (Nat × StD × Nat × StD) := []
noncomputable def T_addr_Within : List Ent := [E_addr_Has, E_addr_Right]
theorem ok_addr_Within : FnX Go.Proofs.Tryz.prog 99 D_addr_Within (fun x => addr_Within x.1 x.2.1) :=
  FnX.of (coL_ok (es := T_addr_Within) (OKs.mem ⟨E_addr_Has_ok, E_addr_Right_ok, trivial⟩)) mix (mkLs_ok (l := L_addr_Within) (by kernel_rfl)) (by kernel_rfl) Go.Proofs.Tryz.func99 rfl (by decide) (by decide) (fun x => by kernel_rfl)
noncomputable def E_addr_Within : Ent := ⟨99, D_addr_Within, fun x => addr_Within x.1 x.2.1, (false, ()), false⟩
theorem E_addr_Within_ok : E_addr_Within.OK Go.Proofs.Tryz.prog := ⟨ok_addr_Within, by kernel_rfl⟩
def D_addr_Overlap : FD := ⟨[(0, .grp sBk), (1, .grp sBk)], [], [(0, .leaf .bool)], []⟩
def L_addr_Overlap : List (Nat × StD × Nat × StD) := []
noncomputable def T_addr_Overlap : List Ent := [E_addr_Within]
theorem ok_addr_Overlap : FnX Go.Proofs.Tryz.prog 67 D_addr_Overlap (fun x => addr_Overlap x.1 x.2.1) :=
  FnX.of (coL_ok (es := T_addr_Overlap) (OKs.mem ⟨E_addr_Within_ok, trivial⟩)) mix (mkLs_ok (l := L_addr_Overlap) (by kernel_rfl)) (by kernel_rfl) Go.Proofs.Tryz.func67 rfl (by decide) (by decide) (fun x => by kernel_rfl)
noncomputable def E_addr_Overlap : Ent := ⟨67, D_addr_Overlap, fun x => addr_Overlap x.1 x.2.1, (false, ()), false⟩
theorem E_addr_Overlap_ok : E_addr_Overlap.OK Go.Proofs.Tryz.prog := ⟨ok_addr_Overlap, by kernel_rfl⟩
def D_sweep_Put_1 : FD := ⟨[(0, .grp sSw), (1, .leaf (.fpt sBk 0))], [], [(0, .leaf .bool)], []⟩
def L_sweep_Put_1 : List (Nat × StD × Nat × StD) := []
noncomputable def T_sweep_Put_1 : List Ent := [E_addr_Overlap]
theorem ok_sweep_Put_1 : FnX Go.Proofs.Tryz.prog 66 D_sweep_Put_1 (fun x => sweep_Put_1 x.1 x.2.1) :=
  FnX.of (coL_ok (es := T_sweep_Put_1) (OKs.mem ⟨E_addr_Overlap_ok, trivial⟩)) mix (mkLs_ok (l := L_sweep_Put_1) (by kernel_rfl)) (by kernel_rfl) Go.Proofs.Tryz.func66 rfl (by decide) (by decide) (fun x => by kernel_rfl)
noncomputable def E_sweep_Put_1 : Ent := ⟨66, D_sweep_Put_1, fun x => sweep_Put_1 x.1 x.2.1, (false, ()), false⟩
theorem E_sweep_Put_1_ok : E_sweep_Put_1.OK Go.Proofs.Tryz.prog := ⟨ok_sweep_Put_1, by kernel_rfl⟩
def D_slices_IndexFunc_w1 : FD := ⟨[(0, .leaf (.sl sSw)), (1, .fn 66 [] [(.fpt sBk 0)])], [], [(0, .leaf (.int .i64))], []⟩
def L_slices_IndexFunc_w1 : List (Nat × StD × Nat × StD) := [(2, ⟨[(0, .leaf (.sl sSw)), (1, .fn 66 [] [(.fpt sBk 0)]), (7, .leaf (.int .i64)), (8, .leaf (.int .i64))], [], 16, 19⟩, 0, ⟨[], [], 16, 19⟩)]
noncomputable def T_slices_IndexFunc_w1 : List Ent := [E_sweep_Put_1]
theorem ok_slices_IndexFunc_w1 : FnX Go.Proofs.Tryz.prog 72 D_slices_IndexFunc_w1 (fun x => slices_IndexFunc_w1 x.1 x.2.1) :=
  FnX.of (coL_ok (es := T_slices_IndexFunc_w1) (OKs.mem ⟨E_sweep_Put_1_ok, trivial⟩)) mix (mkLs_ok (l := L_slices_IndexFunc_w1) (by kernel_rfl)) (by kernel_rfl) Go.Proofs.Tryz.func72 rfl (by decide) (by decide) (fun x => by kernel_rfl)
noncomputable def E_slices_IndexFunc_w1 : Ent := ⟨72, D_slices_IndexFunc_w1, fun x => slices_IndexFunc_w1 x.1 x.2.1, ((0 : Int), ()), false⟩
theorem E_slices_IndexFunc_w1_ok : E_slices_IndexFunc_w1.OK Go.Proofs.Tryz.prog := ⟨ok_slices_IndexFunc_w1, by kernel_rfl⟩
def D_slices_ContainsFunc_w1 : FD := ⟨[(0, .leaf (.sl sSw)), (1, .fn 66 [] [(.fpt sBk 0)])], [], [(0, .leaf .bool)], []⟩
def L_slices_ContainsFunc_w1 : List (Nat × StD × Nat × StD) := []
noncomputable def T_slices_ContainsFunc_w1 : List Ent := [E_slices_IndexFunc_w1]
theorem ok_slices_ContainsFunc_w1 : FnX Go.Proofs.Tryz.prog 65 D_slices_ContainsFunc_w1 (fun x => slices_ContainsFunc_w1 x.1 x.2.1) :=
  FnX.of (coL_ok (es := T_slices_ContainsFunc_w1) (OKs.mem ⟨E_slices_IndexFunc_w1_ok, trivial⟩)) mix (mkLs_ok (l := L_slices_ContainsFunc_w1) (by kernel_rfl)) (by kernel_rfl) Go.Proofs.Tryz.func65 rfl (by decide) (by decide) (fun x => by kernel_rfl)
noncomputable def E_slices_ContainsFunc_w1 : Ent := ⟨65, D_slices_ContainsFunc_w1, fun x => slices_ContainsFunc_w1 x.1 x.2.1, (false, ()), false⟩
theorem E_slices_ContainsFunc_w1_ok : E_slices_ContainsFunc_w1.OK Go.Proofs.Tryz.prog := ⟨ok_slices_ContainsFunc_w1, by kernel_rfl⟩
end Go.Tr
namespace Go.Proofs
open Go Go.Shelf Go.RowKit Go.Lib Go.Sort
theorem walk_sweep_Put_2 (x y : ((Int × Int) × Int × Int)) (W : World) : Calls Go.Proofs.Tryz.prog 71 #[.agg #[.int .u32 x.1.1, .int .i64 x.1.2, .int .i64 x.2.1, .int .i64 x.2.2], .agg #[.int .u32 y.1.1, .int .i64 y.1.2, .int .i64 y.2.1, .int .i64 y.2.2]] W fun en w' => ∃ c, Go.Tr.sweep_Put_2 x y = some (c, ()) ∧ en = .returned (.int .i64 c) ∧ ∃ q os', w' = grow (W.drewN q) os' := by
  go_enter Go.Proofs.Tryz.func71, Go.Proofs.Tryz.ntmps71
  go_wp2
  go_ret
  refine ⟨_, rfl, ?_, 0, _, by rw [alloc_eq_grow, alloc_eq_grow, grow_grow]; rfl⟩
  simp only [IntWalk.i64_left]
  rfl
end Go.Proofs
namespace Go.Tr
open Go
set_option linter.unusedVariables false
set_option maxRecDepth 100000
def D_slices_SortFunc_sweep_Put_2 : FD := D_Sort sSw 71
theorem ok_slices_SortFunc_sweep_Put_2 : FnX Go.Proofs.Tryz.prog 70 D_slices_SortFunc_sweep_Put_2 (fun x => slices_SortFunc_sweep_Put_2 x.1) :=
  X_Sort (e := sSw) ⟨_, Go.Proofs.Tryz.func70, by decide, rfl⟩ Go.Proofs.Tryz.gsort70 rfl (by decide) Go.Proofs.Tryz.isAgg93 Go.Proofs.Tryz.sizeOf93 (Go.Proofs.enters_of Go.Proofs.Tryz.func71 (by kernel_rfl) rfl) (by decide) Go.Proofs.walk_sweep_Put_2 (fun x y => ⟨_, rfl⟩)
noncomputable def E_slices_SortFunc_sweep_Put_2 : Ent := ⟨70, D_slices_SortFunc_sweep_Put_2, fun x => slices_SortFunc_sweep_Put_2 x.1, ([], ()), false⟩
theorem E_slices_SortFunc_sweep_Put_2_ok : E_slices_SortFunc_sweep_Put_2.OK Go.Proofs.Tryz.prog := ⟨ok_slices_SortFunc_sweep_Put_2, by kernel_rfl⟩
def D_sweep_Put : FD := ⟨[(0, .leaf (.sl sSw)), (1, .grp sBk), (2, .leaf (.int .i64))], [], [(0, .leaf (.own 16 sSw)), (1, .leaf (.int .i64))], [(16, .rows sSw)]⟩
def L_sweep_Put : List (Nat × StD × Nat × StD) := []
noncomputable def T_sweep_Put : List Ent := [E_slices_SortFunc_sweep_Put_2, E_clock_Clamp, E_slices_Clone_Sweep, E_slices_ContainsFunc_w1, E_addr_Size, E_addr_Right]
theorem ok_sweep_Put : FnX Go.Proofs.Tryz.prog 30 D_sweep_Put (fun x => sweep_Put x.1 x.2.1 x.2.2.1) :=
  FnX.of (coL_ok (es := T_sweep_Put) (OKs.mem ⟨E_slices_SortFunc_sweep_Put_2_ok, E_clock_Clamp_ok, E_slices_Clone_Sweep_ok, E_slices_ContainsFunc_w1_ok, E_addr_Size_ok, E_addr_Right_ok, trivial⟩)) mix (mkLs_ok (l := L_sweep_Put) (by kernel_rfl)) (by kernel_rfl) Go.Proofs.Tryz.func30 rfl (by decide) (by decide) (fun x => by kernel_rfl)
noncomputable def E_sweep_Put : Ent := ⟨30, D_sweep_Put, fun x => sweep_Put x.1 x.2.1 x.2.2.1, ((0 : Int), ([], ())), false⟩
theorem E_sweep_Put_ok : E_sweep_Put.OK Go.Proofs.Tryz.prog := ⟨ok_sweep_Put, by kernel_rfl⟩
def D_ops_lay_v1 : FD := ⟨[(0, .leaf (.ptr 0 3)), (1, .leaf (.sl sSw)), (2, .leaf (.int .i64))], [(0, .cells [(.int .i64), (.int .i64), (.sl sHd), (.sl sSw), (.sl sKn), (.sl sPr), (.sl sCa)])], [(0, .leaf (.int .i64))], [(0, .cells [(.int .i64), (.int .i64), (.sl sHd), (.sl sSw), (.sl sKn), (.sl sPr), (.sl sCa)])]⟩
def L_ops_lay_v1 : List (Nat × StD × Nat × StD) := []
noncomputable def T_ops_lay_v1 : List Ent := []
theorem ok_ops_lay_v1 : FnX Go.Proofs.Tryz.prog 31 D_ops_lay_v1 (fun x => ops_lay_v1 x.1 x.2.1 x.2.2.1 x.2.2.2.1 x.2.2.2.2.1 x.2.2.2.2.2.1 x.2.2.2.2.2.2.1 x.2.2.2.2.2.2.2.1 x.2.2.2.2.2.2.2.2.1) :=
  FnX.of (coL_ok (es := T_ops_lay_v1) (OKs.mem trivial)) mix (mkLs_ok (l := L_ops_lay_v1) (by kernel_rfl)) (by kernel_rfl) Go.Proofs.Tryz.func31 rfl (by decide) (by decide) (fun x => by kernel_rfl)
noncomputable def E_ops_lay_v1 : Ent := ⟨31, D_ops_lay_v1, fun x => ops_lay_v1 x.1 x.2.1 x.2.2.1 x.2.2.2.1 x.2.2.2.2.1 x.2.2.2.2.2.1 x.2.2.2.2.2.2.1 x.2.2.2.2.2.2.2.1 x.2.2.2.2.2.2.2.2.1, ((0 : Int), ((0 : Int), ((0 : Int), ([], ([], ([], ([], ([], ())))))))), true⟩
theorem E_ops_lay_v1_ok : E_ops_lay_v1.OK Go.Proofs.Tryz.prog := ⟨ok_ops_lay_v1, by kernel_rfl⟩
def D_sweep_Take_1 : FD := ⟨[(0, .grp sSw), (1, .leaf (.fpt sBk 0))], [], [(0, .leaf .bool)], []⟩
def L_sweep_Take_1 : List (Nat × StD × Nat × StD) := []
noncomputable def T_sweep_Take_1 : List Ent := []
theorem ok_sweep_Take_1 : FnX Go.Proofs.Tryz.prog 73 D_sweep_Take_1 (fun x => sweep_Take_1 x.1 x.2.1) :=
  FnX.of (coL_ok (es := T_sweep_Take_1) (OKs.mem trivial)) mix (mkLs_ok (l := L_sweep_Take_1) (by kernel_rfl)) (by kernel_rfl) Go.Proofs.Tryz.func73 rfl (by decide) (by decide) (fun x => by kernel_rfl)
noncomputable def E_sweep_Take_1 : Ent := ⟨73, D_sweep_Take_1, fun x => sweep_Take_1 x.1 x.2.1, (false, ()), false⟩
theorem E_sweep_Take_1_ok : E_sweep_Take_1.OK Go.Proofs.Tryz.prog := ⟨ok_sweep_Take_1, by kernel_rfl⟩
def D_slices_IndexFunc_v1_w1 : FD := ⟨[(0, .leaf (.sl sSw)), (1, .fn 73 [] [(.fpt sBk 0)])], [], [(0, .leaf (.int .i64))], []⟩
def L_slices_IndexFunc_v1_w1 : List (Nat × StD × Nat × StD) := [(2, ⟨[(0, .leaf (.sl sSw)), (1, .fn 73 [] [(.fpt sBk 0)]), (7, .leaf (.int .i64)), (8, .leaf (.int .i64))], [], 16, 19⟩, 0, ⟨[], [], 16, 19⟩)]
noncomputable def T_slices_IndexFunc_v1_w1 : List Ent := [E_sweep_Take_1]
theorem ok_slices_IndexFunc_v1_w1 : FnX Go.Proofs.Tryz.prog 72 D_slices_IndexFunc_v1_w1 (fun x => slices_IndexFunc_v1_w1 x.1 x.2.1) :=
  FnX.of (coL_ok (es := T_slices_IndexFunc_v1_w1) (OKs.mem ⟨E_sweep_Take_1_ok, trivial⟩)) mix (mkLs_ok (l := L_slices_IndexFunc_v1_w1) (by kernel_rfl)) (by kernel_rfl) Go.Proofs.Tryz.func72 rfl (by decide) (by decide) (fun x => by kernel_rfl)
noncomputable def E_slices_IndexFunc_v1_w1 : Ent := ⟨72, D_slices_IndexFunc_v1_w1, fun x => slices_IndexFunc_v1_w1 x.1 x.2.1, ((0 : Int), ()), false⟩
theorem E_slices_IndexFunc_v1_w1_ok : E_slices_IndexFunc_v1_w1.OK Go.Proofs.Tryz.prog := ⟨ok_slices_IndexFunc_v1_w1, by kernel_rfl⟩
def D_slices_Delete_Sweep : FD := D_Delete sSw
theorem ok_slices_Delete_Sweep : FnX Go.Proofs.Tryz.prog 74 D_slices_Delete_Sweep (fun x => slices_Delete_Sweep x.1 x.2.1 x.2.2.1) :=
  X_Delete ⟨_, Go.Proofs.Tryz.func74, by decide, rfl⟩ Go.Proofs.Tryz.gdelete74 rfl (by kernel_rfl) (by decide) (by kernel_rfl) (by kernel_rfl) Go.Proofs.Tryz.zeroValue93 Go.Proofs.Tryz.sizeOf93
noncomputable def E_slices_Delete_Sweep : Ent := ⟨74, D_slices_Delete_Sweep, fun x => slices_Delete_Sweep x.1 x.2.1 x.2.2.1, ([], ()), false⟩
theorem E_slices_Delete_Sweep_ok : E_slices_Delete_Sweep.OK Go.Proofs.Tryz.prog := ⟨ok_slices_Delete_Sweep, by kernel_rfl⟩
def D_sweep_Take : FD := ⟨[(0, .leaf (.sl sSw)), (1, .grp sBk)], [], [(0, .leaf (.own 16 sSw)), (1, .leaf (.int .i64))], [(16, .rows sSw)]⟩
def L_sweep_Take : List (Nat × StD × Nat × StD) := []
noncomputable def T_sweep_Take : List Ent := [E_slices_Delete_Sweep, E_slices_Clone_Sweep, E_slices_IndexFunc_v1_w1]
theorem ok_sweep_Take : FnX Go.Proofs.Tryz.prog 32 D_sweep_Take (fun x => sweep_Take x.1 x.2.1) :=
  FnX.of (coL_ok (es := T_sweep_Take) (OKs.mem ⟨E_slices_Delete_Sweep_ok, E_slices_Clone_Sweep_ok, E_slices_IndexFunc_v1_w1_ok, trivial⟩)) mix (mkLs_ok (l := L_sweep_Take) (by kernel_rfl)) (by kernel_rfl) Go.Proofs.Tryz.func32 rfl (by decide) (by decide) (fun x => by kernel_rfl)
noncomputable def E_sweep_Take : Ent := ⟨32, D_sweep_Take, fun x => sweep_Take x.1 x.2.1, ((0 : Int), ([], ())), false⟩
theorem E_sweep_Take_ok : E_sweep_Take.OK Go.Proofs.Tryz.prog := ⟨ok_sweep_Take, by kernel_rfl⟩
def D_ops_answered_1 : FD := ⟨[(0, .grp sPr), (1, .leaf (.fpt (.int .u32) 0))], [], [(0, .leaf .bool)], []⟩
def L_ops_answered_1 : List (Nat × StD × Nat × StD) := []
noncomputable def T_ops_answered_1 : List Ent := []
theorem ok_ops_answered_1 : FnX Go.Proofs.Tryz.prog 103 D_ops_answered_1 (fun x => ops_answered_1 x.1 x.2.1) :=
  FnX.of (coL_ok (es := T_ops_answered_1) (OKs.mem trivial)) mix (mkLs_ok (l := L_ops_answered_1) (by kernel_rfl)) (by kernel_rfl) Go.Proofs.Tryz.func103 rfl (by decide) (by decide) (fun x => by kernel_rfl)
noncomputable def E_ops_answered_1 : Ent := ⟨103, D_ops_answered_1, fun x => ops_answered_1 x.1 x.2.1, (false, ()), false⟩
theorem E_ops_answered_1_ok : E_ops_answered_1.OK Go.Proofs.Tryz.prog := ⟨ok_ops_answered_1, by kernel_rfl⟩
def D_slices_IndexFunc_v5 : FD := ⟨[(0, .leaf (.sl sPr)), (1, .fn 103 [] [(.fpt (.int .u32) 0)])], [], [(0, .leaf (.int .i64))], []⟩
def L_slices_IndexFunc_v5 : List (Nat × StD × Nat × StD) := [(2, ⟨[(0, .leaf (.sl sPr)), (1, .fn 103 [] [(.fpt (.int .u32) 0)]), (7, .leaf (.int .i64)), (8, .leaf (.int .i64))], [], 16, 19⟩, 0, ⟨[], [], 16, 19⟩)]
noncomputable def T_slices_IndexFunc_v5 : List Ent := [E_ops_answered_1]
theorem ok_slices_IndexFunc_v5 : FnX Go.Proofs.Tryz.prog 102 D_slices_IndexFunc_v5 (fun x => slices_IndexFunc_v5 x.1 x.2.1) :=
  FnX.of (coL_ok (es := T_slices_IndexFunc_v5) (OKs.mem ⟨E_ops_answered_1_ok, trivial⟩)) mix (mkLs_ok (l := L_slices_IndexFunc_v5) (by kernel_rfl)) (by kernel_rfl) Go.Proofs.Tryz.func102 rfl (by decide) (by decide) (fun x => by kernel_rfl)
noncomputable def E_slices_IndexFunc_v5 : Ent := ⟨102, D_slices_IndexFunc_v5, fun x => slices_IndexFunc_v5 x.1 x.2.1, ((0 : Int), ()), false⟩
theorem E_slices_IndexFunc_v5_ok : E_slices_IndexFunc_v5.OK Go.Proofs.Tryz.prog := ⟨ok_slices_IndexFunc_v5, by kernel_rfl⟩
def D_slices_Delete_Probe : FD := D_Delete sPr
theorem ok_slices_Delete_Probe : FnX Go.Proofs.Tryz.prog 104 D_slices_Delete_Probe (fun x => slices_Delete_Probe x.1 x.2.1 x.2.2.1) :=
  X_Delete ⟨_, Go.Proofs.Tryz.func104, by decide, rfl⟩ Go.Proofs.Tryz.gdelete104 rfl (by kernel_rfl) (by decide) (by kernel_rfl) (by kernel_rfl) Go.Proofs.Tryz.zeroValue108 Go.Proofs.Tryz.sizeOf108
noncomputable def E_slices_Delete_Probe : Ent := ⟨104, D_slices_Delete_Probe, fun x => slices_Delete_Probe x.1 x.2.1 x.2.2.1, ([], ()), false⟩
theorem E_slices_Delete_Probe_ok : E_slices_Delete_Probe.OK Go.Proofs.Tryz.prog := ⟨ok_slices_Delete_Probe, by kernel_rfl⟩
def D_ops_answered : FD := ⟨[(0, .grp sSt), (1, .leaf (.int .u32))], [], [(0, .grp sSt), (1, .leaf (.int .i64))], []⟩
def L_ops_answered : List (Nat × StD × Nat × StD) := []
noncomputable def T_ops_answered : List Ent := [E_slices_Delete_Probe, E_slices_Clone_Probe, E_slices_IndexFunc_v5]
theorem ok_ops_answered : FnX Go.Proofs.Tryz.prog 75 D_ops_answered (fun x => ops_answered x.1 x.2.1) :=
  FnX.of (coL_ok (es := T_ops_answered) (OKs.mem ⟨E_slices_Delete_Probe_ok, E_slices_Clone_Probe_ok, E_slices_IndexFunc_v5_ok, trivial⟩)) mix (mkLs_ok (l := L_ops_answered) (by kernel_rfl)) (by kernel_rfl) Go.Proofs.Tryz.func75 rfl (by decide) (by decide) (fun x => by kernel_rfl)
noncomputable def E_ops_answered : Ent := ⟨75, D_ops_answered, fun x => ops_answered x.1 x.2.1, (((0 : Int), ((0 : Int), ([], ([], ([], ([], [])))))), ((0 : Int), ())), true⟩
theorem E_ops_answered_ok : E_ops_answered.OK Go.Proofs.Tryz.prog := ⟨ok_ops_answered, by kernel_rfl⟩
def D_seen_Keep : FD := ⟨[(0, .leaf (.sl sSg)), (1, .grp sSg)], [], [(0, .leaf (.sl sSg))], []⟩
def L_seen_Keep : List (Nat × StD × Nat × StD) := []
noncomputable def T_seen_Keep : List Ent := []
theorem ok_seen_Keep : FnX Go.Proofs.Tryz.prog 89 D_seen_Keep (fun x => seen_Keep x.1 x.2.1) :=
  FnX.of (coL_ok (es := T_seen_Keep) (OKs.mem trivial)) mix (mkLs_ok (l := L_seen_Keep) (by kernel_rfl)) (by kernel_rfl) Go.Proofs.Tryz.func89 rfl (by decide) (by decide) (fun x => by kernel_rfl)
noncomputable def E_seen_Keep : Ent := ⟨89, D_seen_Keep, fun x => seen_Keep x.1 x.2.1, ([], ()), true⟩
theorem E_seen_Keep_ok : E_seen_Keep.OK Go.Proofs.Tryz.prog := ⟨ok_seen_Keep, by kernel_rfl⟩
def D_seen_Put : FD := ⟨[(0, .leaf (.sl sKn)), (1, .leaf (.int .u32)), (2, .grp sSg)], [], [(0, .leaf (.own 16 sKn)), (1, .leaf (.int .i64))], [(16, .rows sKn)]⟩
def L_seen_Put : List (Nat × StD × Nat × StD) := []
noncomputable def T_seen_Put : List Ent := [E_seen_Keep, E_seen_Last, E_seen_find]
theorem ok_seen_Put : FnX Go.Proofs.Tryz.prog 47 D_seen_Put (fun x => seen_Put x.1 x.2.1 x.2.2.1) :=
  FnX.of (coL_ok (es := T_seen_Put) (OKs.mem ⟨E_seen_Keep_ok, E_seen_Last_ok, E_seen_find_ok, trivial⟩)) mix (mkLs_ok (l := L_seen_Put) (by kernel_rfl)) (by kernel_rfl) Go.Proofs.Tryz.func47 rfl (by decide) (by decide) (fun x => by kernel_rfl)
noncomputable def E_seen_Put : Ent := ⟨47, D_seen_Put, fun x => seen_Put x.1 x.2.1 x.2.2.1, ((0 : Int), ([], ())), true⟩
theorem E_seen_Put_ok : E_seen_Put.OK Go.Proofs.Tryz.prog := ⟨ok_seen_Put, by kernel_rfl⟩
def D_ops_saw : FD := ⟨[(0, .grp sSt), (1, .grp sEv)], [], [(0, .grp sSt), (1, .leaf (.int .i64))], []⟩
def L_ops_saw : List (Nat × StD × Nat × StD) := []
noncomputable def T_ops_saw : List Ent := [E_cases_Cancel, E_seen_Put, E_ops_answered]
theorem ok_ops_saw : FnX Go.Proofs.Tryz.prog 33 D_ops_saw (fun x => ops_saw x.1 x.2.1) :=
  FnX.of (coL_ok (es := T_ops_saw) (OKs.mem ⟨E_cases_Cancel_ok, E_seen_Put_ok, E_ops_answered_ok, trivial⟩)) mix (mkLs_ok (l := L_ops_saw) (by kernel_rfl)) (by kernel_rfl) Go.Proofs.Tryz.func33 rfl (by decide) (by decide) (fun x => by kernel_rfl)
noncomputable def E_ops_saw : Ent := ⟨33, D_ops_saw, fun x => ops_saw x.1 x.2.1, (((0 : Int), ((0 : Int), ([], ([], ([], ([], [])))))), ((0 : Int), ())), true⟩
theorem E_ops_saw_ok : E_ops_saw.OK Go.Proofs.Tryz.prog := ⟨ok_ops_saw, by kernel_rfl⟩
def D_cases_Approve : FD := ⟨[(0, .leaf (.sl sCa)), (1, .leaf (.int .u32)), (2, .leaf (.int .i64))], [], [(0, .leaf (.own 16 sCa)), (1, .leaf (.int .i64))], [(16, .rows sCa)]⟩
def L_cases_Approve : List (Nat × StD × Nat × StD) := []
noncomputable def T_cases_Approve : List Ent := [E_cases_next]
theorem ok_cases_Approve : FnX Go.Proofs.Tryz.prog 34 D_cases_Approve (fun x => cases_Approve x.1 x.2.1 x.2.2.1) :=
  FnX.of (coL_ok (es := T_cases_Approve) (OKs.mem ⟨E_cases_next_ok, trivial⟩)) mix (mkLs_ok (l := L_cases_Approve) (by kernel_rfl)) (by kernel_rfl) Go.Proofs.Tryz.func34 rfl (by decide) (by decide) (fun x => by kernel_rfl)
noncomputable def E_cases_Approve : Ent := ⟨34, D_cases_Approve, fun x => cases_Approve x.1 x.2.1 x.2.2.1, ((0 : Int), ([], ())), false⟩
theorem E_cases_Approve_ok : E_cases_Approve.OK Go.Proofs.Tryz.prog := ⟨ok_cases_Approve, by kernel_rfl⟩
def D_ops_lay_v2 : FD := ⟨[(0, .leaf (.ptr 0 6)), (1, .leaf (.sl sCa)), (2, .leaf (.int .i64))], [(0, .cells [(.int .i64), (.int .i64), (.sl sHd), (.sl sSw), (.sl sKn), (.sl sPr), (.sl sCa)])], [(0, .leaf (.int .i64))], [(0, .cells [(.int .i64), (.int .i64), (.sl sHd), (.sl sSw), (.sl sKn), (.sl sPr), (.sl sCa)])]⟩
def L_ops_lay_v2 : List (Nat × StD × Nat × StD) := []
noncomputable def T_ops_lay_v2 : List Ent := []
theorem ok_ops_lay_v2 : FnX Go.Proofs.Tryz.prog 35 D_ops_lay_v2 (fun x => ops_lay_v2 x.1 x.2.1 x.2.2.1 x.2.2.2.1 x.2.2.2.2.1 x.2.2.2.2.2.1 x.2.2.2.2.2.2.1 x.2.2.2.2.2.2.2.1 x.2.2.2.2.2.2.2.2.1) :=
  FnX.of (coL_ok (es := T_ops_lay_v2) (OKs.mem trivial)) mix (mkLs_ok (l := L_ops_lay_v2) (by kernel_rfl)) (by kernel_rfl) Go.Proofs.Tryz.func35 rfl (by decide) (by decide) (fun x => by kernel_rfl)
noncomputable def E_ops_lay_v2 : Ent := ⟨35, D_ops_lay_v2, fun x => ops_lay_v2 x.1 x.2.1 x.2.2.1 x.2.2.2.1 x.2.2.2.2.1 x.2.2.2.2.2.1 x.2.2.2.2.2.2.1 x.2.2.2.2.2.2.2.1 x.2.2.2.2.2.2.2.2.1, ((0 : Int), ((0 : Int), ((0 : Int), ([], ([], ([], ([], ([], ())))))))), true⟩
theorem E_ops_lay_v2_ok : E_ops_lay_v2.OK Go.Proofs.Tryz.prog := ⟨ok_ops_lay_v2, by kernel_rfl⟩
def D_cases_Reject : FD := ⟨[(0, .leaf (.sl sCa)), (1, .leaf (.int .u32)), (2, .leaf (.int .i64))], [], [(0, .leaf (.own 16 sCa)), (1, .leaf (.int .i64))], [(16, .rows sCa)]⟩
def L_cases_Reject : List (Nat × StD × Nat × StD) := []
noncomputable def T_cases_Reject : List Ent := [E_cases_next]
theorem ok_cases_Reject : FnX Go.Proofs.Tryz.prog 36 D_cases_Reject (fun x => cases_Reject x.1 x.2.1 x.2.2.1) :=
  FnX.of (coL_ok (es := T_cases_Reject) (OKs.mem ⟨E_cases_next_ok, trivial⟩)) mix (mkLs_ok (l := L_cases_Reject) (by kernel_rfl)) (by kernel_rfl) Go.Proofs.Tryz.func36 rfl (by decide) (by decide) (fun x => by kernel_rfl)
noncomputable def E_cases_Reject : Ent := ⟨36, D_cases_Reject, fun x => cases_Reject x.1 x.2.1 x.2.2.1, ((0 : Int), ([], ())), false⟩
theorem E_cases_Reject_ok : E_cases_Reject.OK Go.Proofs.Tryz.prog := ⟨ok_cases_Reject, by kernel_rfl⟩
def D_ops_Do : FD := ⟨[(0, .grp sCf), (1, .grp sSt), (2, .grp sEv)], [], [(0, .grp sSt), (1, .leaf (.own 16 sPk)), (2, .leaf (.int .i64))], [(16, .rows sPk)]⟩
def L_ops_Do : List (Nat × StD × Nat × StD) := []
noncomputable def T_ops_Do : List Ent := [E_cases_Reject, E_ops_lay_v2, E_cases_Approve, E_ops_saw, E_sweep_Take, E_ops_lay_v1, E_sweep_Put, E_ops_drop, E_ops_lay, E_held_Put, E_ops_tick]
theorem ok_ops_Do : FnX Go.Proofs.Tryz.prog 14 D_ops_Do (fun x => ops_Do x.1 x.2.1 x.2.2.1) :=
  FnX.of (coL_ok (es := T_ops_Do) (OKs.mem ⟨E_cases_Reject_ok, E_ops_lay_v2_ok, E_cases_Approve_ok, E_ops_saw_ok, E_sweep_Take_ok, E_ops_lay_v1_ok, E_sweep_Put_ok, E_ops_drop_ok, E_ops_lay_ok, E_held_Put_ok, E_ops_tick_ok, trivial⟩)) mix (mkLs_ok (l := L_ops_Do) (by kernel_rfl)) (by kernel_rfl) Go.Proofs.Tryz.func14 rfl (by decide) (by decide) (fun x => by kernel_rfl)
noncomputable def E_ops_Do : Ent := ⟨14, D_ops_Do, fun x => ops_Do x.1 x.2.1 x.2.2.1, (((0 : Int), ((0 : Int), ([], ([], ([], ([], [])))))), ((0 : Int), ([], ()))), true⟩
theorem E_ops_Do_ok : E_ops_Do.OK Go.Proofs.Tryz.prog := ⟨ok_ops_Do, by kernel_rfl⟩
def D_terrierlaw18_awake : FD := ⟨[], [], [(0, .leaf .bool)], []⟩
def L_terrierlaw18_awake : List (Nat × StD × Nat × StD) := [(6, ⟨[(1, .leaf (.ptr 16 0)), (2, .leaf (.ptr 17 0)), (4, .leaf (.int .i64)), (6, .leaf (.int .i64)), (7, .leaf (.int .i64)), (8, .leaf (.int .i64))], [(16, .grp sCf), (17, .grp sSt)], 18, 71⟩, 0, ⟨[(1, .leaf (.ptr 16 0)), (2, .leaf (.ptr 17 0)), (4, .leaf (.int .i64)), (6, .leaf (.int .i64)), (7, .leaf (.int .i64))], [(16, .grp sCf), (17, .grp sSt)], 18, 71⟩)]
noncomputable def T_terrierlaw18_awake : List Ent := [E_ops_Status, E_ops_Do]
theorem ok_terrierlaw18_awake : FnX Go.Proofs.Tryz.prog 11 D_terrierlaw18_awake (fun x => terrierlaw18_awake) :=
  FnX.of (coL_ok (es := T_terrierlaw18_awake) (OKs.mem ⟨E_ops_Status_ok, E_ops_Do_ok, trivial⟩)) mix (mkLs_ok (l := L_terrierlaw18_awake) (by kernel_rfl)) (by kernel_rfl) Go.Proofs.Tryz.func11 rfl (by decide) (by decide) (fun x => by kernel_rfl)
noncomputable def E_terrierlaw18_awake : Ent := ⟨11, D_terrierlaw18_awake, fun x => terrierlaw18_awake, (false, ()), false⟩
theorem E_terrierlaw18_awake_ok : E_terrierlaw18_awake.OK Go.Proofs.Tryz.prog := ⟨ok_terrierlaw18_awake, by kernel_rfl⟩
def D_terrierlaw10_Choice_Config : FD := ⟨[(0, .grp (.pair (.int .u8) (.pair (.int .u8) (.pair (.int .u8) sMc))))], [], [(0, .grp sCf)], []⟩
def L_terrierlaw10_Choice_Config : List (Nat × StD × Nat × StD) := []
noncomputable def T_terrierlaw10_Choice_Config : List Ent := []
theorem ok_terrierlaw10_Choice_Config : FnX Go.Proofs.Tryz.prog 12 D_terrierlaw10_Choice_Config (fun x => terrierlaw10_Choice_Config x.1) :=
  FnX.of (coL_ok (es := T_terrierlaw10_Choice_Config) (OKs.mem trivial)) mix (mkLs_ok (l := L_terrierlaw10_Choice_Config) (by kernel_rfl)) (by kernel_rfl) Go.Proofs.Tryz.func12 rfl (by decide) (by decide) (fun x => by kernel_rfl)
noncomputable def E_terrierlaw10_Choice_Config : Ent := ⟨12, D_terrierlaw10_Choice_Config, fun x => terrierlaw10_Choice_Config x.1, (((0 : Int), ((0 : Int), ((0 : Int), ((0 : Int), ((0 : Int), ((0 : Int), ((0 : Int), ((0 : Int), (0 : Int))))))))), ()), false⟩
theorem E_terrierlaw10_Choice_Config_ok : E_terrierlaw10_Choice_Config.OK Go.Proofs.Tryz.prog := ⟨ok_terrierlaw10_Choice_Config, by kernel_rfl⟩
def D_terrierlaw11_Station : FD := ⟨[(0, .leaf (.int .u8))], [], [(0, .grp sMc)], []⟩
def L_terrierlaw11_Station : List (Nat × StD × Nat × StD) := []
noncomputable def T_terrierlaw11_Station : List Ent := []
theorem ok_terrierlaw11_Station : FnX Go.Proofs.Tryz.prog 53 D_terrierlaw11_Station (fun x => terrierlaw11_Station x.1) :=
  FnX.of (coL_ok (es := T_terrierlaw11_Station) (OKs.mem trivial)) mix (mkLs_ok (l := L_terrierlaw11_Station) (by kernel_rfl)) (by kernel_rfl) Go.Proofs.Tryz.func53 rfl (by decide) (by decide) (fun x => by kernel_rfl)
noncomputable def E_terrierlaw11_Station : Ent := ⟨53, D_terrierlaw11_Station, fun x => terrierlaw11_Station x.1, (((0 : Int), ((0 : Int), ((0 : Int), ((0 : Int), ((0 : Int), (0 : Int)))))), ()), false⟩
theorem E_terrierlaw11_Station_ok : E_terrierlaw11_Station.OK Go.Proofs.Tryz.prog := ⟨ok_terrierlaw11_Station, by kernel_rfl⟩
def D_terrierlaw01_Block : FD := ⟨[(0, .leaf (.int .u32)), (1, .leaf (.int .u8))], [], [(0, .grp sBk)], []⟩
def L_terrierlaw01_Block : List (Nat × StD × Nat × StD) := []
noncomputable def T_terrierlaw01_Block : List Ent := []
theorem ok_terrierlaw01_Block : FnX Go.Proofs.Tryz.prog 54 D_terrierlaw01_Block (fun x => terrierlaw01_Block x.1 x.2.1) :=
  FnX.of (coL_ok (es := T_terrierlaw01_Block) (OKs.mem trivial)) mix (mkLs_ok (l := L_terrierlaw01_Block) (by kernel_rfl)) (by kernel_rfl) Go.Proofs.Tryz.func54 rfl (by decide) (by decide) (fun x => by kernel_rfl)
noncomputable def E_terrierlaw01_Block : Ent := ⟨54, D_terrierlaw01_Block, fun x => terrierlaw01_Block x.1 x.2.1, (((0 : Int), (0 : Int)), ()), false⟩
theorem E_terrierlaw01_Block_ok : E_terrierlaw01_Block.OK Go.Proofs.Tryz.prog := ⟨ok_terrierlaw01_Block, by kernel_rfl⟩
def D_terrierlaw18_Act_Event : FD := ⟨[(0, .grp sMc)], [], [(0, .grp sEv)], []⟩
def L_terrierlaw18_Act_Event : List (Nat × StD × Nat × StD) := []
noncomputable def T_terrierlaw18_Act_Event : List Ent := [E_terrierlaw01_Block, E_terrierlaw11_Station]
theorem ok_terrierlaw18_Act_Event : FnX Go.Proofs.Tryz.prog 25 D_terrierlaw18_Act_Event (fun x => terrierlaw18_Act_Event x.1) :=
  FnX.of (coL_ok (es := T_terrierlaw18_Act_Event) (OKs.mem ⟨E_terrierlaw01_Block_ok, E_terrierlaw11_Station_ok, trivial⟩)) mix (mkLs_ok (l := L_terrierlaw18_Act_Event) (by kernel_rfl)) (by kernel_rfl) Go.Proofs.Tryz.func25 rfl (by decide) (by decide) (fun x => by kernel_rfl)
noncomputable def E_terrierlaw18_Act_Event : Ent := ⟨25, D_terrierlaw18_Act_Event, fun x => terrierlaw18_Act_Event x.1, (((0 : Int), (((0 : Int), ([], ((0 : Int), ((0 : Int), ((0 : Int), ((0 : Int), ((0 : Int), (0 : Int)))))))), (((0 : Int), (0 : Int)), ((0 : Int), (((0 : Int), ((0 : Int), ((0 : Int), ((0 : Int), ((0 : Int), (0 : Int)))))), (0 : Int)))))), ()), false⟩
theorem E_terrierlaw18_Act_Event_ok : E_terrierlaw18_Act_Event.OK Go.Proofs.Tryz.prog := ⟨ok_terrierlaw18_Act_Event, by kernel_rfl⟩
def D_terrierlaw18_Events : FD := ⟨[(0, .leaf (.sl sMc))], [], [(0, .leaf (.own 16 sEv))], [(16, .rows sEv)]⟩
def L_terrierlaw18_Events : List (Nat × StD × Nat × StD) := [(3, ⟨[(3, .leaf (.own 16 sEv)), (12, .leaf (.sl sMc)), (13, .leaf (.int .i64)), (14, .leaf (.int .i64))], [(16, .rows sEv)], 17, 43⟩, 0, ⟨[(3, .leaf (.own 16 sEv))], [(16, .rows sEv)], 17, 43⟩), (8, ⟨[(3, .leaf (.own 16 sEv)), (5, .leaf (.ptr 17 0)), (6, .leaf (.ptr 18 0)), (7, .leaf (.int .i64)), (12, .leaf (.sl sMc)), (13, .leaf (.int .i64)), (14, .leaf (.int .i64))], [(16, .rows sEv), (17, .cells [(.int .u8), (.int .u8), (.int .u8), (.int .u8), (.int .u8), (.int .u8)]), (18, .cells [(.int .i64), (.int .u32), .str, (.int .u8), (.int .u8), (.int .u8), (.int .u8), (.int .u8), (.int .u8), (.int .u32), (.int .i64), (.int .i64), (.int .u8), (.int .u8), (.int .u8), (.int .u8), (.int .u8), (.int .u8), (.int .i64)])], 19, 43⟩, 2, ⟨[(3, .leaf (.own 16 sEv)), (12, .leaf (.sl sMc)), (13, .leaf (.int .i64)), (14, .leaf (.int .i64))], [(16, .rows sEv)], 17, 43⟩)]
noncomputable def T_terrierlaw18_Events : List Ent := [E_terrierlaw18_Act_Event]
theorem ok_terrierlaw18_Events : FnX Go.Proofs.Tryz.prog 13 D_terrierlaw18_Events (fun x => terrierlaw18_Events x.1) :=
  FnX.of (coL_ok (es := T_terrierlaw18_Events) (OKs.mem ⟨E_terrierlaw18_Act_Event_ok, trivial⟩)) mix (mkLs_ok (l := L_terrierlaw18_Events) (by kernel_rfl)) (by kernel_rfl) Go.Proofs.Tryz.func13 rfl (by decide) (by decide) (fun x => by kernel_rfl)
noncomputable def E_terrierlaw18_Events : Ent := ⟨13, D_terrierlaw18_Events, fun x => terrierlaw18_Events x.1, ([], ()), false⟩
theorem E_terrierlaw18_Events_ok : E_terrierlaw18_Events.OK Go.Proofs.Tryz.prog := ⟨ok_terrierlaw18_Events, by kernel_rfl⟩
def D_terrierlaw18_Same : FD := ⟨[(0, .grp sSt), (1, .grp sSt)], [], [(0, .leaf .bool)], []⟩
def L_terrierlaw18_Same : List (Nat × StD × Nat × StD) := [(5, ⟨[(2, .leaf (.ptr 16 0)), (3, .leaf (.ptr 17 0)), (5, .leaf .bool), (71, .leaf (.int .i64)), (72, .leaf (.int .i64))], [(16, .grp sSt), (17, .grp sSt)], 18, 227⟩, 0, ⟨[(2, .leaf (.ptr 16 0)), (3, .leaf (.ptr 17 0)), (5, .leaf .bool)], [(16, .grp sSt), (17, .grp sSt)], 18, 227⟩), (10, ⟨[(2, .leaf (.ptr 16 0)), (3, .leaf (.ptr 17 0)), (5, .leaf .bool), (92, .leaf (.int .i64)), (93, .leaf (.int .i64))], [(16, .grp sSt), (17, .grp sSt)], 18, 227⟩, 2, ⟨[(2, .leaf (.ptr 16 0)), (3, .leaf (.ptr 17 0)), (5, .leaf .bool)], [(16, .grp sSt), (17, .grp sSt)], 18, 227⟩), (15, ⟨[(2, .leaf (.ptr 16 0)), (3, .leaf (.ptr 17 0)), (5, .leaf .bool), (113, .leaf (.int .i64)), (114, .leaf (.int .i64))], [(16, .grp sSt), (17, .grp sSt)], 18, 227⟩, 4, ⟨[(2, .leaf (.ptr 16 0)), (3, .leaf (.ptr 17 0)), (5, .leaf .bool)], [(16, .grp sSt), (17, .grp sSt)], 18, 227⟩), (20, ⟨[(2, .leaf (.ptr 16 0)), (3, .leaf (.ptr 17 0)), (5, .leaf .bool), (134, .leaf (.int .i64)), (135, .leaf (.int .i64))], [(16, .grp sSt), (17, .grp sSt)], 18, 227⟩, 6, ⟨[(2, .leaf (.ptr 16 0)), (3, .leaf (.ptr 17 0)), (5, .leaf .bool)], [(16, .grp sSt), (17, .grp sSt)], 18, 227⟩), (25, ⟨[(2, .leaf (.ptr 16 0)), (3, .leaf (.ptr 17 0)), (5, .leaf .bool), (155, .leaf (.int .i64)), (156, .leaf (.int .i64))], [(16, .grp sSt), (17, .grp sSt)], 18, 227⟩, 8, ⟨[(5, .leaf .bool)], [], 16, 227⟩), (29, ⟨[(2, .leaf (.ptr 16 0)), (3, .leaf (.ptr 17 0)), (5, .leaf .bool), (10, .leaf (.int .i64)), (11, .leaf (.int .i64)), (155, .leaf (.int .i64)), (156, .leaf (.int .i64))], [(16, .grp sSt), (17, .grp sSt)], 18, 227⟩, 10, ⟨[(2, .leaf (.ptr 16 0)), (3, .leaf (.ptr 17 0)), (5, .leaf .bool), (155, .leaf (.int .i64)), (156, .leaf (.int .i64))], [(16, .grp sSt), (17, .grp sSt)], 18, 227⟩)]
noncomputable def T_terrierlaw18_Same : List Ent := []
theorem ok_terrierlaw18_Same : FnX Go.Proofs.Tryz.prog 20 D_terrierlaw18_Same (fun x => terrierlaw18_Same x.1 x.2.1) :=
  FnX.of (coL_ok (es := T_terrierlaw18_Same) (OKs.mem trivial)) mix (mkLs_ok (l := L_terrierlaw18_Same) (by kernel_rfl)) (by kernel_rfl) Go.Proofs.Tryz.func20 rfl (by decide) (by decide) (fun x => by kernel_rfl)
noncomputable def E_terrierlaw18_Same : Ent := ⟨20, D_terrierlaw18_Same, fun x => terrierlaw18_Same x.1 x.2.1, (false, ()), false⟩
theorem E_terrierlaw18_Same_ok : E_terrierlaw18_Same.OK Go.Proofs.Tryz.prog := ⟨ok_terrierlaw18_Same, by kernel_rfl⟩
def D_terrierlaw18_how : FD := ⟨[(0, .grp sCf), (1, .grp sSt), (2, .leaf (.int .u32))], [], [(0, .leaf (.int .i64))], []⟩
def L_terrierlaw18_how : List (Nat × StD × Nat × StD) := []
noncomputable def T_terrierlaw18_how : List Ent := [E_status_Of, E_status_Of_v1, E_seen_Of, E_held_Get]
theorem ok_terrierlaw18_how : FnX Go.Proofs.Tryz.prog 24 D_terrierlaw18_how (fun x => terrierlaw18_how x.1 x.2.1 x.2.2.1) :=
  FnX.of (coL_ok (es := T_terrierlaw18_how) (OKs.mem ⟨E_status_Of_ok, E_status_Of_v1_ok, E_seen_Of_ok, E_held_Get_ok, trivial⟩)) mix (mkLs_ok (l := L_terrierlaw18_how) (by kernel_rfl)) (by kernel_rfl) Go.Proofs.Tryz.func24 rfl (by decide) (by decide) (fun x => by kernel_rfl)
noncomputable def E_terrierlaw18_how : Ent := ⟨24, D_terrierlaw18_how, fun x => terrierlaw18_how x.1 x.2.1 x.2.2.1, ((0 : Int), ()), false⟩
theorem E_terrierlaw18_how_ok : E_terrierlaw18_how.OK Go.Proofs.Tryz.prog := ⟨ok_terrierlaw18_how, by kernel_rfl⟩
def D_terrierlaw18_stop : FD := ⟨[(0, .grp sSt), (1, .leaf (.int .u32))], [], [(0, .grp sSt)], []⟩
def L_terrierlaw18_stop : List (Nat × StD × Nat × StD) := []
noncomputable def T_terrierlaw18_stop : List Ent := [E_cases_Cancel]
theorem ok_terrierlaw18_stop : FnX Go.Proofs.Tryz.prog 46 D_terrierlaw18_stop (fun x => terrierlaw18_stop x.1 x.2.1) :=
  FnX.of (coL_ok (es := T_terrierlaw18_stop) (OKs.mem ⟨E_cases_Cancel_ok, trivial⟩)) mix (mkLs_ok (l := L_terrierlaw18_stop) (by kernel_rfl)) (by kernel_rfl) Go.Proofs.Tryz.func46 rfl (by decide) (by decide) (fun x => by kernel_rfl)
noncomputable def E_terrierlaw18_stop : Ent := ⟨46, D_terrierlaw18_stop, fun x => terrierlaw18_stop x.1 x.2.1, (((0 : Int), ((0 : Int), ([], ([], ([], ([], [])))))), ()), true⟩
theorem E_terrierlaw18_stop_ok : E_terrierlaw18_stop.OK Go.Proofs.Tryz.prog := ⟨ok_terrierlaw18_stop, by kernel_rfl⟩
def D_terrierlaw18_tick : FD := ⟨[(0, .grp sCf), (1, .grp sSt)], [], [(0, .grp sSt), (1, .leaf (.own 16 sPk))], [(16, .rows sPk)]⟩
def L_terrierlaw18_tick : List (Nat × StD × Nat × StD) := [(4, ⟨[(2, .leaf (.ptr 16 0)), (3, .leaf (.ptr 17 0)), (4, .leaf (.ptr 18 0)), (42, .leaf (.own 19 sCa)), (43, .leaf (.int .i64)), (44, .leaf (.int .i64))], [(16, .grp sCf), (17, .grp sSt), (18, .grp sSt), (19, .rows sCa)], 20, 251⟩, 0, ⟨[(2, .leaf (.ptr 16 0)), (3, .leaf (.ptr 17 0)), (4, .leaf (.ptr 18 0))], [(16, .grp sCf), (17, .grp sSt), (18, .grp sSt)], 19, 251⟩), (13, ⟨[(2, .leaf (.ptr 16 0)), (3, .leaf (.ptr 17 0)), (4, .leaf (.ptr 18 0)), (88, .leaf (.sl sHd)), (89, .leaf (.int .i64)), (90, .leaf (.int .i64))], [(16, .grp sCf), (17, .grp sSt), (18, .grp sSt)], 19, 251⟩, 2, ⟨[(2, .leaf (.ptr 16 0)), (3, .leaf (.ptr 17 0)), (4, .leaf (.ptr 18 0))], [(16, .grp sCf), (17, .grp sSt), (18, .grp sSt)], 19, 251⟩), (21, ⟨[(2, .leaf (.ptr 16 0)), (3, .leaf (.ptr 17 0)), (4, .leaf (.ptr 18 0)), (12, .leaf (.own 19 sKn)), (119, .leaf (.sl sKn)), (120, .leaf (.int .i64)), (121, .leaf (.int .i64))], [(19, .rows sKn), (16, .grp sCf), (17, .grp sSt), (18, .grp sSt)], 20, 251⟩, 4, ⟨[(2, .leaf (.ptr 16 0)), (3, .leaf (.ptr 17 0)), (4, .leaf (.ptr 18 0)), (12, .leaf (.own 19 sKn))], [(16, .grp sCf), (17, .grp sSt), (18, .grp sSt), (19, .rows sKn)], 20, 251⟩), (32, ⟨[(2, .leaf (.ptr 16 0)), (3, .leaf (.ptr 17 0)), (4, .leaf (.ptr 18 0)), (17, .leaf (.own 19 sPk)), (18, .leaf (.sl sPr)), (19, .leaf (.sl sPr)), (171, .leaf (.sl sPr)), (172, .leaf (.int .i64)), (173, .leaf (.int .i64))], [(19, .rows sPk), (16, .grp sCf), (17, .grp sSt), (18, .grp sSt)], 20, 251⟩, 6, ⟨[(2, .leaf (.ptr 16 0)), (3, .leaf (.ptr 17 0)), (4, .leaf (.ptr 18 0)), (17, .leaf (.own 19 sPk)), (18, .leaf (.sl sPr)), (19, .leaf (.sl sPr))], [(16, .grp sCf), (17, .grp sSt), (18, .grp sSt), (19, .rows sPk)], 20, 251⟩), (39, ⟨[(3, .leaf (.ptr 16 0)), (4, .leaf (.ptr 17 0)), (17, .leaf (.own 18 sPk)), (208, .leaf (.sl (.int .u32))), (209, .leaf (.int .i64)), (210, .leaf (.int .i64))], [(16, .grp sSt), (17, .grp sSt), (18, .rows sPk)], 19, 251⟩, 8, ⟨[(3, .leaf (.ptr 16 0)), (4, .leaf (.ptr 17 0)), (17, .leaf (.own 18 sPk))], [(16, .grp sSt), (17, .grp sSt), (18, .rows sPk)], 19, 251⟩)]
noncomputable def T_terrierlaw18_tick : List Ent := [E_probe_Put, E_sweep_Plan_w1, E_probe_Late, E_held_Get, E_cases_Raise, E_terrierlaw18_stop, E_held_Take, E_cases_Done, E_terrierlaw18_how, E_cases_Tick]
theorem ok_terrierlaw18_tick : FnX Go.Proofs.Tryz.prog 44 D_terrierlaw18_tick (fun x => terrierlaw18_tick x.1 x.2.1) :=
  FnX.of (coL_ok (es := T_terrierlaw18_tick) (OKs.mem ⟨E_probe_Put_ok, E_sweep_Plan_w1_ok, E_probe_Late_ok, E_held_Get_ok, E_cases_Raise_ok, E_terrierlaw18_stop_ok, E_held_Take_ok, E_cases_Done_ok, E_terrierlaw18_how_ok, E_cases_Tick_ok, trivial⟩)) mix (mkLs_ok (l := L_terrierlaw18_tick) (by kernel_rfl)) (by kernel_rfl) Go.Proofs.Tryz.func44 rfl (by decide) (by decide) (fun x => by kernel_rfl)
noncomputable def E_terrierlaw18_tick : Ent := ⟨44, D_terrierlaw18_tick, fun x => terrierlaw18_tick x.1 x.2.1, (((0 : Int), ((0 : Int), ([], ([], ([], ([], [])))))), ([], ())), true⟩
theorem E_terrierlaw18_tick_ok : E_terrierlaw18_tick.OK Go.Proofs.Tryz.prog := ⟨ok_terrierlaw18_tick, by kernel_rfl⟩
def D_terrierlaw18_Do : FD := ⟨[(0, .grp sCf), (1, .grp sSt), (2, .grp sEv)], [], [(0, .grp sSt), (1, .leaf (.own 16 sPk)), (2, .leaf (.int .i64))], [(16, .rows sPk)]⟩
def L_terrierlaw18_Do : List (Nat × StD × Nat × StD) := [(25, ⟨[(4, .leaf (.ptr 16 0)), (6, .leaf (.ptr 17 0)), (9, .leaf (.ptr 18 0)), (11, .leaf (.int .u32)), (14, .leaf (.ptr 19 0)), (15, .leaf (.own 20 sPr)), (123, .leaf (.sl sPr)), (124, .leaf (.int .i64)), (125, .leaf (.int .i64))], [(20, .rows sPr), (16, .grp sSt), (17, .grp sSt), (18, .grp sSt), (19, .grp sSg)], 21, 164⟩, 1, ⟨[(4, .leaf (.ptr 16 0)), (6, .leaf (.ptr 17 0)), (9, .leaf (.ptr 18 0)), (11, .leaf (.int .u32)), (14, .leaf (.ptr 19 0)), (15, .leaf (.own 20 sPr))], [(16, .grp sSt), (17, .grp sSt), (18, .grp sSt), (19, .grp sSg), (20, .rows sPr)], 21, 164⟩)]
noncomputable def T_terrierlaw18_Do : List Ent := [E_seen_Put, E_cases_Reject, E_cases_Approve, E_sweep_Take, E_sweep_Put, E_terrierlaw18_stop, E_held_Take, E_held_Put, E_terrierlaw18_tick]
theorem ok_terrierlaw18_Do : FnX Go.Proofs.Tryz.prog 21 D_terrierlaw18_Do (fun x => terrierlaw18_Do x.1 x.2.1 x.2.2.1) :=
  FnX.of (coL_ok (es := T_terrierlaw18_Do) (OKs.mem ⟨E_seen_Put_ok, E_cases_Reject_ok, E_cases_Approve_ok, E_sweep_Take_ok, E_sweep_Put_ok, E_terrierlaw18_stop_ok, E_held_Take_ok, E_held_Put_ok, E_terrierlaw18_tick_ok, trivial⟩)) mix (mkLs_ok (l := L_terrierlaw18_Do) (by kernel_rfl)) (by kernel_rfl) Go.Proofs.Tryz.func21 rfl (by decide) (by decide) (fun x => by kernel_rfl)
noncomputable def E_terrierlaw18_Do : Ent := ⟨21, D_terrierlaw18_Do, fun x => terrierlaw18_Do x.1 x.2.1 x.2.2.1, (((0 : Int), ((0 : Int), ([], ([], ([], ([], [])))))), ((0 : Int), ([], ()))), true⟩
theorem E_terrierlaw18_Do_ok : E_terrierlaw18_Do.OK Go.Proofs.Tryz.prog := ⟨ok_terrierlaw18_Do, by kernel_rfl⟩
def D_terrierlaw18_packets : FD := ⟨[(0, .leaf (.sl sPk)), (1, .leaf (.sl sPk))], [], [(0, .leaf .bool)], []⟩
def L_terrierlaw18_packets : List (Nat × StD × Nat × StD) := [(4, ⟨[(0, .leaf (.sl sPk)), (1, .leaf (.sl sPk)), (12, .leaf (.int .i64)), (13, .leaf (.int .i64))], [], 16, 26⟩, 0, ⟨[], [], 16, 26⟩)]
noncomputable def T_terrierlaw18_packets : List Ent := []
theorem ok_terrierlaw18_packets : FnX Go.Proofs.Tryz.prog 22 D_terrierlaw18_packets (fun x => terrierlaw18_packets x.1 x.2.1) :=
  FnX.of (coL_ok (es := T_terrierlaw18_packets) (OKs.mem trivial)) mix (mkLs_ok (l := L_terrierlaw18_packets) (by kernel_rfl)) (by kernel_rfl) Go.Proofs.Tryz.func22 rfl (by decide) (by decide) (fun x => by kernel_rfl)
noncomputable def E_terrierlaw18_packets : Ent := ⟨22, D_terrierlaw18_packets, fun x => terrierlaw18_packets x.1 x.2.1, (false, ()), false⟩
theorem E_terrierlaw18_packets_ok : E_terrierlaw18_packets.OK Go.Proofs.Tryz.prog := ⟨ok_terrierlaw18_packets, by kernel_rfl⟩
def D_held_Right : FD := ⟨[(0, .leaf (.sl sHd))], [], [(0, .leaf .bool)], []⟩
def L_held_Right : List (Nat × StD × Nat × StD) := [(2, ⟨[(0, .leaf (.sl sHd)), (5, .leaf (.sl sHd)), (6, .leaf (.int .i64)), (7, .leaf (.int .i64))], [], 16, 35⟩, 0, ⟨[(0, .leaf (.sl sHd))], [], 16, 35⟩)]
noncomputable def T_held_Right : List Ent := [E_held_May]
theorem ok_held_Right : FnX Go.Proofs.Tryz.prog 48 D_held_Right (fun x => held_Right x.1) :=
  FnX.of (coL_ok (es := T_held_Right) (OKs.mem ⟨E_held_May_ok, trivial⟩)) mix (mkLs_ok (l := L_held_Right) (by kernel_rfl)) (by kernel_rfl) Go.Proofs.Tryz.func48 rfl (by decide) (by decide) (fun x => by kernel_rfl)
noncomputable def E_held_Right : Ent := ⟨48, D_held_Right, fun x => held_Right x.1, (false, ()), false⟩
theorem E_held_Right_ok : E_held_Right.OK Go.Proofs.Tryz.prog := ⟨ok_held_Right, by kernel_rfl⟩
def D_seen_Right : FD := ⟨[(0, .leaf (.sl sKn))], [], [(0, .leaf .bool)], []⟩
def L_seen_Right : List (Nat × StD × Nat × StD) := [(2, ⟨[(0, .leaf (.sl sKn)), (7, .leaf (.sl sKn)), (8, .leaf (.int .i64)), (9, .leaf (.int .i64))], [], 16, 81⟩, 0, ⟨[(0, .leaf (.sl sKn))], [], 16, 81⟩), (7, ⟨[(0, .leaf (.sl sKn)), (4, .leaf (.ptr 16 0)), (7, .leaf (.sl sKn)), (8, .leaf (.int .i64)), (9, .leaf (.int .i64)), (40, .leaf (.sl sSg)), (41, .leaf (.int .i64)), (42, .leaf (.int .i64))], [(16, .cells [(.int .u32), (.sl sSg)])], 17, 81⟩, 2, ⟨[(0, .leaf (.sl sKn)), (7, .leaf (.sl sKn)), (8, .leaf (.int .i64)), (9, .leaf (.int .i64))], [], 16, 81⟩)]
noncomputable def T_seen_Right : List Ent := []
theorem ok_seen_Right : FnX Go.Proofs.Tryz.prog 49 D_seen_Right (fun x => seen_Right x.1) :=
  FnX.of (coL_ok (es := T_seen_Right) (OKs.mem trivial)) mix (mkLs_ok (l := L_seen_Right) (by kernel_rfl)) (by kernel_rfl) Go.Proofs.Tryz.func49 rfl (by decide) (by decide) (fun x => by kernel_rfl)
noncomputable def E_seen_Right : Ent := ⟨49, D_seen_Right, fun x => seen_Right x.1, (false, ()), false⟩
theorem E_seen_Right_ok : E_seen_Right.OK Go.Proofs.Tryz.prog := ⟨ok_seen_Right, by kernel_rfl⟩
def D_sweep_Right : FD := ⟨[(0, .leaf (.sl sSw))], [], [(0, .leaf .bool)], []⟩
def L_sweep_Right : List (Nat × StD × Nat × StD) := [(2, ⟨[(0, .leaf (.sl sSw)), (5, .leaf (.sl sSw)), (6, .leaf (.int .i64)), (7, .leaf (.int .i64))], [], 16, 73⟩, 0, ⟨[(0, .leaf (.sl sSw))], [], 16, 73⟩)]
noncomputable def T_sweep_Right : List Ent := [E_addr_Overlap, E_clock_Clamp, E_addr_Size, E_addr_Right]
theorem ok_sweep_Right : FnX Go.Proofs.Tryz.prog 50 D_sweep_Right (fun x => sweep_Right x.1) :=
  FnX.of (coL_ok (es := T_sweep_Right) (OKs.mem ⟨E_addr_Overlap_ok, E_clock_Clamp_ok, E_addr_Size_ok, E_addr_Right_ok, trivial⟩)) mix (mkLs_ok (l := L_sweep_Right) (by kernel_rfl)) (by kernel_rfl) Go.Proofs.Tryz.func50 rfl (by decide) (by decide) (fun x => by kernel_rfl)
noncomputable def E_sweep_Right : Ent := ⟨50, D_sweep_Right, fun x => sweep_Right x.1, (false, ()), false⟩
theorem E_sweep_Right_ok : E_sweep_Right.OK Go.Proofs.Tryz.prog := ⟨ok_sweep_Right, by kernel_rfl⟩
def D_probe_Right_1 : FD := ⟨[(0, .grp sPr), (1, .leaf (.fpt sPr 0))], [], [(0, .leaf .bool)], []⟩
def L_probe_Right_1 : List (Nat × StD × Nat × StD) := []
noncomputable def T_probe_Right_1 : List Ent := []
theorem ok_probe_Right_1 : FnX Go.Proofs.Tryz.prog 91 D_probe_Right_1 (fun x => probe_Right_1 x.1 x.2.1) :=
  FnX.of (coL_ok (es := T_probe_Right_1) (OKs.mem trivial)) mix (mkLs_ok (l := L_probe_Right_1) (by kernel_rfl)) (by kernel_rfl) Go.Proofs.Tryz.func91 rfl (by decide) (by decide) (fun x => by kernel_rfl)
noncomputable def E_probe_Right_1 : Ent := ⟨91, D_probe_Right_1, fun x => probe_Right_1 x.1 x.2.1, (false, ()), false⟩
theorem E_probe_Right_1_ok : E_probe_Right_1.OK Go.Proofs.Tryz.prog := ⟨ok_probe_Right_1, by kernel_rfl⟩
def D_slices_IndexFunc : FD := ⟨[(0, .leaf (.sl sPr)), (1, .fn 91 [] [(.fpt sPr 0)])], [], [(0, .leaf (.int .i64))], []⟩
def L_slices_IndexFunc : List (Nat × StD × Nat × StD) := [(2, ⟨[(0, .leaf (.sl sPr)), (1, .fn 91 [] [(.fpt sPr 0)]), (7, .leaf (.int .i64)), (8, .leaf (.int .i64))], [], 16, 19⟩, 0, ⟨[], [], 16, 19⟩)]
noncomputable def T_slices_IndexFunc : List Ent := [E_probe_Right_1]
theorem ok_slices_IndexFunc : FnX Go.Proofs.Tryz.prog 102 D_slices_IndexFunc (fun x => slices_IndexFunc x.1 x.2.1) :=
  FnX.of (coL_ok (es := T_slices_IndexFunc) (OKs.mem ⟨E_probe_Right_1_ok, trivial⟩)) mix (mkLs_ok (l := L_slices_IndexFunc) (by kernel_rfl)) (by kernel_rfl) Go.Proofs.Tryz.func102 rfl (by decide) (by decide) (fun x => by kernel_rfl)
noncomputable def E_slices_IndexFunc : Ent := ⟨102, D_slices_IndexFunc, fun x => slices_IndexFunc x.1 x.2.1, ((0 : Int), ()), false⟩
theorem E_slices_IndexFunc_ok : E_slices_IndexFunc.OK Go.Proofs.Tryz.prog := ⟨ok_slices_IndexFunc, by kernel_rfl⟩
def D_slices_ContainsFunc : FD := ⟨[(0, .leaf (.sl sPr)), (1, .fn 91 [] [(.fpt sPr 0)])], [], [(0, .leaf .bool)], []⟩
def L_slices_ContainsFunc : List (Nat × StD × Nat × StD) := []
noncomputable def T_slices_ContainsFunc : List Ent := [E_slices_IndexFunc]
theorem ok_slices_ContainsFunc : FnX Go.Proofs.Tryz.prog 90 D_slices_ContainsFunc (fun x => slices_ContainsFunc x.1 x.2.1) :=
  FnX.of (coL_ok (es := T_slices_ContainsFunc) (OKs.mem ⟨E_slices_IndexFunc_ok, trivial⟩)) mix (mkLs_ok (l := L_slices_ContainsFunc) (by kernel_rfl)) (by kernel_rfl) Go.Proofs.Tryz.func90 rfl (by decide) (by decide) (fun x => by kernel_rfl)
noncomputable def E_slices_ContainsFunc : Ent := ⟨90, D_slices_ContainsFunc, fun x => slices_ContainsFunc x.1 x.2.1, (false, ()), false⟩
theorem E_slices_ContainsFunc_ok : E_slices_ContainsFunc.OK Go.Proofs.Tryz.prog := ⟨ok_slices_ContainsFunc, by kernel_rfl⟩
def D_probe_Right : FD := ⟨[(0, .leaf (.sl sPr))], [], [(0, .leaf .bool)], []⟩
def L_probe_Right : List (Nat × StD × Nat × StD) := [(2, ⟨[(0, .leaf (.sl sPr)), (5, .leaf (.sl sPr)), (6, .leaf (.int .i64)), (7, .leaf (.int .i64))], [], 16, 56⟩, 0, ⟨[(0, .leaf (.sl sPr))], [], 16, 56⟩)]
noncomputable def T_probe_Right : List Ent := [E_slices_ContainsFunc, E_clock_Clamp]
theorem ok_probe_Right : FnX Go.Proofs.Tryz.prog 51 D_probe_Right (fun x => probe_Right x.1) :=
  FnX.of (coL_ok (es := T_probe_Right) (OKs.mem ⟨E_slices_ContainsFunc_ok, E_clock_Clamp_ok, trivial⟩)) mix (mkLs_ok (l := L_probe_Right) (by kernel_rfl)) (by kernel_rfl) Go.Proofs.Tryz.func51 rfl (by decide) (by decide) (fun x => by kernel_rfl)
noncomputable def E_probe_Right : Ent := ⟨51, D_probe_Right, fun x => probe_Right x.1, (false, ()), false⟩
theorem E_probe_Right_ok : E_probe_Right.OK Go.Proofs.Tryz.prog := ⟨ok_probe_Right, by kernel_rfl⟩
def D_cases_Right : FD := ⟨[(0, .leaf (.sl sCa))], [], [(0, .leaf .bool)], []⟩
def L_cases_Right : List (Nat × StD × Nat × StD) := [(2, ⟨[(0, .leaf (.sl sCa)), (5, .leaf (.sl sCa)), (6, .leaf (.int .i64)), (7, .leaf (.int .i64))], [], 16, 69⟩, 0, ⟨[(0, .leaf (.sl sCa))], [], 16, 69⟩)]
noncomputable def T_cases_Right : List Ent := [E_cases_Find, E_cases_Open, E_clock_Clamp]
theorem ok_cases_Right : FnX Go.Proofs.Tryz.prog 52 D_cases_Right (fun x => cases_Right x.1) :=
  FnX.of (coL_ok (es := T_cases_Right) (OKs.mem ⟨E_cases_Find_ok, E_cases_Open_ok, E_clock_Clamp_ok, trivial⟩)) mix (mkLs_ok (l := L_cases_Right) (by kernel_rfl)) (by kernel_rfl) Go.Proofs.Tryz.func52 rfl (by decide) (by decide) (fun x => by kernel_rfl)
noncomputable def E_cases_Right : Ent := ⟨52, D_cases_Right, fun x => cases_Right x.1, (false, ()), false⟩
theorem E_cases_Right_ok : E_cases_Right.OK Go.Proofs.Tryz.prog := ⟨ok_cases_Right, by kernel_rfl⟩
def D_terrierlaw18_Right : FD := ⟨[(0, .grp sSt)], [], [(0, .leaf .bool)], []⟩
def L_terrierlaw18_Right : List (Nat × StD × Nat × StD) := []
noncomputable def T_terrierlaw18_Right : List Ent := [E_cases_Right, E_probe_Right, E_sweep_Right, E_seen_Right, E_held_Right]
theorem ok_terrierlaw18_Right : FnX Go.Proofs.Tryz.prog 23 D_terrierlaw18_Right (fun x => terrierlaw18_Right x.1) :=
  FnX.of (coL_ok (es := T_terrierlaw18_Right) (OKs.mem ⟨E_cases_Right_ok, E_probe_Right_ok, E_sweep_Right_ok, E_seen_Right_ok, E_held_Right_ok, trivial⟩)) mix (mkLs_ok (l := L_terrierlaw18_Right) (by kernel_rfl)) (by kernel_rfl) Go.Proofs.Tryz.func23 rfl (by decide) (by decide) (fun x => by kernel_rfl)
noncomputable def E_terrierlaw18_Right : Ent := ⟨23, D_terrierlaw18_Right, fun x => terrierlaw18_Right x.1, (false, ()), false⟩
theorem E_terrierlaw18_Right_ok : E_terrierlaw18_Right.OK Go.Proofs.Tryz.prog := ⟨ok_terrierlaw18_Right, by kernel_rfl⟩
def D_terrierlaw18_OpsDo : FD := ⟨[(0, .grp (.pair (.int .u8) (.pair (.int .u8) (.pair (.int .u8) sMc)))), (1, .leaf (.sl sMc))], [], [(0, .leaf .bool)], []⟩
def L_terrierlaw18_OpsDo : List (Nat × StD × Nat × StD) := [(6, ⟨[(5, .leaf (.ptr 16 0)), (6, .leaf (.ptr 17 0)), (20, .leaf (.own 18 sEv)), (21, .leaf (.int .i64)), (22, .leaf (.int .i64))], [(16, .grp sCf), (17, .grp sSt), (18, .rows sEv)], 19, 77⟩, 0, ⟨[], [], 16, 77⟩)]
noncomputable def T_terrierlaw18_OpsDo : List Ent := [E_terrierlaw18_how, E_ops_Status, E_terrierlaw18_Right, E_terrierlaw18_packets, E_terrierlaw18_Same, E_terrierlaw18_Do, E_ops_Do, E_terrierlaw18_Events, E_terrierlaw10_Choice_Config, E_terrierlaw18_awake]
theorem ok_terrierlaw18_OpsDo : FnX Go.Proofs.Tryz.prog 9 D_terrierlaw18_OpsDo (fun x => terrierlaw18_OpsDo x.1 x.2.1) :=
  FnX.of (coL_ok (es := T_terrierlaw18_OpsDo) (OKs.mem ⟨E_terrierlaw18_how_ok, E_ops_Status_ok, E_terrierlaw18_Right_ok, E_terrierlaw18_packets_ok, E_terrierlaw18_Same_ok, E_terrierlaw18_Do_ok, E_ops_Do_ok, E_terrierlaw18_Events_ok, E_terrierlaw10_Choice_Config_ok, E_terrierlaw18_awake_ok, trivial⟩)) mix (mkLs_ok (l := L_terrierlaw18_OpsDo) (by kernel_rfl)) (by kernel_rfl) Go.Proofs.Tryz.func9 rfl (by decide) (by decide) (fun x => by kernel_rfl)
end Go.Tr
