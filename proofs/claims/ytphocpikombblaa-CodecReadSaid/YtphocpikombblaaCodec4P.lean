/- The Go functions come to these Lean functions: printed by a program of this session's. Conditions: none. -/
import Derived.Test.YtphocpikombblaaBE
import Derived.Test.YtphocpikombblaaCodec4D
import Derived.Test.YtphocpikombblaaCodec4X
import Derived.KernelRfl
import Derived.Test.YtphocpikombblaaProg
namespace Go.Tr
open Go
set_option linter.unusedVariables false
set_option maxRecDepth 100000
theorem mix : Go.Proofs.Try.prog.follows .mixedOrders = true := by rfl
def D_codec_reader_take : FD := ⟨[(0, .leaf (.ptr 0 0)), (1, .leaf (.int .i64))], [(0, .grp (.pair (.sl (.int .u8)) .bool))], [(0, .leaf (.sl (.int .u8)))], [(0, .grp (.pair (.sl (.int .u8)) .bool))]⟩
def L_codec_reader_take : List (Nat × StD × Nat × StD) := []
noncomputable def T_codec_reader_take : List Ent := []
theorem ok_codec_reader_take : FnX Go.Proofs.Try.prog 67 D_codec_reader_take (fun x => codec_reader_take x.1 x.2.1) :=
  FnX.of (coL_ok (es := T_codec_reader_take) (OKs.mem trivial)) mix (mkLs_ok (l := L_codec_reader_take) (by kernel_rfl)) (by kernel_rfl) Go.Proofs.Try.func67 rfl (by decide) (by decide) (fun x => by kernel_rfl)
noncomputable def E_codec_reader_take : Ent := ⟨67, D_codec_reader_take, fun x => codec_reader_take x.1 x.2.1, ([], (([], false), ())), true⟩
theorem E_codec_reader_take_ok : E_codec_reader_take.OK Go.Proofs.Try.prog := ⟨ok_codec_reader_take, by kernel_rfl⟩
def D_codec_reader_number : FD := ⟨[(0, .leaf (.ptr 0 0)), (1, .leaf (.int .i64))], [(0, .grp (.pair (.sl (.int .u8)) .bool))], [(0, .leaf (.int .i64))], [(0, .grp (.pair (.sl (.int .u8)) .bool))]⟩
def L_codec_reader_number : List (Nat × StD × Nat × StD) := [(3, ⟨[(5, .leaf (.int .i64)), (10, .leaf (.sl (.int .u8))), (11, .leaf (.int .i64)), (12, .leaf (.int .i64))], [(0, .cells [(.sl (.int .u8)), .bool])], 16, 23⟩, 0, ⟨[(5, .leaf (.int .i64))], [(0, .cells [(.sl (.int .u8)), .bool])], 16, 23⟩)]
noncomputable def T_codec_reader_number : List Ent := [E_codec_reader_take]
theorem ok_codec_reader_number : FnX Go.Proofs.Try.prog 66 D_codec_reader_number (fun x => codec_reader_number x.1 x.2.1) :=
  FnX.of (coL_ok (es := T_codec_reader_number) (OKs.mem ⟨E_codec_reader_take_ok, trivial⟩)) mix (mkLs_ok (l := L_codec_reader_number) (by kernel_rfl)) (by kernel_rfl) Go.Proofs.Try.func66 rfl (by decide) (by decide) (fun x => by kernel_rfl)
noncomputable def E_codec_reader_number : Ent := ⟨66, D_codec_reader_number, fun x => codec_reader_number x.1 x.2.1, ((0 : Int), (([], false), ())), true⟩
theorem E_codec_reader_number_ok : E_codec_reader_number.OK Go.Proofs.Try.prog := ⟨ok_codec_reader_number, by kernel_rfl⟩
def D_codec_reader_one : FD := ⟨[(0, .leaf (.ptr 0 0))], [(0, .grp (.pair (.sl (.int .u8)) .bool))], [(0, .leaf (.int .i64))], [(0, .grp (.pair (.sl (.int .u8)) .bool))]⟩
def L_codec_reader_one : List (Nat × StD × Nat × StD) := []
noncomputable def T_codec_reader_one : List Ent := [E_codec_reader_number]
theorem ok_codec_reader_one : FnX Go.Proofs.Try.prog 21 D_codec_reader_one (fun x => codec_reader_one x.1) :=
  FnX.of (coL_ok (es := T_codec_reader_one) (OKs.mem ⟨E_codec_reader_number_ok, trivial⟩)) mix (mkLs_ok (l := L_codec_reader_one) (by kernel_rfl)) (by kernel_rfl) Go.Proofs.Try.func21 rfl (by decide) (by decide) (fun x => by kernel_rfl)
noncomputable def E_codec_reader_one : Ent := ⟨21, D_codec_reader_one, fun x => codec_reader_one x.1, ((0 : Int), (([], false), ())), true⟩
theorem E_codec_reader_one_ok : E_codec_reader_one.OK Go.Proofs.Try.prog := ⟨ok_codec_reader_one, by kernel_rfl⟩
def D_codec_reader_ip : FD := ⟨[(0, .leaf (.ptr 0 0))], [(0, .grp (.pair (.sl (.int .u8)) .bool))], [(0, .leaf (.int .u32))], [(0, .grp (.pair (.sl (.int .u8)) .bool))]⟩
def L_codec_reader_ip : List (Nat × StD × Nat × StD) := []
noncomputable def T_codec_reader_ip : List Ent := [E_codec_reader_number]
theorem ok_codec_reader_ip : FnX Go.Proofs.Try.prog 24 D_codec_reader_ip (fun x => codec_reader_ip x.1) :=
  FnX.of (coL_ok (es := T_codec_reader_ip) (OKs.mem ⟨E_codec_reader_number_ok, trivial⟩)) mix (mkLs_ok (l := L_codec_reader_ip) (by kernel_rfl)) (by kernel_rfl) Go.Proofs.Try.func24 rfl (by decide) (by decide) (fun x => by kernel_rfl)
noncomputable def E_codec_reader_ip : Ent := ⟨24, D_codec_reader_ip, fun x => codec_reader_ip x.1, ((0 : Int), (([], false), ())), true⟩
theorem E_codec_reader_ip_ok : E_codec_reader_ip.OK Go.Proofs.Try.prog := ⟨ok_codec_reader_ip, by kernel_rfl⟩
def D_codec_reader_mac : FD := ⟨[(0, .leaf (.ptr 0 0))], [(0, .grp (.pair (.sl (.int .u8)) .bool))], [(0, .grp sMc)], [(0, .grp (.pair (.sl (.int .u8)) .bool))]⟩
def L_codec_reader_mac : List (Nat × StD × Nat × StD) := []
noncomputable def T_codec_reader_mac : List Ent := [E_codec_reader_take]
theorem ok_codec_reader_mac : FnX Go.Proofs.Try.prog 25 D_codec_reader_mac (fun x => codec_reader_mac x.1) :=
  FnX.of (coL_ok (es := T_codec_reader_mac) (OKs.mem ⟨E_codec_reader_take_ok, trivial⟩)) mix (mkLs_ok (l := L_codec_reader_mac) (by kernel_rfl)) (by kernel_rfl) Go.Proofs.Try.func25 rfl (by decide) (by decide) (fun x => by kernel_rfl)
noncomputable def E_codec_reader_mac : Ent := ⟨25, D_codec_reader_mac, fun x => codec_reader_mac x.1, (((0 : Int), ((0 : Int), ((0 : Int), ((0 : Int), ((0 : Int), (0 : Int)))))), (([], false), ())), true⟩
theorem E_codec_reader_mac_ok : E_codec_reader_mac.OK Go.Proofs.Try.prog := ⟨ok_codec_reader_mac, by kernel_rfl⟩
def D_codec_reader_holder : FD := ⟨[(0, .leaf (.ptr 0 0))], [(0, .grp (.pair (.sl (.int .u8)) .bool))], [(0, .grp sHd)], [(0, .grp (.pair (.sl (.int .u8)) .bool))]⟩
def L_codec_reader_holder : List (Nat × StD × Nat × StD) := []
noncomputable def T_codec_reader_holder : List Ent := [E_codec_reader_mac, E_codec_reader_take, E_codec_reader_one, E_codec_reader_ip]
theorem ok_codec_reader_holder : FnX Go.Proofs.Try.prog 22 D_codec_reader_holder (fun x => codec_reader_holder x.1) :=
  FnX.of (coL_ok (es := T_codec_reader_holder) (OKs.mem ⟨E_codec_reader_mac_ok, E_codec_reader_take_ok, E_codec_reader_one_ok, E_codec_reader_ip_ok, trivial⟩)) mix (mkLs_ok (l := L_codec_reader_holder) (by kernel_rfl)) (by kernel_rfl) Go.Proofs.Try.func22 rfl (by decide) (by decide) (fun x => by kernel_rfl)
noncomputable def E_codec_reader_holder : Ent := ⟨22, D_codec_reader_holder, fun x => codec_reader_holder x.1, (((0 : Int), ([], ((0 : Int), ((0 : Int), ((0 : Int), ((0 : Int), ((0 : Int), (0 : Int)))))))), (([], false), ())), true⟩
theorem E_codec_reader_holder_ok : E_codec_reader_holder.OK Go.Proofs.Try.prog := ⟨ok_codec_reader_holder, by kernel_rfl⟩
def D_held_May : FD := ⟨[(0, .leaf .str)], [], [(0, .leaf .bool)], []⟩
def L_held_May : List (Nat × StD × Nat × StD) := [(2, ⟨[(0, .leaf .str), (6, .leaf (.int .i64)), (7, .leaf (.int .i64))], [], 16, 35⟩, 0, ⟨[(0, .leaf .str)], [], 16, 35⟩)]
noncomputable def T_held_May : List Ent := []
theorem ok_held_May : FnX Go.Proofs.Try.prog 29 D_held_May (fun x => held_May x.1) :=
  FnX.of (coL_ok (es := T_held_May) (OKs.mem trivial)) mix (mkLs_ok (l := L_held_May) (by kernel_rfl)) (by kernel_rfl) Go.Proofs.Try.func29 rfl (by decide) (by decide) (fun x => by kernel_rfl)
noncomputable def E_held_May : Ent := ⟨29, D_held_May, fun x => held_May x.1, (false, ()), false⟩
theorem E_held_May_ok : E_held_May.OK Go.Proofs.Try.prog := ⟨ok_held_May, by kernel_rfl⟩
def D_mac_Group : FD := ⟨[(0, .grp sMc)], [], [(0, .leaf .bool)], []⟩
def L_mac_Group : List (Nat × StD × Nat × StD) := []
noncomputable def T_mac_Group : List Ent := []
theorem ok_mac_Group : FnX Go.Proofs.Try.prog 30 D_mac_Group (fun x => mac_Group x.1) :=
  FnX.of (coL_ok (es := T_mac_Group) (OKs.mem trivial)) mix (mkLs_ok (l := L_mac_Group) (by kernel_rfl)) (by kernel_rfl) Go.Proofs.Try.func30 rfl (by decide) (by decide) (fun x => by kernel_rfl)
noncomputable def E_mac_Group : Ent := ⟨30, D_mac_Group, fun x => mac_Group x.1, (false, ()), false⟩
theorem E_mac_Group_ok : E_mac_Group.OK Go.Proofs.Try.prog := ⟨ok_mac_Group, by kernel_rfl⟩
def D_codec_fits : FD := ⟨[(0, .grp sEv)], [], [(0, .leaf .bool)], []⟩
def L_codec_fits : List (Nat × StD × Nat × StD) := []
noncomputable def T_codec_fits : List Ent := [E_mac_Group, E_held_May]
theorem ok_codec_fits : FnX Go.Proofs.Try.prog 26 D_codec_fits (fun x => codec_fits x.1) :=
  FnX.of (coL_ok (es := T_codec_fits) (OKs.mem ⟨E_mac_Group_ok, E_held_May_ok, trivial⟩)) mix (mkLs_ok (l := L_codec_fits) (by kernel_rfl)) (by kernel_rfl) Go.Proofs.Try.func26 rfl (by decide) (by decide) (fun x => by kernel_rfl)
noncomputable def E_codec_fits : Ent := ⟨26, D_codec_fits, fun x => codec_fits x.1, (false, ()), false⟩
theorem E_codec_fits_ok : E_codec_fits.OK Go.Proofs.Try.prog := ⟨ok_codec_fits, by kernel_rfl⟩
def D_codec_reader_block : FD := ⟨[(0, .leaf (.ptr 0 0))], [(0, .grp (.pair (.sl (.int .u8)) .bool))], [(0, .grp sBk)], [(0, .grp (.pair (.sl (.int .u8)) .bool))]⟩
def L_codec_reader_block : List (Nat × StD × Nat × StD) := []
noncomputable def T_codec_reader_block : List Ent := [E_codec_reader_one, E_codec_reader_ip]
theorem ok_codec_reader_block : FnX Go.Proofs.Try.prog 23 D_codec_reader_block (fun x => codec_reader_block x.1) :=
  FnX.of (coL_ok (es := T_codec_reader_block) (OKs.mem ⟨E_codec_reader_one_ok, E_codec_reader_ip_ok, trivial⟩)) mix (mkLs_ok (l := L_codec_reader_block) (by kernel_rfl)) (by kernel_rfl) Go.Proofs.Try.func23 rfl (by decide) (by decide) (fun x => by kernel_rfl)
noncomputable def E_codec_reader_block : Ent := ⟨23, D_codec_reader_block, fun x => codec_reader_block x.1, (((0 : Int), (0 : Int)), (([], false), ())), true⟩
theorem E_codec_reader_block_ok : E_codec_reader_block.OK Go.Proofs.Try.prog := ⟨ok_codec_reader_block, by kernel_rfl⟩
def D_codec_ReadEvent : FD := ⟨[(0, .leaf (.sl (.int .u8)))], [], [(0, .grp sEv), (1, .leaf .bool)], []⟩
def L_codec_ReadEvent : List (Nat × StD × Nat × StD) := []
noncomputable def T_codec_ReadEvent : List Ent := [E_codec_reader_mac, E_codec_reader_ip, E_codec_reader_block, E_codec_fits, E_codec_reader_holder, E_codec_reader_one]
theorem ok_codec_ReadEvent : FnX Go.Proofs.Try.prog 8 D_codec_ReadEvent (fun x => codec_ReadEvent x.1) :=
  FnX.of (coL_ok (es := T_codec_ReadEvent) (OKs.mem ⟨E_codec_reader_mac_ok, E_codec_reader_ip_ok, E_codec_reader_block_ok, E_codec_fits_ok, E_codec_reader_holder_ok, E_codec_reader_one_ok, trivial⟩)) mix (mkLs_ok (l := L_codec_ReadEvent) (by kernel_rfl)) (by kernel_rfl) Go.Proofs.Try.func8 rfl (by decide) (by decide) (fun x => by kernel_rfl)
noncomputable def E_codec_ReadEvent : Ent := ⟨8, D_codec_ReadEvent, fun x => codec_ReadEvent x.1, (((0 : Int), (((0 : Int), ([], ((0 : Int), ((0 : Int), ((0 : Int), ((0 : Int), ((0 : Int), (0 : Int)))))))), (((0 : Int), (0 : Int)), ((0 : Int), (((0 : Int), ((0 : Int), ((0 : Int), ((0 : Int), ((0 : Int), (0 : Int)))))), (0 : Int)))))), (false, ())), false⟩
theorem E_codec_ReadEvent_ok : E_codec_ReadEvent.OK Go.Proofs.Try.prog := ⟨ok_codec_ReadEvent, by kernel_rfl⟩
def D_codec_lay : FD := ⟨[(0, .leaf (.own 0 (.int .u8))), (1, .leaf (.int .i64)), (2, .leaf (.int .i64))], [(0, .rows (.int .u8))], [(0, .leaf (.own 16 (.int .u8)))], [(16, .rows (.int .u8))]⟩
def L_codec_lay : List (Nat × StD × Nat × StD) := [(2, ⟨[(0, .leaf (.own 16 (.int .u8))), (1, .leaf (.int .i64)), (7, .leaf (.int .i64))], [(16, .rows (.int .u8))], 17, 23⟩, 0, ⟨[(0, .leaf (.own 16 (.int .u8)))], [(16, .rows (.int .u8))], 17, 23⟩)]
noncomputable def T_codec_lay : List Ent := []
theorem ok_codec_lay : FnX Go.Proofs.Try.prog 65 D_codec_lay (fun x => codec_lay x.1 x.2.1 x.2.2.1) :=
  FnX.of (coL_ok (es := T_codec_lay) (OKs.mem trivial)) mix (mkLs_ok (l := L_codec_lay) (by kernel_rfl)) (by kernel_rfl) Go.Proofs.Try.func65 rfl (by decide) (by decide) (fun x => by kernel_rfl)
noncomputable def E_codec_lay : Ent := ⟨65, D_codec_lay, fun x => codec_lay x.1 x.2.1 x.2.2.1, ([], ()), false⟩
theorem E_codec_lay_ok : E_codec_lay.OK Go.Proofs.Try.prog := ⟨ok_codec_lay, by kernel_rfl⟩
def D_codec_num : FD := ⟨[(0, .leaf (.own 0 (.int .u8))), (1, .leaf (.int .i64))], [(0, .rows (.int .u8))], [(0, .leaf (.own 16 (.int .u8)))], [(16, .rows (.int .u8))]⟩
def L_codec_num : List (Nat × StD × Nat × StD) := []
noncomputable def T_codec_num : List Ent := [E_codec_lay]
theorem ok_codec_num : FnX Go.Proofs.Try.prog 39 D_codec_num (fun x => codec_num x.1 x.2.1) :=
  FnX.of (coL_ok (es := T_codec_num) (OKs.mem ⟨E_codec_lay_ok, trivial⟩)) mix (mkLs_ok (l := L_codec_num) (by kernel_rfl)) (by kernel_rfl) Go.Proofs.Try.func39 rfl (by decide) (by decide) (fun x => by kernel_rfl)
noncomputable def E_codec_num : Ent := ⟨39, D_codec_num, fun x => codec_num x.1 x.2.1, ([], ()), false⟩
theorem E_codec_num_ok : E_codec_num.OK Go.Proofs.Try.prog := ⟨ok_codec_num, by kernel_rfl⟩
def D_codec_small : FD := ⟨[(0, .leaf (.own 0 (.int .u8))), (1, .leaf (.int .i64))], [(0, .rows (.int .u8))], [(0, .leaf (.own 16 (.int .u8)))], [(16, .rows (.int .u8))]⟩
def L_codec_small : List (Nat × StD × Nat × StD) := []
noncomputable def T_codec_small : List Ent := [E_codec_lay]
theorem ok_codec_small : FnX Go.Proofs.Try.prog 38 D_codec_small (fun x => codec_small x.1 x.2.1) :=
  FnX.of (coL_ok (es := T_codec_small) (OKs.mem ⟨E_codec_lay_ok, trivial⟩)) mix (mkLs_ok (l := L_codec_small) (by kernel_rfl)) (by kernel_rfl) Go.Proofs.Try.func38 rfl (by decide) (by decide) (fun x => by kernel_rfl)
noncomputable def E_codec_small : Ent := ⟨38, D_codec_small, fun x => codec_small x.1 x.2.1, ([], ()), false⟩
theorem E_codec_small_ok : E_codec_small.OK Go.Proofs.Try.prog := ⟨ok_codec_small, by kernel_rfl⟩
def D_codec_ip : FD := ⟨[(0, .leaf (.own 0 (.int .u8))), (1, .leaf (.int .u32))], [(0, .rows (.int .u8))], [(0, .leaf (.own 16 (.int .u8)))], [(16, .rows (.int .u8))]⟩
def L_codec_ip : List (Nat × StD × Nat × StD) := []
noncomputable def T_codec_ip : List Ent := [E_codec_lay]
theorem ok_codec_ip : FnX Go.Proofs.Try.prog 20 D_codec_ip (fun x => codec_ip x.1 x.2.1) :=
  FnX.of (coL_ok (es := T_codec_ip) (OKs.mem ⟨E_codec_lay_ok, trivial⟩)) mix (mkLs_ok (l := L_codec_ip) (by kernel_rfl)) (by kernel_rfl) Go.Proofs.Try.func20 rfl (by decide) (by decide) (fun x => by kernel_rfl)
noncomputable def E_codec_ip : Ent := ⟨20, D_codec_ip, fun x => codec_ip x.1 x.2.1, ([], ()), false⟩
theorem E_codec_ip_ok : E_codec_ip.OK Go.Proofs.Try.prog := ⟨ok_codec_ip, by kernel_rfl⟩
def D_codec_holder : FD := ⟨[(0, .leaf (.own 0 (.int .u8))), (1, .grp sHd)], [(0, .rows (.int .u8))], [(0, .leaf (.own 16 (.int .u8)))], [(16, .rows (.int .u8))]⟩
def L_codec_holder : List (Nat × StD × Nat × StD) := []
noncomputable def T_codec_holder : List Ent := [E_codec_ip]
theorem ok_codec_holder : FnX Go.Proofs.Try.prog 18 D_codec_holder (fun x => codec_holder x.1 x.2.1) :=
  FnX.of (coL_ok (es := T_codec_holder) (OKs.mem ⟨E_codec_ip_ok, trivial⟩)) mix (mkLs_ok (l := L_codec_holder) (by kernel_rfl)) (by kernel_rfl) Go.Proofs.Try.func18 rfl (by decide) (by decide) (fun x => by kernel_rfl)
noncomputable def E_codec_holder : Ent := ⟨18, D_codec_holder, fun x => codec_holder x.1 x.2.1, ([], ()), false⟩
theorem E_codec_holder_ok : E_codec_holder.OK Go.Proofs.Try.prog := ⟨ok_codec_holder, by kernel_rfl⟩
def D_codec_rows : FD := ⟨[(0, .leaf (.own 0 (.int .u8))), (1, .leaf (.sl sHd)), (2, .fn 18 [] [])], [(0, .rows (.int .u8))], [(0, .leaf (.own 16 (.int .u8)))], [(16, .rows (.int .u8))]⟩
def L_codec_rows : List (Nat × StD × Nat × StD) := [(3, ⟨[(0, .leaf (.own 16 (.int .u8))), (2, .fn 18 [] []), (13, .leaf (.sl sHd)), (14, .leaf (.int .i64)), (15, .leaf (.int .i64))], [(16, .rows (.int .u8))], 17, 25⟩, 0, ⟨[(0, .leaf (.own 16 (.int .u8)))], [(16, .rows (.int .u8))], 17, 25⟩)]
noncomputable def T_codec_rows : List Ent := [E_codec_holder, E_codec_small]
theorem ok_codec_rows : FnX Go.Proofs.Try.prog 40 D_codec_rows (fun x => codec_rows x.1 x.2.1) :=
  FnX.of (coL_ok (es := T_codec_rows) (OKs.mem ⟨E_codec_holder_ok, E_codec_small_ok, trivial⟩)) mix (mkLs_ok (l := L_codec_rows) (by kernel_rfl)) (by kernel_rfl) Go.Proofs.Try.func40 rfl (by decide) (by decide) (fun x => by kernel_rfl)
noncomputable def E_codec_rows : Ent := ⟨40, D_codec_rows, fun x => codec_rows x.1 x.2.1, ([], ()), false⟩
theorem E_codec_rows_ok : E_codec_rows.OK Go.Proofs.Try.prog := ⟨ok_codec_rows, by kernel_rfl⟩
def D_codec_block : FD := ⟨[(0, .leaf (.own 0 (.int .u8))), (1, .grp sBk)], [(0, .rows (.int .u8))], [(0, .leaf (.own 16 (.int .u8)))], [(16, .rows (.int .u8))]⟩
def L_codec_block : List (Nat × StD × Nat × StD) := []
noncomputable def T_codec_block : List Ent := [E_codec_ip]
theorem ok_codec_block : FnX Go.Proofs.Try.prog 19 D_codec_block (fun x => codec_block x.1 x.2.1) :=
  FnX.of (coL_ok (es := T_codec_block) (OKs.mem ⟨E_codec_ip_ok, trivial⟩)) mix (mkLs_ok (l := L_codec_block) (by kernel_rfl)) (by kernel_rfl) Go.Proofs.Try.func19 rfl (by decide) (by decide) (fun x => by kernel_rfl)
noncomputable def E_codec_block : Ent := ⟨19, D_codec_block, fun x => codec_block x.1 x.2.1, ([], ()), false⟩
theorem E_codec_block_ok : E_codec_block.OK Go.Proofs.Try.prog := ⟨ok_codec_block, by kernel_rfl⟩
def D_codec_State_1 : FD := ⟨[(0, .leaf (.own 0 (.int .u8))), (1, .grp sSw)], [(0, .rows (.int .u8))], [(0, .leaf (.own 16 (.int .u8)))], [(16, .rows (.int .u8))]⟩
def L_codec_State_1 : List (Nat × StD × Nat × StD) := []
noncomputable def T_codec_State_1 : List Ent := [E_codec_small, E_codec_num, E_codec_block]
theorem ok_codec_State_1 : FnX Go.Proofs.Try.prog 42 D_codec_State_1 (fun x => codec_State_1 x.1 x.2.1) :=
  FnX.of (coL_ok (es := T_codec_State_1) (OKs.mem ⟨E_codec_small_ok, E_codec_num_ok, E_codec_block_ok, trivial⟩)) mix (mkLs_ok (l := L_codec_State_1) (by kernel_rfl)) (by kernel_rfl) Go.Proofs.Try.func42 rfl (by decide) (by decide) (fun x => by kernel_rfl)
noncomputable def E_codec_State_1 : Ent := ⟨42, D_codec_State_1, fun x => codec_State_1 x.1 x.2.1, ([], ()), false⟩
theorem E_codec_State_1_ok : E_codec_State_1.OK Go.Proofs.Try.prog := ⟨ok_codec_State_1, by kernel_rfl⟩
def D_codec_rows_v1 : FD := ⟨[(0, .leaf (.own 0 (.int .u8))), (1, .leaf (.sl sSw)), (2, .fn 42 [] [])], [(0, .rows (.int .u8))], [(0, .leaf (.own 16 (.int .u8)))], [(16, .rows (.int .u8))]⟩
def L_codec_rows_v1 : List (Nat × StD × Nat × StD) := [(3, ⟨[(0, .leaf (.own 16 (.int .u8))), (2, .fn 42 [] []), (13, .leaf (.sl sSw)), (14, .leaf (.int .i64)), (15, .leaf (.int .i64))], [(16, .rows (.int .u8))], 17, 25⟩, 0, ⟨[(0, .leaf (.own 16 (.int .u8)))], [(16, .rows (.int .u8))], 17, 25⟩)]
noncomputable def T_codec_rows_v1 : List Ent := [E_codec_State_1, E_codec_small]
theorem ok_codec_rows_v1 : FnX Go.Proofs.Try.prog 41 D_codec_rows_v1 (fun x => codec_rows_v1 x.1 x.2.1) :=
  FnX.of (coL_ok (es := T_codec_rows_v1) (OKs.mem ⟨E_codec_State_1_ok, E_codec_small_ok, trivial⟩)) mix (mkLs_ok (l := L_codec_rows_v1) (by kernel_rfl)) (by kernel_rfl) Go.Proofs.Try.func41 rfl (by decide) (by decide) (fun x => by kernel_rfl)
noncomputable def E_codec_rows_v1 : Ent := ⟨41, D_codec_rows_v1, fun x => codec_rows_v1 x.1 x.2.1, ([], ()), false⟩
theorem E_codec_rows_v1_ok : E_codec_rows_v1.OK Go.Proofs.Try.prog := ⟨ok_codec_rows_v1, by kernel_rfl⟩
def D_codec_sight : FD := ⟨[(0, .leaf (.own 0 (.int .u8))), (1, .grp sSg)], [(0, .rows (.int .u8))], [(0, .leaf (.own 16 (.int .u8)))], [(16, .rows (.int .u8))]⟩
def L_codec_sight : List (Nat × StD × Nat × StD) := []
noncomputable def T_codec_sight : List Ent := [E_codec_num]
theorem ok_codec_sight : FnX Go.Proofs.Try.prog 46 D_codec_sight (fun x => codec_sight x.1 x.2.1) :=
  FnX.of (coL_ok (es := T_codec_sight) (OKs.mem ⟨E_codec_num_ok, trivial⟩)) mix (mkLs_ok (l := L_codec_sight) (by kernel_rfl)) (by kernel_rfl) Go.Proofs.Try.func46 rfl (by decide) (by decide) (fun x => by kernel_rfl)
noncomputable def E_codec_sight : Ent := ⟨46, D_codec_sight, fun x => codec_sight x.1 x.2.1, ([], ()), false⟩
theorem E_codec_sight_ok : E_codec_sight.OK Go.Proofs.Try.prog := ⟨ok_codec_sight, by kernel_rfl⟩
def D_codec_rows_v2 : FD := ⟨[(0, .leaf (.own 0 (.int .u8))), (1, .leaf (.sl sSg)), (2, .fn 46 [] [])], [(0, .rows (.int .u8))], [(0, .leaf (.own 16 (.int .u8)))], [(16, .rows (.int .u8))]⟩
def L_codec_rows_v2 : List (Nat × StD × Nat × StD) := [(3, ⟨[(0, .leaf (.own 16 (.int .u8))), (2, .fn 46 [] []), (13, .leaf (.sl sSg)), (14, .leaf (.int .i64)), (15, .leaf (.int .i64))], [(16, .rows (.int .u8))], 17, 25⟩, 0, ⟨[(0, .leaf (.own 16 (.int .u8)))], [(16, .rows (.int .u8))], 17, 25⟩)]
noncomputable def T_codec_rows_v2 : List Ent := [E_codec_sight, E_codec_small]
theorem ok_codec_rows_v2 : FnX Go.Proofs.Try.prog 45 D_codec_rows_v2 (fun x => codec_rows_v2 x.1 x.2.1) :=
  FnX.of (coL_ok (es := T_codec_rows_v2) (OKs.mem ⟨E_codec_sight_ok, E_codec_small_ok, trivial⟩)) mix (mkLs_ok (l := L_codec_rows_v2) (by kernel_rfl)) (by kernel_rfl) Go.Proofs.Try.func45 rfl (by decide) (by decide) (fun x => by kernel_rfl)
noncomputable def E_codec_rows_v2 : Ent := ⟨45, D_codec_rows_v2, fun x => codec_rows_v2 x.1 x.2.1, ([], ()), false⟩
theorem E_codec_rows_v2_ok : E_codec_rows_v2.OK Go.Proofs.Try.prog := ⟨ok_codec_rows_v2, by kernel_rfl⟩
def D_codec_State_2 : FD := ⟨[(0, .leaf (.own 0 (.int .u8))), (1, .grp sKn)], [(0, .rows (.int .u8))], [(0, .leaf (.own 16 (.int .u8)))], [(16, .rows (.int .u8))]⟩
def L_codec_State_2 : List (Nat × StD × Nat × StD) := []
noncomputable def T_codec_State_2 : List Ent := [E_codec_rows_v2, E_codec_ip]
theorem ok_codec_State_2 : FnX Go.Proofs.Try.prog 44 D_codec_State_2 (fun x => codec_State_2 x.1 x.2.1) :=
  FnX.of (coL_ok (es := T_codec_State_2) (OKs.mem ⟨E_codec_rows_v2_ok, E_codec_ip_ok, trivial⟩)) mix (mkLs_ok (l := L_codec_State_2) (by kernel_rfl)) (by kernel_rfl) Go.Proofs.Try.func44 rfl (by decide) (by decide) (fun x => by kernel_rfl)
noncomputable def E_codec_State_2 : Ent := ⟨44, D_codec_State_2, fun x => codec_State_2 x.1 x.2.1, ([], ()), false⟩
theorem E_codec_State_2_ok : E_codec_State_2.OK Go.Proofs.Try.prog := ⟨ok_codec_State_2, by kernel_rfl⟩
def D_codec_rows_v3 : FD := ⟨[(0, .leaf (.own 0 (.int .u8))), (1, .leaf (.sl sKn)), (2, .fn 44 [] [])], [(0, .rows (.int .u8))], [(0, .leaf (.own 16 (.int .u8)))], [(16, .rows (.int .u8))]⟩
def L_codec_rows_v3 : List (Nat × StD × Nat × StD) := [(3, ⟨[(0, .leaf (.own 16 (.int .u8))), (2, .fn 44 [] []), (13, .leaf (.sl sKn)), (14, .leaf (.int .i64)), (15, .leaf (.int .i64))], [(16, .rows (.int .u8))], 17, 25⟩, 0, ⟨[(0, .leaf (.own 16 (.int .u8)))], [(16, .rows (.int .u8))], 17, 25⟩)]
noncomputable def T_codec_rows_v3 : List Ent := [E_codec_State_2, E_codec_small]
theorem ok_codec_rows_v3 : FnX Go.Proofs.Try.prog 43 D_codec_rows_v3 (fun x => codec_rows_v3 x.1 x.2.1) :=
  FnX.of (coL_ok (es := T_codec_rows_v3) (OKs.mem ⟨E_codec_State_2_ok, E_codec_small_ok, trivial⟩)) mix (mkLs_ok (l := L_codec_rows_v3) (by kernel_rfl)) (by kernel_rfl) Go.Proofs.Try.func43 rfl (by decide) (by decide) (fun x => by kernel_rfl)
noncomputable def E_codec_rows_v3 : Ent := ⟨43, D_codec_rows_v3, fun x => codec_rows_v3 x.1 x.2.1, ([], ()), false⟩
theorem E_codec_rows_v3_ok : E_codec_rows_v3.OK Go.Proofs.Try.prog := ⟨ok_codec_rows_v3, by kernel_rfl⟩
def D_codec_State_3 : FD := ⟨[(0, .leaf (.own 0 (.int .u8))), (1, .grp sPr)], [(0, .rows (.int .u8))], [(0, .leaf (.own 16 (.int .u8)))], [(16, .rows (.int .u8))]⟩
def L_codec_State_3 : List (Nat × StD × Nat × StD) := []
noncomputable def T_codec_State_3 : List Ent := [E_codec_num, E_codec_small, E_codec_ip]
theorem ok_codec_State_3 : FnX Go.Proofs.Try.prog 48 D_codec_State_3 (fun x => codec_State_3 x.1 x.2.1) :=
  FnX.of (coL_ok (es := T_codec_State_3) (OKs.mem ⟨E_codec_num_ok, E_codec_small_ok, E_codec_ip_ok, trivial⟩)) mix (mkLs_ok (l := L_codec_State_3) (by kernel_rfl)) (by kernel_rfl) Go.Proofs.Try.func48 rfl (by decide) (by decide) (fun x => by kernel_rfl)
noncomputable def E_codec_State_3 : Ent := ⟨48, D_codec_State_3, fun x => codec_State_3 x.1 x.2.1, ([], ()), false⟩
theorem E_codec_State_3_ok : E_codec_State_3.OK Go.Proofs.Try.prog := ⟨ok_codec_State_3, by kernel_rfl⟩
def D_codec_rows_v4 : FD := ⟨[(0, .leaf (.own 0 (.int .u8))), (1, .leaf (.sl sPr)), (2, .fn 48 [] [])], [(0, .rows (.int .u8))], [(0, .leaf (.own 16 (.int .u8)))], [(16, .rows (.int .u8))]⟩
def L_codec_rows_v4 : List (Nat × StD × Nat × StD) := [(3, ⟨[(0, .leaf (.own 16 (.int .u8))), (2, .fn 48 [] []), (13, .leaf (.sl sPr)), (14, .leaf (.int .i64)), (15, .leaf (.int .i64))], [(16, .rows (.int .u8))], 17, 25⟩, 0, ⟨[(0, .leaf (.own 16 (.int .u8)))], [(16, .rows (.int .u8))], 17, 25⟩)]
noncomputable def T_codec_rows_v4 : List Ent := [E_codec_State_3, E_codec_small]
theorem ok_codec_rows_v4 : FnX Go.Proofs.Try.prog 47 D_codec_rows_v4 (fun x => codec_rows_v4 x.1 x.2.1) :=
  FnX.of (coL_ok (es := T_codec_rows_v4) (OKs.mem ⟨E_codec_State_3_ok, E_codec_small_ok, trivial⟩)) mix (mkLs_ok (l := L_codec_rows_v4) (by kernel_rfl)) (by kernel_rfl) Go.Proofs.Try.func47 rfl (by decide) (by decide) (fun x => by kernel_rfl)
noncomputable def E_codec_rows_v4 : Ent := ⟨47, D_codec_rows_v4, fun x => codec_rows_v4 x.1 x.2.1, ([], ()), false⟩
theorem E_codec_rows_v4_ok : E_codec_rows_v4.OK Go.Proofs.Try.prog := ⟨ok_codec_rows_v4, by kernel_rfl⟩
def D_codec_State_4 : FD := ⟨[(0, .leaf (.own 0 (.int .u8))), (1, .grp sCa)], [(0, .rows (.int .u8))], [(0, .leaf (.own 16 (.int .u8)))], [(16, .rows (.int .u8))]⟩
def L_codec_State_4 : List (Nat × StD × Nat × StD) := []
noncomputable def T_codec_State_4 : List Ent := [E_codec_num, E_codec_ip]
theorem ok_codec_State_4 : FnX Go.Proofs.Try.prog 50 D_codec_State_4 (fun x => codec_State_4 x.1 x.2.1) :=
  FnX.of (coL_ok (es := T_codec_State_4) (OKs.mem ⟨E_codec_num_ok, E_codec_ip_ok, trivial⟩)) mix (mkLs_ok (l := L_codec_State_4) (by kernel_rfl)) (by kernel_rfl) Go.Proofs.Try.func50 rfl (by decide) (by decide) (fun x => by kernel_rfl)
noncomputable def E_codec_State_4 : Ent := ⟨50, D_codec_State_4, fun x => codec_State_4 x.1 x.2.1, ([], ()), false⟩
theorem E_codec_State_4_ok : E_codec_State_4.OK Go.Proofs.Try.prog := ⟨ok_codec_State_4, by kernel_rfl⟩
def D_codec_rows_v5 : FD := ⟨[(0, .leaf (.own 0 (.int .u8))), (1, .leaf (.sl sCa)), (2, .fn 50 [] [])], [(0, .rows (.int .u8))], [(0, .leaf (.own 16 (.int .u8)))], [(16, .rows (.int .u8))]⟩
def L_codec_rows_v5 : List (Nat × StD × Nat × StD) := [(3, ⟨[(0, .leaf (.own 16 (.int .u8))), (2, .fn 50 [] []), (13, .leaf (.sl sCa)), (14, .leaf (.int .i64)), (15, .leaf (.int .i64))], [(16, .rows (.int .u8))], 17, 25⟩, 0, ⟨[(0, .leaf (.own 16 (.int .u8)))], [(16, .rows (.int .u8))], 17, 25⟩)]
noncomputable def T_codec_rows_v5 : List Ent := [E_codec_State_4, E_codec_small]
theorem ok_codec_rows_v5 : FnX Go.Proofs.Try.prog 49 D_codec_rows_v5 (fun x => codec_rows_v5 x.1 x.2.1) :=
  FnX.of (coL_ok (es := T_codec_rows_v5) (OKs.mem ⟨E_codec_State_4_ok, E_codec_small_ok, trivial⟩)) mix (mkLs_ok (l := L_codec_rows_v5) (by kernel_rfl)) (by kernel_rfl) Go.Proofs.Try.func49 rfl (by decide) (by decide) (fun x => by kernel_rfl)
noncomputable def E_codec_rows_v5 : Ent := ⟨49, D_codec_rows_v5, fun x => codec_rows_v5 x.1 x.2.1, ([], ()), false⟩
theorem E_codec_rows_v5_ok : E_codec_rows_v5.OK Go.Proofs.Try.prog := ⟨ok_codec_rows_v5, by kernel_rfl⟩
def D_codec_State : FD := ⟨[(0, .grp sSt)], [], [(0, .leaf (.sl (.int .u8)))], []⟩
def L_codec_State : List (Nat × StD × Nat × StD) := []
noncomputable def T_codec_State : List Ent := [E_codec_rows_v5, E_codec_rows_v4, E_codec_rows_v3, E_codec_rows_v1, E_codec_rows, E_codec_small, E_codec_num]
theorem ok_codec_State : FnX Go.Proofs.Try.prog 14 D_codec_State (fun x => codec_State x.1) :=
  FnX.of (coL_ok (es := T_codec_State) (OKs.mem ⟨E_codec_rows_v5_ok, E_codec_rows_v4_ok, E_codec_rows_v3_ok, E_codec_rows_v1_ok, E_codec_rows_ok, E_codec_small_ok, E_codec_num_ok, trivial⟩)) mix (mkLs_ok (l := L_codec_State) (by kernel_rfl)) (by kernel_rfl) Go.Proofs.Try.func14 rfl (by decide) (by decide) (fun x => by kernel_rfl)
noncomputable def E_codec_State : Ent := ⟨14, D_codec_State, fun x => codec_State x.1, ([], ()), true⟩
theorem E_codec_State_ok : E_codec_State.OK Go.Proofs.Try.prog := ⟨ok_codec_State, by kernel_rfl⟩
def D_codec_reader_num : FD := ⟨[(0, .leaf (.ptr 0 0))], [(0, .grp (.pair (.sl (.int .u8)) .bool))], [(0, .leaf (.int .i64))], [(0, .grp (.pair (.sl (.int .u8)) .bool))]⟩
def L_codec_reader_num : List (Nat × StD × Nat × StD) := []
noncomputable def T_codec_reader_num : List Ent := [E_codec_reader_number]
theorem ok_codec_reader_num : FnX Go.Proofs.Try.prog 51 D_codec_reader_num (fun x => codec_reader_num x.1) :=
  FnX.of (coL_ok (es := T_codec_reader_num) (OKs.mem ⟨E_codec_reader_number_ok, trivial⟩)) mix (mkLs_ok (l := L_codec_reader_num) (by kernel_rfl)) (by kernel_rfl) Go.Proofs.Try.func51 rfl (by decide) (by decide) (fun x => by kernel_rfl)
noncomputable def E_codec_reader_num : Ent := ⟨51, D_codec_reader_num, fun x => codec_reader_num x.1, ((0 : Int), (([], false), ())), true⟩
theorem E_codec_reader_num_ok : E_codec_reader_num.OK Go.Proofs.Try.prog := ⟨ok_codec_reader_num, by kernel_rfl⟩
def D_codec_reader_small : FD := ⟨[(0, .leaf (.ptr 0 0))], [(0, .grp (.pair (.sl (.int .u8)) .bool))], [(0, .leaf (.int .i64))], [(0, .grp (.pair (.sl (.int .u8)) .bool))]⟩
def L_codec_reader_small : List (Nat × StD × Nat × StD) := []
noncomputable def T_codec_reader_small : List Ent := [E_codec_reader_number]
theorem ok_codec_reader_small : FnX Go.Proofs.Try.prog 52 D_codec_reader_small (fun x => codec_reader_small x.1) :=
  FnX.of (coL_ok (es := T_codec_reader_small) (OKs.mem ⟨E_codec_reader_number_ok, trivial⟩)) mix (mkLs_ok (l := L_codec_reader_small) (by kernel_rfl)) (by kernel_rfl) Go.Proofs.Try.func52 rfl (by decide) (by decide) (fun x => by kernel_rfl)
noncomputable def E_codec_reader_small : Ent := ⟨52, D_codec_reader_small, fun x => codec_reader_small x.1, ((0 : Int), (([], false), ())), true⟩
theorem E_codec_reader_small_ok : E_codec_reader_small.OK Go.Proofs.Try.prog := ⟨ok_codec_reader_small, by kernel_rfl⟩
def D_codec_read : FD := ⟨[(0, .leaf (.ptr 0 0)), (1, .fn 22 [(.ptr 0 0)] [])], [(0, .grp (.pair (.sl (.int .u8)) .bool))], [(0, .leaf (.own 16 sHd))], [(0, .grp (.pair (.sl (.int .u8)) .bool)), (16, .rows sHd)]⟩
def L_codec_read : List (Nat × StD × Nat × StD) := [(3, ⟨[(0, .leaf (.ptr 0 0)), (1, .fn 22 [(.ptr 0 0)] []), (5, .leaf (.own 16 sHd)), (6, .leaf (.int .i64))], [(16, .rows sHd), (0, .grp (.pair (.sl (.int .u8)) .bool))], 17, 26⟩, 0, ⟨[(5, .leaf (.own 16 sHd))], [(0, .cells [(.sl (.int .u8)), .bool]), (16, .rows sHd)], 17, 26⟩)]
noncomputable def T_codec_read : List Ent := [E_codec_reader_holder, E_codec_reader_small]
theorem ok_codec_read : FnX Go.Proofs.Try.prog 53 D_codec_read (fun x => codec_read x.1) :=
  FnX.of (coL_ok (es := T_codec_read) (OKs.mem ⟨E_codec_reader_holder_ok, E_codec_reader_small_ok, trivial⟩)) mix (mkLs_ok (l := L_codec_read) (by kernel_rfl)) (by kernel_rfl) Go.Proofs.Try.func53 rfl (by decide) (by decide) (fun x => by kernel_rfl)
noncomputable def E_codec_read : Ent := ⟨53, D_codec_read, fun x => codec_read x.1, (([], false), ([], ())), true⟩
theorem E_codec_read_ok : E_codec_read.OK Go.Proofs.Try.prog := ⟨ok_codec_read, by kernel_rfl⟩
def D_codec_ReadState_1 : FD := ⟨[(0, .leaf (.ptr 0 0))], [(1, .cells [(.sl (.int .u8)), .bool]), (0, .cells [(.ptr 1 0)])], [(0, .grp sSw)], [(1, .cells [(.sl (.int .u8)), .bool]), (0, .cells [(.ptr 1 0)])]⟩
def L_codec_ReadState_1 : List (Nat × StD × Nat × StD) := []
noncomputable def T_codec_ReadState_1 : List Ent := [E_codec_reader_small, E_codec_reader_num, E_codec_reader_block]
theorem ok_codec_ReadState_1 : FnX Go.Proofs.Try.prog 55 D_codec_ReadState_1 (fun x => codec_ReadState_1 x.1 x.2.1) :=
  FnX.of (coL_ok (es := T_codec_ReadState_1) (OKs.mem ⟨E_codec_reader_small_ok, E_codec_reader_num_ok, E_codec_reader_block_ok, trivial⟩)) mix (mkLs_ok (l := L_codec_ReadState_1) (by kernel_rfl)) (by kernel_rfl) Go.Proofs.Try.func55 rfl (by decide) (by decide) (fun x => by kernel_rfl)
noncomputable def E_codec_ReadState_1 : Ent := ⟨55, D_codec_ReadState_1, fun x => codec_ReadState_1 x.1 x.2.1, ((((0 : Int), (0 : Int)), ((0 : Int), (0 : Int))), ([], (false, ()))), true⟩
theorem E_codec_ReadState_1_ok : E_codec_ReadState_1.OK Go.Proofs.Try.prog := ⟨ok_codec_ReadState_1, by kernel_rfl⟩
def D_codec_read_v1 : FD := ⟨[(0, .leaf (.ptr 0 0)), (1, .fn 55 [] [(.ptr 1 0)])], [(0, .grp (.pair (.sl (.int .u8)) .bool)), (1, .cells [(.ptr 0 0)])], [(0, .leaf (.own 16 sSw))], [(0, .grp (.pair (.sl (.int .u8)) .bool)), (1, .cells [(.ptr 0 0)]), (16, .rows sSw)]⟩
def L_codec_read_v1 : List (Nat × StD × Nat × StD) := [(3, ⟨[(0, .leaf (.ptr 0 0)), (1, .fn 55 [] [(.ptr 1 0)]), (5, .leaf (.own 16 sSw)), (6, .leaf (.int .i64))], [(16, .rows sSw), (0, .grp (.pair (.sl (.int .u8)) .bool)), (1, .cells [(.ptr 0 0)])], 17, 26⟩, 0, ⟨[(5, .leaf (.own 16 sSw))], [(0, .cells [(.sl (.int .u8)), .bool]), (1, .cells [(.ptr 0 0)]), (16, .rows sSw)], 17, 26⟩)]
noncomputable def T_codec_read_v1 : List Ent := [E_codec_ReadState_1, E_codec_reader_small]
theorem ok_codec_read_v1 : FnX Go.Proofs.Try.prog 54 D_codec_read_v1 (fun x => codec_read_v1 x.1) :=
  FnX.of (coL_ok (es := T_codec_read_v1) (OKs.mem ⟨E_codec_ReadState_1_ok, E_codec_reader_small_ok, trivial⟩)) mix (mkLs_ok (l := L_codec_read_v1) (by kernel_rfl)) (by kernel_rfl) Go.Proofs.Try.func54 rfl (by decide) (by decide) (fun x => by kernel_rfl)
noncomputable def E_codec_read_v1 : Ent := ⟨54, D_codec_read_v1, fun x => codec_read_v1 x.1, (([], false), ([], ())), true⟩
theorem E_codec_read_v1_ok : E_codec_read_v1.OK Go.Proofs.Try.prog := ⟨ok_codec_read_v1, by kernel_rfl⟩
def D_codec_reader_sight : FD := ⟨[(0, .leaf (.ptr 0 0))], [(0, .grp (.pair (.sl (.int .u8)) .bool))], [(0, .grp sSg)], [(0, .grp (.pair (.sl (.int .u8)) .bool))]⟩
def L_codec_reader_sight : List (Nat × StD × Nat × StD) := []
noncomputable def T_codec_reader_sight : List Ent := [E_codec_reader_num, E_codec_reader_mac, E_codec_reader_one]
theorem ok_codec_reader_sight : FnX Go.Proofs.Try.prog 59 D_codec_reader_sight (fun x => codec_reader_sight x.1) :=
  FnX.of (coL_ok (es := T_codec_reader_sight) (OKs.mem ⟨E_codec_reader_num_ok, E_codec_reader_mac_ok, E_codec_reader_one_ok, trivial⟩)) mix (mkLs_ok (l := L_codec_reader_sight) (by kernel_rfl)) (by kernel_rfl) Go.Proofs.Try.func59 rfl (by decide) (by decide) (fun x => by kernel_rfl)
noncomputable def E_codec_reader_sight : Ent := ⟨59, D_codec_reader_sight, fun x => codec_reader_sight x.1, (((0 : Int), (((0 : Int), ((0 : Int), ((0 : Int), ((0 : Int), ((0 : Int), (0 : Int)))))), (0 : Int))), (([], false), ())), true⟩
theorem E_codec_reader_sight_ok : E_codec_reader_sight.OK Go.Proofs.Try.prog := ⟨ok_codec_reader_sight, by kernel_rfl⟩
def D_codec_read_v2 : FD := ⟨[(0, .leaf (.ptr 0 0)), (1, .fn 59 [(.ptr 0 0)] [])], [(0, .grp (.pair (.sl (.int .u8)) .bool))], [(0, .leaf (.own 16 sSg))], [(0, .grp (.pair (.sl (.int .u8)) .bool)), (16, .rows sSg)]⟩
def L_codec_read_v2 : List (Nat × StD × Nat × StD) := [(3, ⟨[(0, .leaf (.ptr 0 0)), (1, .fn 59 [(.ptr 0 0)] []), (5, .leaf (.own 16 sSg)), (6, .leaf (.int .i64))], [(16, .rows sSg), (0, .grp (.pair (.sl (.int .u8)) .bool))], 17, 26⟩, 0, ⟨[(5, .leaf (.own 16 sSg))], [(0, .cells [(.sl (.int .u8)), .bool]), (16, .rows sSg)], 17, 26⟩)]
noncomputable def T_codec_read_v2 : List Ent := [E_codec_reader_sight, E_codec_reader_small]
theorem ok_codec_read_v2 : FnX Go.Proofs.Try.prog 58 D_codec_read_v2 (fun x => codec_read_v2 x.1) :=
  FnX.of (coL_ok (es := T_codec_read_v2) (OKs.mem ⟨E_codec_reader_sight_ok, E_codec_reader_small_ok, trivial⟩)) mix (mkLs_ok (l := L_codec_read_v2) (by kernel_rfl)) (by kernel_rfl) Go.Proofs.Try.func58 rfl (by decide) (by decide) (fun x => by kernel_rfl)
noncomputable def E_codec_read_v2 : Ent := ⟨58, D_codec_read_v2, fun x => codec_read_v2 x.1, (([], false), ([], ())), true⟩
theorem E_codec_read_v2_ok : E_codec_read_v2.OK Go.Proofs.Try.prog := ⟨ok_codec_read_v2, by kernel_rfl⟩
def D_codec_ReadState_2 : FD := ⟨[(0, .leaf (.ptr 0 0))], [(1, .cells [(.sl (.int .u8)), .bool]), (0, .cells [(.ptr 1 0)])], [(0, .grp sKn)], [(1, .cells [(.sl (.int .u8)), .bool]), (0, .cells [(.ptr 1 0)])]⟩
def L_codec_ReadState_2 : List (Nat × StD × Nat × StD) := []
noncomputable def T_codec_ReadState_2 : List Ent := [E_codec_read_v2, E_codec_reader_ip]
theorem ok_codec_ReadState_2 : FnX Go.Proofs.Try.prog 57 D_codec_ReadState_2 (fun x => codec_ReadState_2 x.1 x.2.1) :=
  FnX.of (coL_ok (es := T_codec_ReadState_2) (OKs.mem ⟨E_codec_read_v2_ok, E_codec_reader_ip_ok, trivial⟩)) mix (mkLs_ok (l := L_codec_ReadState_2) (by kernel_rfl)) (by kernel_rfl) Go.Proofs.Try.func57 rfl (by decide) (by decide) (fun x => by kernel_rfl)
noncomputable def E_codec_ReadState_2 : Ent := ⟨57, D_codec_ReadState_2, fun x => codec_ReadState_2 x.1 x.2.1, (((0 : Int), []), ([], (false, ()))), true⟩
theorem E_codec_ReadState_2_ok : E_codec_ReadState_2.OK Go.Proofs.Try.prog := ⟨ok_codec_ReadState_2, by kernel_rfl⟩
def D_codec_read_v3 : FD := ⟨[(0, .leaf (.ptr 0 0)), (1, .fn 57 [] [(.ptr 1 0)])], [(0, .grp (.pair (.sl (.int .u8)) .bool)), (1, .cells [(.ptr 0 0)])], [(0, .leaf (.own 16 sKn))], [(0, .grp (.pair (.sl (.int .u8)) .bool)), (1, .cells [(.ptr 0 0)]), (16, .rows sKn)]⟩
def L_codec_read_v3 : List (Nat × StD × Nat × StD) := [(3, ⟨[(0, .leaf (.ptr 0 0)), (1, .fn 57 [] [(.ptr 1 0)]), (5, .leaf (.own 16 sKn)), (6, .leaf (.int .i64))], [(16, .rows sKn), (0, .grp (.pair (.sl (.int .u8)) .bool)), (1, .cells [(.ptr 0 0)])], 17, 26⟩, 0, ⟨[(5, .leaf (.own 16 sKn))], [(0, .cells [(.sl (.int .u8)), .bool]), (1, .cells [(.ptr 0 0)]), (16, .rows sKn)], 17, 26⟩)]
noncomputable def T_codec_read_v3 : List Ent := [E_codec_ReadState_2, E_codec_reader_small]
theorem ok_codec_read_v3 : FnX Go.Proofs.Try.prog 56 D_codec_read_v3 (fun x => codec_read_v3 x.1) :=
  FnX.of (coL_ok (es := T_codec_read_v3) (OKs.mem ⟨E_codec_ReadState_2_ok, E_codec_reader_small_ok, trivial⟩)) mix (mkLs_ok (l := L_codec_read_v3) (by kernel_rfl)) (by kernel_rfl) Go.Proofs.Try.func56 rfl (by decide) (by decide) (fun x => by kernel_rfl)
noncomputable def E_codec_read_v3 : Ent := ⟨56, D_codec_read_v3, fun x => codec_read_v3 x.1, (([], false), ([], ())), true⟩
theorem E_codec_read_v3_ok : E_codec_read_v3.OK Go.Proofs.Try.prog := ⟨ok_codec_read_v3, by kernel_rfl⟩
def D_codec_ReadState_3 : FD := ⟨[(0, .leaf (.ptr 0 0))], [(1, .cells [(.sl (.int .u8)), .bool]), (0, .cells [(.ptr 1 0)])], [(0, .grp sPr)], [(1, .cells [(.sl (.int .u8)), .bool]), (0, .cells [(.ptr 1 0)])]⟩
def L_codec_ReadState_3 : List (Nat × StD × Nat × StD) := []
noncomputable def T_codec_ReadState_3 : List Ent := [E_codec_reader_one, E_codec_reader_num, E_codec_reader_small, E_codec_reader_ip]
theorem ok_codec_ReadState_3 : FnX Go.Proofs.Try.prog 61 D_codec_ReadState_3 (fun x => codec_ReadState_3 x.1 x.2.1) :=
  FnX.of (coL_ok (es := T_codec_ReadState_3) (OKs.mem ⟨E_codec_reader_one_ok, E_codec_reader_num_ok, E_codec_reader_small_ok, E_codec_reader_ip_ok, trivial⟩)) mix (mkLs_ok (l := L_codec_ReadState_3) (by kernel_rfl)) (by kernel_rfl) Go.Proofs.Try.func61 rfl (by decide) (by decide) (fun x => by kernel_rfl)
noncomputable def E_codec_ReadState_3 : Ent := ⟨61, D_codec_ReadState_3, fun x => codec_ReadState_3 x.1 x.2.1, (((0 : Int), ((0 : Int), ((0 : Int), ((0 : Int), (0 : Int))))), ([], (false, ()))), true⟩
theorem E_codec_ReadState_3_ok : E_codec_ReadState_3.OK Go.Proofs.Try.prog := ⟨ok_codec_ReadState_3, by kernel_rfl⟩
def D_codec_read_v4 : FD := ⟨[(0, .leaf (.ptr 0 0)), (1, .fn 61 [] [(.ptr 1 0)])], [(0, .grp (.pair (.sl (.int .u8)) .bool)), (1, .cells [(.ptr 0 0)])], [(0, .leaf (.own 16 sPr))], [(0, .grp (.pair (.sl (.int .u8)) .bool)), (1, .cells [(.ptr 0 0)]), (16, .rows sPr)]⟩
def L_codec_read_v4 : List (Nat × StD × Nat × StD) := [(3, ⟨[(0, .leaf (.ptr 0 0)), (1, .fn 61 [] [(.ptr 1 0)]), (5, .leaf (.own 16 sPr)), (6, .leaf (.int .i64))], [(16, .rows sPr), (0, .grp (.pair (.sl (.int .u8)) .bool)), (1, .cells [(.ptr 0 0)])], 17, 26⟩, 0, ⟨[(5, .leaf (.own 16 sPr))], [(0, .cells [(.sl (.int .u8)), .bool]), (1, .cells [(.ptr 0 0)]), (16, .rows sPr)], 17, 26⟩)]
noncomputable def T_codec_read_v4 : List Ent := [E_codec_ReadState_3, E_codec_reader_small]
theorem ok_codec_read_v4 : FnX Go.Proofs.Try.prog 60 D_codec_read_v4 (fun x => codec_read_v4 x.1) :=
  FnX.of (coL_ok (es := T_codec_read_v4) (OKs.mem ⟨E_codec_ReadState_3_ok, E_codec_reader_small_ok, trivial⟩)) mix (mkLs_ok (l := L_codec_read_v4) (by kernel_rfl)) (by kernel_rfl) Go.Proofs.Try.func60 rfl (by decide) (by decide) (fun x => by kernel_rfl)
noncomputable def E_codec_read_v4 : Ent := ⟨60, D_codec_read_v4, fun x => codec_read_v4 x.1, (([], false), ([], ())), true⟩
theorem E_codec_read_v4_ok : E_codec_read_v4.OK Go.Proofs.Try.prog := ⟨ok_codec_read_v4, by kernel_rfl⟩
def D_codec_ReadState_4 : FD := ⟨[(0, .leaf (.ptr 0 0))], [(1, .cells [(.sl (.int .u8)), .bool]), (0, .cells [(.ptr 1 0)])], [(0, .grp sCa)], [(1, .cells [(.sl (.int .u8)), .bool]), (0, .cells [(.ptr 1 0)])]⟩
def L_codec_ReadState_4 : List (Nat × StD × Nat × StD) := []
noncomputable def T_codec_ReadState_4 : List Ent := [E_codec_reader_one, E_codec_reader_num, E_codec_reader_ip]
theorem ok_codec_ReadState_4 : FnX Go.Proofs.Try.prog 63 D_codec_ReadState_4 (fun x => codec_ReadState_4 x.1 x.2.1) :=
  FnX.of (coL_ok (es := T_codec_ReadState_4) (OKs.mem ⟨E_codec_reader_one_ok, E_codec_reader_num_ok, E_codec_reader_ip_ok, trivial⟩)) mix (mkLs_ok (l := L_codec_ReadState_4) (by kernel_rfl)) (by kernel_rfl) Go.Proofs.Try.func63 rfl (by decide) (by decide) (fun x => by kernel_rfl)
noncomputable def E_codec_ReadState_4 : Ent := ⟨63, D_codec_ReadState_4, fun x => codec_ReadState_4 x.1 x.2.1, (((0 : Int), ((0 : Int), ((0 : Int), (0 : Int)))), ([], (false, ()))), true⟩
theorem E_codec_ReadState_4_ok : E_codec_ReadState_4.OK Go.Proofs.Try.prog := ⟨ok_codec_ReadState_4, by kernel_rfl⟩
def D_codec_read_v5 : FD := ⟨[(0, .leaf (.ptr 0 0)), (1, .fn 63 [] [(.ptr 1 0)])], [(0, .grp (.pair (.sl (.int .u8)) .bool)), (1, .cells [(.ptr 0 0)])], [(0, .leaf (.own 16 sCa))], [(0, .grp (.pair (.sl (.int .u8)) .bool)), (1, .cells [(.ptr 0 0)]), (16, .rows sCa)]⟩
def L_codec_read_v5 : List (Nat × StD × Nat × StD) := [(3, ⟨[(0, .leaf (.ptr 0 0)), (1, .fn 63 [] [(.ptr 1 0)]), (5, .leaf (.own 16 sCa)), (6, .leaf (.int .i64))], [(16, .rows sCa), (0, .grp (.pair (.sl (.int .u8)) .bool)), (1, .cells [(.ptr 0 0)])], 17, 26⟩, 0, ⟨[(5, .leaf (.own 16 sCa))], [(0, .cells [(.sl (.int .u8)), .bool]), (1, .cells [(.ptr 0 0)]), (16, .rows sCa)], 17, 26⟩)]
noncomputable def T_codec_read_v5 : List Ent := [E_codec_ReadState_4, E_codec_reader_small]
theorem ok_codec_read_v5 : FnX Go.Proofs.Try.prog 62 D_codec_read_v5 (fun x => codec_read_v5 x.1) :=
  FnX.of (coL_ok (es := T_codec_read_v5) (OKs.mem ⟨E_codec_ReadState_4_ok, E_codec_reader_small_ok, trivial⟩)) mix (mkLs_ok (l := L_codec_read_v5) (by kernel_rfl)) (by kernel_rfl) Go.Proofs.Try.func62 rfl (by decide) (by decide) (fun x => by kernel_rfl)
noncomputable def E_codec_read_v5 : Ent := ⟨62, D_codec_read_v5, fun x => codec_read_v5 x.1, (([], false), ([], ())), true⟩
theorem E_codec_read_v5_ok : E_codec_read_v5.OK Go.Proofs.Try.prog := ⟨ok_codec_read_v5, by kernel_rfl⟩
def D_clock_Clamp : FD := ⟨[(0, .leaf (.int .i64))], [], [(0, .leaf (.int .i64))], []⟩
def L_clock_Clamp : List (Nat × StD × Nat × StD) := []
noncomputable def T_clock_Clamp : List Ent := []
theorem ok_clock_Clamp : FnX Go.Proofs.Try.prog 32 D_clock_Clamp (fun x => clock_Clamp x.1) :=
  FnX.of (coL_ok (es := T_clock_Clamp) (OKs.mem trivial)) mix (mkLs_ok (l := L_clock_Clamp) (by kernel_rfl)) (by kernel_rfl) Go.Proofs.Try.func32 rfl (by decide) (by decide) (fun x => by kernel_rfl)
noncomputable def E_clock_Clamp : Ent := ⟨32, D_clock_Clamp, fun x => clock_Clamp x.1, ((0 : Int), ()), false⟩
theorem E_clock_Clamp_ok : E_clock_Clamp.OK Go.Proofs.Try.prog := ⟨ok_clock_Clamp, by kernel_rfl⟩
def D_held_Right : FD := ⟨[(0, .leaf (.sl sHd))], [], [(0, .leaf .bool)], []⟩
def L_held_Right : List (Nat × StD × Nat × StD) := [(2, ⟨[(0, .leaf (.sl sHd)), (5, .leaf (.sl sHd)), (6, .leaf (.int .i64)), (7, .leaf (.int .i64))], [], 16, 35⟩, 0, ⟨[(0, .leaf (.sl sHd))], [], 16, 35⟩)]
noncomputable def T_held_Right : List Ent := [E_held_May]
theorem ok_held_Right : FnX Go.Proofs.Try.prog 33 D_held_Right (fun x => held_Right x.1) :=
  FnX.of (coL_ok (es := T_held_Right) (OKs.mem ⟨E_held_May_ok, trivial⟩)) mix (mkLs_ok (l := L_held_Right) (by kernel_rfl)) (by kernel_rfl) Go.Proofs.Try.func33 rfl (by decide) (by decide) (fun x => by kernel_rfl)
noncomputable def E_held_Right : Ent := ⟨33, D_held_Right, fun x => held_Right x.1, (false, ()), false⟩
theorem E_held_Right_ok : E_held_Right.OK Go.Proofs.Try.prog := ⟨ok_held_Right, by kernel_rfl⟩
def D_addr_mask : FD := ⟨[(0, .leaf (.int .i64))], [], [(0, .leaf (.int .u32))], []⟩
def L_addr_mask : List (Nat × StD × Nat × StD) := []
noncomputable def T_addr_mask : List Ent := []
theorem ok_addr_mask : FnX Go.Proofs.Try.prog 77 D_addr_mask (fun x => addr_mask x.1) :=
  FnX.of (coL_ok (es := T_addr_mask) (OKs.mem trivial)) mix (mkLs_ok (l := L_addr_mask) (by kernel_rfl)) (by kernel_rfl) Go.Proofs.Try.func77 rfl (by decide) (by decide) (fun x => by kernel_rfl)
noncomputable def E_addr_mask : Ent := ⟨77, D_addr_mask, fun x => addr_mask x.1, ((0 : Int), ()), false⟩
theorem E_addr_mask_ok : E_addr_mask.OK Go.Proofs.Try.prog := ⟨ok_addr_mask, by kernel_rfl⟩
def D_addr_Right : FD := ⟨[(0, .grp sBk)], [], [(0, .leaf .bool)], []⟩
def L_addr_Right : List (Nat × StD × Nat × StD) := []
noncomputable def T_addr_Right : List Ent := [E_addr_mask]
theorem ok_addr_Right : FnX Go.Proofs.Try.prog 70 D_addr_Right (fun x => addr_Right x.1) :=
  FnX.of (coL_ok (es := T_addr_Right) (OKs.mem ⟨E_addr_mask_ok, trivial⟩)) mix (mkLs_ok (l := L_addr_Right) (by kernel_rfl)) (by kernel_rfl) Go.Proofs.Try.func70 rfl (by decide) (by decide) (fun x => by kernel_rfl)
noncomputable def E_addr_Right : Ent := ⟨70, D_addr_Right, fun x => addr_Right x.1, (false, ()), false⟩
theorem E_addr_Right_ok : E_addr_Right.OK Go.Proofs.Try.prog := ⟨ok_addr_Right, by kernel_rfl⟩
def D_addr_Size : FD := ⟨[(0, .grp sBk)], [], [(0, .leaf (.int .i64))], []⟩
def L_addr_Size : List (Nat × StD × Nat × StD) := []
noncomputable def T_addr_Size : List Ent := [E_addr_Right]
theorem ok_addr_Size : FnX Go.Proofs.Try.prog 71 D_addr_Size (fun x => addr_Size x.1) :=
  FnX.of (coL_ok (es := T_addr_Size) (OKs.mem ⟨E_addr_Right_ok, trivial⟩)) mix (mkLs_ok (l := L_addr_Size) (by kernel_rfl)) (by kernel_rfl) Go.Proofs.Try.func71 rfl (by decide) (by decide) (fun x => by kernel_rfl)
noncomputable def E_addr_Size : Ent := ⟨71, D_addr_Size, fun x => addr_Size x.1, ((0 : Int), ()), false⟩
theorem E_addr_Size_ok : E_addr_Size.OK Go.Proofs.Try.prog := ⟨ok_addr_Size, by kernel_rfl⟩
def D_addr_Has : FD := ⟨[(0, .grp sBk), (1, .leaf (.int .u32))], [], [(0, .leaf .bool)], []⟩
def L_addr_Has : List (Nat × StD × Nat × StD) := []
noncomputable def T_addr_Has : List Ent := [E_addr_mask, E_addr_Right]
theorem ok_addr_Has : FnX Go.Proofs.Try.prog 82 D_addr_Has (fun x => addr_Has x.1 x.2.1) :=
  FnX.of (coL_ok (es := T_addr_Has) (OKs.mem ⟨E_addr_mask_ok, E_addr_Right_ok, trivial⟩)) mix (mkLs_ok (l := L_addr_Has) (by kernel_rfl)) (by kernel_rfl) Go.Proofs.Try.func82 rfl (by decide) (by decide) (fun x => by kernel_rfl)
noncomputable def E_addr_Has : Ent := ⟨82, D_addr_Has, fun x => addr_Has x.1 x.2.1, (false, ()), false⟩
theorem E_addr_Has_ok : E_addr_Has.OK Go.Proofs.Try.prog := ⟨ok_addr_Has, by kernel_rfl⟩
def D_addr_Within : FD := ⟨[(0, .grp sBk), (1, .grp sBk)], [], [(0, .leaf .bool)], []⟩
def L_addr_Within : List (Nat × StD × Nat × StD) := []
noncomputable def T_addr_Within : List Ent := [E_addr_Has, E_addr_Right]
theorem ok_addr_Within : FnX Go.Proofs.Try.prog 78 D_addr_Within (fun x => addr_Within x.1 x.2.1) :=
  FnX.of (coL_ok (es := T_addr_Within) (OKs.mem ⟨E_addr_Has_ok, E_addr_Right_ok, trivial⟩)) mix (mkLs_ok (l := L_addr_Within) (by kernel_rfl)) (by kernel_rfl) Go.Proofs.Try.func78 rfl (by decide) (by decide) (fun x => by kernel_rfl)
noncomputable def E_addr_Within : Ent := ⟨78, D_addr_Within, fun x => addr_Within x.1 x.2.1, (false, ()), false⟩
theorem E_addr_Within_ok : E_addr_Within.OK Go.Proofs.Try.prog := ⟨ok_addr_Within, by kernel_rfl⟩
def D_addr_Overlap : FD := ⟨[(0, .grp sBk), (1, .grp sBk)], [], [(0, .leaf .bool)], []⟩
def L_addr_Overlap : List (Nat × StD × Nat × StD) := []
noncomputable def T_addr_Overlap : List Ent := [E_addr_Within]
theorem ok_addr_Overlap : FnX Go.Proofs.Try.prog 72 D_addr_Overlap (fun x => addr_Overlap x.1 x.2.1) :=
  FnX.of (coL_ok (es := T_addr_Overlap) (OKs.mem ⟨E_addr_Within_ok, trivial⟩)) mix (mkLs_ok (l := L_addr_Overlap) (by kernel_rfl)) (by kernel_rfl) Go.Proofs.Try.func72 rfl (by decide) (by decide) (fun x => by kernel_rfl)
noncomputable def E_addr_Overlap : Ent := ⟨72, D_addr_Overlap, fun x => addr_Overlap x.1 x.2.1, (false, ()), false⟩
theorem E_addr_Overlap_ok : E_addr_Overlap.OK Go.Proofs.Try.prog := ⟨ok_addr_Overlap, by kernel_rfl⟩
def D_sweep_Right : FD := ⟨[(0, .leaf (.sl sSw))], [], [(0, .leaf .bool)], []⟩
def L_sweep_Right : List (Nat × StD × Nat × StD) := [(2, ⟨[(0, .leaf (.sl sSw)), (5, .leaf (.sl sSw)), (6, .leaf (.int .i64)), (7, .leaf (.int .i64))], [], 16, 73⟩, 0, ⟨[(0, .leaf (.sl sSw))], [], 16, 73⟩)]
noncomputable def T_sweep_Right : List Ent := [E_addr_Overlap, E_clock_Clamp, E_addr_Size, E_addr_Right]
theorem ok_sweep_Right : FnX Go.Proofs.Try.prog 34 D_sweep_Right (fun x => sweep_Right x.1) :=
  FnX.of (coL_ok (es := T_sweep_Right) (OKs.mem ⟨E_addr_Overlap_ok, E_clock_Clamp_ok, E_addr_Size_ok, E_addr_Right_ok, trivial⟩)) mix (mkLs_ok (l := L_sweep_Right) (by kernel_rfl)) (by kernel_rfl) Go.Proofs.Try.func34 rfl (by decide) (by decide) (fun x => by kernel_rfl)
noncomputable def E_sweep_Right : Ent := ⟨34, D_sweep_Right, fun x => sweep_Right x.1, (false, ()), false⟩
theorem E_sweep_Right_ok : E_sweep_Right.OK Go.Proofs.Try.prog := ⟨ok_sweep_Right, by kernel_rfl⟩
def D_seen_Right : FD := ⟨[(0, .leaf (.sl sKn))], [], [(0, .leaf .bool)], []⟩
def L_seen_Right : List (Nat × StD × Nat × StD) := [(2, ⟨[(0, .leaf (.sl sKn)), (7, .leaf (.sl sKn)), (8, .leaf (.int .i64)), (9, .leaf (.int .i64))], [], 16, 81⟩, 0, ⟨[(0, .leaf (.sl sKn))], [], 16, 81⟩), (7, ⟨[(0, .leaf (.sl sKn)), (4, .leaf (.ptr 16 0)), (7, .leaf (.sl sKn)), (8, .leaf (.int .i64)), (9, .leaf (.int .i64)), (40, .leaf (.sl sSg)), (41, .leaf (.int .i64)), (42, .leaf (.int .i64))], [(16, .cells [(.int .u32), (.sl sSg)])], 17, 81⟩, 2, ⟨[(0, .leaf (.sl sKn)), (7, .leaf (.sl sKn)), (8, .leaf (.int .i64)), (9, .leaf (.int .i64))], [], 16, 81⟩)]
noncomputable def T_seen_Right : List Ent := []
theorem ok_seen_Right : FnX Go.Proofs.Try.prog 35 D_seen_Right (fun x => seen_Right x.1) :=
  FnX.of (coL_ok (es := T_seen_Right) (OKs.mem trivial)) mix (mkLs_ok (l := L_seen_Right) (by kernel_rfl)) (by kernel_rfl) Go.Proofs.Try.func35 rfl (by decide) (by decide) (fun x => by kernel_rfl)
noncomputable def E_seen_Right : Ent := ⟨35, D_seen_Right, fun x => seen_Right x.1, (false, ()), false⟩
theorem E_seen_Right_ok : E_seen_Right.OK Go.Proofs.Try.prog := ⟨ok_seen_Right, by kernel_rfl⟩
def D_probe_Right_1 : FD := ⟨[(0, .grp sPr), (1, .leaf (.fpt sPr 0))], [], [(0, .leaf .bool)], []⟩
def L_probe_Right_1 : List (Nat × StD × Nat × StD) := []
noncomputable def T_probe_Right_1 : List Ent := []
theorem ok_probe_Right_1 : FnX Go.Proofs.Try.prog 74 D_probe_Right_1 (fun x => probe_Right_1 x.1 x.2.1) :=
  FnX.of (coL_ok (es := T_probe_Right_1) (OKs.mem trivial)) mix (mkLs_ok (l := L_probe_Right_1) (by kernel_rfl)) (by kernel_rfl) Go.Proofs.Try.func74 rfl (by decide) (by decide) (fun x => by kernel_rfl)
noncomputable def E_probe_Right_1 : Ent := ⟨74, D_probe_Right_1, fun x => probe_Right_1 x.1 x.2.1, (false, ()), false⟩
theorem E_probe_Right_1_ok : E_probe_Right_1.OK Go.Proofs.Try.prog := ⟨ok_probe_Right_1, by kernel_rfl⟩
def D_slices_IndexFunc : FD := ⟨[(0, .leaf (.sl sPr)), (1, .fn 74 [] [(.fpt sPr 0)])], [], [(0, .leaf (.int .i64))], []⟩
def L_slices_IndexFunc : List (Nat × StD × Nat × StD) := [(2, ⟨[(0, .leaf (.sl sPr)), (1, .fn 74 [] [(.fpt sPr 0)]), (7, .leaf (.int .i64)), (8, .leaf (.int .i64))], [], 16, 19⟩, 0, ⟨[], [], 16, 19⟩)]
noncomputable def T_slices_IndexFunc : List Ent := [E_probe_Right_1]
theorem ok_slices_IndexFunc : FnX Go.Proofs.Try.prog 79 D_slices_IndexFunc (fun x => slices_IndexFunc x.1 x.2.1) :=
  FnX.of (coL_ok (es := T_slices_IndexFunc) (OKs.mem ⟨E_probe_Right_1_ok, trivial⟩)) mix (mkLs_ok (l := L_slices_IndexFunc) (by kernel_rfl)) (by kernel_rfl) Go.Proofs.Try.func79 rfl (by decide) (by decide) (fun x => by kernel_rfl)
noncomputable def E_slices_IndexFunc : Ent := ⟨79, D_slices_IndexFunc, fun x => slices_IndexFunc x.1 x.2.1, ((0 : Int), ()), false⟩
theorem E_slices_IndexFunc_ok : E_slices_IndexFunc.OK Go.Proofs.Try.prog := ⟨ok_slices_IndexFunc, by kernel_rfl⟩
def D_slices_ContainsFunc : FD := ⟨[(0, .leaf (.sl sPr)), (1, .fn 74 [] [(.fpt sPr 0)])], [], [(0, .leaf .bool)], []⟩
def L_slices_ContainsFunc : List (Nat × StD × Nat × StD) := []
noncomputable def T_slices_ContainsFunc : List Ent := [E_slices_IndexFunc]
theorem ok_slices_ContainsFunc : FnX Go.Proofs.Try.prog 73 D_slices_ContainsFunc (fun x => slices_ContainsFunc x.1 x.2.1) :=
  FnX.of (coL_ok (es := T_slices_ContainsFunc) (OKs.mem ⟨E_slices_IndexFunc_ok, trivial⟩)) mix (mkLs_ok (l := L_slices_ContainsFunc) (by kernel_rfl)) (by kernel_rfl) Go.Proofs.Try.func73 rfl (by decide) (by decide) (fun x => by kernel_rfl)
noncomputable def E_slices_ContainsFunc : Ent := ⟨73, D_slices_ContainsFunc, fun x => slices_ContainsFunc x.1 x.2.1, (false, ()), false⟩
theorem E_slices_ContainsFunc_ok : E_slices_ContainsFunc.OK Go.Proofs.Try.prog := ⟨ok_slices_ContainsFunc, by kernel_rfl⟩
def D_probe_Right : FD := ⟨[(0, .leaf (.sl sPr))], [], [(0, .leaf .bool)], []⟩
def L_probe_Right : List (Nat × StD × Nat × StD) := [(2, ⟨[(0, .leaf (.sl sPr)), (5, .leaf (.sl sPr)), (6, .leaf (.int .i64)), (7, .leaf (.int .i64))], [], 16, 56⟩, 0, ⟨[(0, .leaf (.sl sPr))], [], 16, 56⟩)]
noncomputable def T_probe_Right : List Ent := [E_slices_ContainsFunc, E_clock_Clamp]
theorem ok_probe_Right : FnX Go.Proofs.Try.prog 36 D_probe_Right (fun x => probe_Right x.1) :=
  FnX.of (coL_ok (es := T_probe_Right) (OKs.mem ⟨E_slices_ContainsFunc_ok, E_clock_Clamp_ok, trivial⟩)) mix (mkLs_ok (l := L_probe_Right) (by kernel_rfl)) (by kernel_rfl) Go.Proofs.Try.func36 rfl (by decide) (by decide) (fun x => by kernel_rfl)
noncomputable def E_probe_Right : Ent := ⟨36, D_probe_Right, fun x => probe_Right x.1, (false, ()), false⟩
theorem E_probe_Right_ok : E_probe_Right.OK Go.Proofs.Try.prog := ⟨ok_probe_Right, by kernel_rfl⟩
def D_cases_Open : FD := ⟨[(0, .grp sCa)], [], [(0, .leaf .bool)], []⟩
def L_cases_Open : List (Nat × StD × Nat × StD) := []
noncomputable def T_cases_Open : List Ent := []
theorem ok_cases_Open : FnX Go.Proofs.Try.prog 75 D_cases_Open (fun x => cases_Open x.1) :=
  FnX.of (coL_ok (es := T_cases_Open) (OKs.mem trivial)) mix (mkLs_ok (l := L_cases_Open) (by kernel_rfl)) (by kernel_rfl) Go.Proofs.Try.func75 rfl (by decide) (by decide) (fun x => by kernel_rfl)
noncomputable def E_cases_Open : Ent := ⟨75, D_cases_Open, fun x => cases_Open x.1, (false, ()), false⟩
theorem E_cases_Open_ok : E_cases_Open.OK Go.Proofs.Try.prog := ⟨ok_cases_Open, by kernel_rfl⟩
def D_cases_Find_1 : FD := ⟨[(0, .grp sCa), (1, .leaf (.fpt (.int .u32) 0))], [], [(0, .leaf .bool)], []⟩
def L_cases_Find_1 : List (Nat × StD × Nat × StD) := []
noncomputable def T_cases_Find_1 : List Ent := [E_cases_Open]
theorem ok_cases_Find_1 : FnX Go.Proofs.Try.prog 81 D_cases_Find_1 (fun x => cases_Find_1 x.1 x.2.1) :=
  FnX.of (coL_ok (es := T_cases_Find_1) (OKs.mem ⟨E_cases_Open_ok, trivial⟩)) mix (mkLs_ok (l := L_cases_Find_1) (by kernel_rfl)) (by kernel_rfl) Go.Proofs.Try.func81 rfl (by decide) (by decide) (fun x => by kernel_rfl)
noncomputable def E_cases_Find_1 : Ent := ⟨81, D_cases_Find_1, fun x => cases_Find_1 x.1 x.2.1, (false, ()), false⟩
theorem E_cases_Find_1_ok : E_cases_Find_1.OK Go.Proofs.Try.prog := ⟨ok_cases_Find_1, by kernel_rfl⟩
def D_slices_IndexFunc_v1 : FD := ⟨[(0, .leaf (.sl sCa)), (1, .fn 81 [] [(.fpt (.int .u32) 0)])], [], [(0, .leaf (.int .i64))], []⟩
def L_slices_IndexFunc_v1 : List (Nat × StD × Nat × StD) := [(2, ⟨[(0, .leaf (.sl sCa)), (1, .fn 81 [] [(.fpt (.int .u32) 0)]), (7, .leaf (.int .i64)), (8, .leaf (.int .i64))], [], 16, 19⟩, 0, ⟨[], [], 16, 19⟩)]
noncomputable def T_slices_IndexFunc_v1 : List Ent := [E_cases_Find_1]
theorem ok_slices_IndexFunc_v1 : FnX Go.Proofs.Try.prog 80 D_slices_IndexFunc_v1 (fun x => slices_IndexFunc_v1 x.1 x.2.1) :=
  FnX.of (coL_ok (es := T_slices_IndexFunc_v1) (OKs.mem ⟨E_cases_Find_1_ok, trivial⟩)) mix (mkLs_ok (l := L_slices_IndexFunc_v1) (by kernel_rfl)) (by kernel_rfl) Go.Proofs.Try.func80 rfl (by decide) (by decide) (fun x => by kernel_rfl)
noncomputable def E_slices_IndexFunc_v1 : Ent := ⟨80, D_slices_IndexFunc_v1, fun x => slices_IndexFunc_v1 x.1 x.2.1, ((0 : Int), ()), false⟩
theorem E_slices_IndexFunc_v1_ok : E_slices_IndexFunc_v1.OK Go.Proofs.Try.prog := ⟨ok_slices_IndexFunc_v1, by kernel_rfl⟩
def D_cases_Find : FD := ⟨[(0, .leaf (.sl sCa)), (1, .leaf (.int .u32))], [], [(0, .leaf (.int .i64))], []⟩
def L_cases_Find : List (Nat × StD × Nat × StD) := []
noncomputable def T_cases_Find : List Ent := [E_slices_IndexFunc_v1]
theorem ok_cases_Find : FnX Go.Proofs.Try.prog 76 D_cases_Find (fun x => cases_Find x.1 x.2.1) :=
  FnX.of (coL_ok (es := T_cases_Find) (OKs.mem ⟨E_slices_IndexFunc_v1_ok, trivial⟩)) mix (mkLs_ok (l := L_cases_Find) (by kernel_rfl)) (by kernel_rfl) Go.Proofs.Try.func76 rfl (by decide) (by decide) (fun x => by kernel_rfl)
noncomputable def E_cases_Find : Ent := ⟨76, D_cases_Find, fun x => cases_Find x.1 x.2.1, ((0 : Int), ()), false⟩
theorem E_cases_Find_ok : E_cases_Find.OK Go.Proofs.Try.prog := ⟨ok_cases_Find, by kernel_rfl⟩
def D_cases_Right : FD := ⟨[(0, .leaf (.sl sCa))], [], [(0, .leaf .bool)], []⟩
def L_cases_Right : List (Nat × StD × Nat × StD) := [(2, ⟨[(0, .leaf (.sl sCa)), (5, .leaf (.sl sCa)), (6, .leaf (.int .i64)), (7, .leaf (.int .i64))], [], 16, 69⟩, 0, ⟨[(0, .leaf (.sl sCa))], [], 16, 69⟩)]
noncomputable def T_cases_Right : List Ent := [E_cases_Find, E_cases_Open, E_clock_Clamp]
theorem ok_cases_Right : FnX Go.Proofs.Try.prog 37 D_cases_Right (fun x => cases_Right x.1) :=
  FnX.of (coL_ok (es := T_cases_Right) (OKs.mem ⟨E_cases_Find_ok, E_cases_Open_ok, E_clock_Clamp_ok, trivial⟩)) mix (mkLs_ok (l := L_cases_Right) (by kernel_rfl)) (by kernel_rfl) Go.Proofs.Try.func37 rfl (by decide) (by decide) (fun x => by kernel_rfl)
noncomputable def E_cases_Right : Ent := ⟨37, D_cases_Right, fun x => cases_Right x.1, (false, ()), false⟩
theorem E_cases_Right_ok : E_cases_Right.OK Go.Proofs.Try.prog := ⟨ok_cases_Right, by kernel_rfl⟩
def D_codec_Right : FD := ⟨[(0, .grp sSt)], [], [(0, .leaf .bool)], []⟩
def L_codec_Right : List (Nat × StD × Nat × StD) := []
noncomputable def T_codec_Right : List Ent := [E_cases_Right, E_probe_Right, E_seen_Right, E_sweep_Right, E_held_Right, E_clock_Clamp]
theorem ok_codec_Right : FnX Go.Proofs.Try.prog 13 D_codec_Right (fun x => codec_Right x.1) :=
  FnX.of (coL_ok (es := T_codec_Right) (OKs.mem ⟨E_cases_Right_ok, E_probe_Right_ok, E_seen_Right_ok, E_sweep_Right_ok, E_held_Right_ok, E_clock_Clamp_ok, trivial⟩)) mix (mkLs_ok (l := L_codec_Right) (by kernel_rfl)) (by kernel_rfl) Go.Proofs.Try.func13 rfl (by decide) (by decide) (fun x => by kernel_rfl)
noncomputable def E_codec_Right : Ent := ⟨13, D_codec_Right, fun x => codec_Right x.1, (false, ()), false⟩
theorem E_codec_Right_ok : E_codec_Right.OK Go.Proofs.Try.prog := ⟨ok_codec_Right, by kernel_rfl⟩
def D_codec_ReadState : FD := ⟨[(0, .leaf (.sl (.int .u8)))], [], [(0, .grp sSt), (1, .leaf .bool)], []⟩
def L_codec_ReadState : List (Nat × StD × Nat × StD) := []
noncomputable def T_codec_ReadState : List Ent := [E_codec_Right, E_codec_read_v5, E_codec_read_v4, E_codec_read_v3, E_codec_read_v1, E_codec_read, E_codec_reader_small, E_codec_reader_num]
theorem ok_codec_ReadState : FnX Go.Proofs.Try.prog 15 D_codec_ReadState (fun x => codec_ReadState x.1) :=
  FnX.of (coL_ok (es := T_codec_ReadState) (OKs.mem ⟨E_codec_Right_ok, E_codec_read_v5_ok, E_codec_read_v4_ok, E_codec_read_v3_ok, E_codec_read_v1_ok, E_codec_read_ok, E_codec_reader_small_ok, E_codec_reader_num_ok, trivial⟩)) mix (mkLs_ok (l := L_codec_ReadState) (by kernel_rfl)) (by kernel_rfl) Go.Proofs.Try.func15 rfl (by decide) (by decide) (fun x => by kernel_rfl)
noncomputable def E_codec_ReadState : Ent := ⟨15, D_codec_ReadState, fun x => codec_ReadState x.1, (((0 : Int), ((0 : Int), ([], ([], ([], ([], [])))))), (false, ())), true⟩
theorem E_codec_ReadState_ok : E_codec_ReadState.OK Go.Proofs.Try.prog := ⟨ok_codec_ReadState, by kernel_rfl⟩
def D_codec_Event : FD := ⟨[(0, .grp sEv)], [], [(0, .leaf (.sl (.int .u8)))], []⟩
def L_codec_Event : List (Nat × StD × Nat × StD) := []
noncomputable def T_codec_Event : List Ent := [E_codec_ip, E_codec_block, E_codec_holder]
theorem ok_codec_Event : FnX Go.Proofs.Try.prog 7 D_codec_Event (fun x => codec_Event x.1) :=
  FnX.of (coL_ok (es := T_codec_Event) (OKs.mem ⟨E_codec_ip_ok, E_codec_block_ok, E_codec_holder_ok, trivial⟩)) mix (mkLs_ok (l := L_codec_Event) (by kernel_rfl)) (by kernel_rfl) Go.Proofs.Try.func7 rfl (by decide) (by decide) (fun x => by kernel_rfl)
noncomputable def E_codec_Event : Ent := ⟨7, D_codec_Event, fun x => codec_Event x.1, ([], ()), true⟩
theorem E_codec_Event_ok : E_codec_Event.OK Go.Proofs.Try.prog := ⟨ok_codec_Event, by kernel_rfl⟩
def D_terrierlaw19_awake : FD := ⟨[], [], [(0, .leaf .bool)], []⟩
def L_terrierlaw19_awake : List (Nat × StD × Nat × StD) := []
noncomputable def T_terrierlaw19_awake : List Ent := [E_codec_Event, E_codec_ReadState, E_codec_State, E_codec_ReadEvent]
theorem ok_terrierlaw19_awake : FnX Go.Proofs.Try.prog 6 D_terrierlaw19_awake (fun x => terrierlaw19_awake) :=
  FnX.of (coL_ok (es := T_terrierlaw19_awake) (OKs.mem ⟨E_codec_Event_ok, E_codec_ReadState_ok, E_codec_State_ok, E_codec_ReadEvent_ok, trivial⟩)) mix (mkLs_ok (l := L_terrierlaw19_awake) (by kernel_rfl)) (by kernel_rfl) Go.Proofs.Try.func6 rfl (by decide) (by decide) (fun x => by kernel_rfl)
noncomputable def E_terrierlaw19_awake : Ent := ⟨6, D_terrierlaw19_awake, fun x => terrierlaw19_awake, (false, ()), false⟩
theorem E_terrierlaw19_awake_ok : E_terrierlaw19_awake.OK Go.Proofs.Try.prog := ⟨ok_terrierlaw19_awake, by kernel_rfl⟩
def D_terrierlaw11_Station : FD := ⟨[(0, .leaf (.int .u8))], [], [(0, .grp sMc)], []⟩
def L_terrierlaw11_Station : List (Nat × StD × Nat × StD) := []
noncomputable def T_terrierlaw11_Station : List Ent := []
theorem ok_terrierlaw11_Station : FnX Go.Proofs.Try.prog 68 D_terrierlaw11_Station (fun x => terrierlaw11_Station x.1) :=
  FnX.of (coL_ok (es := T_terrierlaw11_Station) (OKs.mem trivial)) mix (mkLs_ok (l := L_terrierlaw11_Station) (by kernel_rfl)) (by kernel_rfl) Go.Proofs.Try.func68 rfl (by decide) (by decide) (fun x => by kernel_rfl)
noncomputable def E_terrierlaw11_Station : Ent := ⟨68, D_terrierlaw11_Station, fun x => terrierlaw11_Station x.1, (((0 : Int), ((0 : Int), ((0 : Int), ((0 : Int), ((0 : Int), (0 : Int)))))), ()), false⟩
theorem E_terrierlaw11_Station_ok : E_terrierlaw11_Station.OK Go.Proofs.Try.prog := ⟨ok_terrierlaw11_Station, by kernel_rfl⟩
def D_terrierlaw01_Block : FD := ⟨[(0, .leaf (.int .u32)), (1, .leaf (.int .u8))], [], [(0, .grp sBk)], []⟩
def L_terrierlaw01_Block : List (Nat × StD × Nat × StD) := []
noncomputable def T_terrierlaw01_Block : List Ent := []
theorem ok_terrierlaw01_Block : FnX Go.Proofs.Try.prog 69 D_terrierlaw01_Block (fun x => terrierlaw01_Block x.1 x.2.1) :=
  FnX.of (coL_ok (es := T_terrierlaw01_Block) (OKs.mem trivial)) mix (mkLs_ok (l := L_terrierlaw01_Block) (by kernel_rfl)) (by kernel_rfl) Go.Proofs.Try.func69 rfl (by decide) (by decide) (fun x => by kernel_rfl)
noncomputable def E_terrierlaw01_Block : Ent := ⟨69, D_terrierlaw01_Block, fun x => terrierlaw01_Block x.1 x.2.1, (((0 : Int), (0 : Int)), ()), false⟩
theorem E_terrierlaw01_Block_ok : E_terrierlaw01_Block.OK Go.Proofs.Try.prog := ⟨ok_terrierlaw01_Block, by kernel_rfl⟩
def D_terrierlaw18_Act_Event : FD := ⟨[(0, .grp sMc)], [], [(0, .grp sEv)], []⟩
def L_terrierlaw18_Act_Event : List (Nat × StD × Nat × StD) := []
noncomputable def T_terrierlaw18_Act_Event : List Ent := [E_terrierlaw01_Block, E_terrierlaw11_Station]
theorem ok_terrierlaw18_Act_Event : FnX Go.Proofs.Try.prog 31 D_terrierlaw18_Act_Event (fun x => terrierlaw18_Act_Event x.1) :=
  FnX.of (coL_ok (es := T_terrierlaw18_Act_Event) (OKs.mem ⟨E_terrierlaw01_Block_ok, E_terrierlaw11_Station_ok, trivial⟩)) mix (mkLs_ok (l := L_terrierlaw18_Act_Event) (by kernel_rfl)) (by kernel_rfl) Go.Proofs.Try.func31 rfl (by decide) (by decide) (fun x => by kernel_rfl)
noncomputable def E_terrierlaw18_Act_Event : Ent := ⟨31, D_terrierlaw18_Act_Event, fun x => terrierlaw18_Act_Event x.1, (((0 : Int), (((0 : Int), ([], ((0 : Int), ((0 : Int), ((0 : Int), ((0 : Int), ((0 : Int), (0 : Int)))))))), (((0 : Int), (0 : Int)), ((0 : Int), (((0 : Int), ((0 : Int), ((0 : Int), ((0 : Int), ((0 : Int), (0 : Int)))))), (0 : Int)))))), ()), false⟩
theorem E_terrierlaw18_Act_Event_ok : E_terrierlaw18_Act_Event.OK Go.Proofs.Try.prog := ⟨ok_terrierlaw18_Act_Event, by kernel_rfl⟩
def D_terrierlaw18_Events : FD := ⟨[(0, .leaf (.sl sMc))], [], [(0, .leaf (.own 16 sEv))], [(16, .rows sEv)]⟩
def L_terrierlaw18_Events : List (Nat × StD × Nat × StD) := [(3, ⟨[(3, .leaf (.own 16 sEv)), (12, .leaf (.sl sMc)), (13, .leaf (.int .i64)), (14, .leaf (.int .i64))], [(16, .rows sEv)], 17, 43⟩, 0, ⟨[(3, .leaf (.own 16 sEv))], [(16, .rows sEv)], 17, 43⟩), (8, ⟨[(3, .leaf (.own 16 sEv)), (5, .leaf (.ptr 17 0)), (6, .leaf (.ptr 18 0)), (7, .leaf (.int .i64)), (12, .leaf (.sl sMc)), (13, .leaf (.int .i64)), (14, .leaf (.int .i64))], [(16, .rows sEv), (17, .cells [(.int .u8), (.int .u8), (.int .u8), (.int .u8), (.int .u8), (.int .u8)]), (18, .cells [(.int .i64), (.int .u32), .str, (.int .u8), (.int .u8), (.int .u8), (.int .u8), (.int .u8), (.int .u8), (.int .u32), (.int .i64), (.int .i64), (.int .u8), (.int .u8), (.int .u8), (.int .u8), (.int .u8), (.int .u8), (.int .i64)])], 19, 43⟩, 2, ⟨[(3, .leaf (.own 16 sEv)), (12, .leaf (.sl sMc)), (13, .leaf (.int .i64)), (14, .leaf (.int .i64))], [(16, .rows sEv)], 17, 43⟩)]
noncomputable def T_terrierlaw18_Events : List Ent := [E_terrierlaw18_Act_Event]
theorem ok_terrierlaw18_Events : FnX Go.Proofs.Try.prog 12 D_terrierlaw18_Events (fun x => terrierlaw18_Events x.1) :=
  FnX.of (coL_ok (es := T_terrierlaw18_Events) (OKs.mem ⟨E_terrierlaw18_Act_Event_ok, trivial⟩)) mix (mkLs_ok (l := L_terrierlaw18_Events) (by kernel_rfl)) (by kernel_rfl) Go.Proofs.Try.func12 rfl (by decide) (by decide) (fun x => by kernel_rfl)
noncomputable def E_terrierlaw18_Events : Ent := ⟨12, D_terrierlaw18_Events, fun x => terrierlaw18_Events x.1, ([], ()), false⟩
theorem E_terrierlaw18_Events_ok : E_terrierlaw18_Events.OK Go.Proofs.Try.prog := ⟨ok_terrierlaw18_Events, by kernel_rfl⟩
def D_terrierlaw19_put : FD := ⟨[(0, .leaf (.int .i64)), (1, .leaf (.int .i64))], [], [(0, .leaf .str)], []⟩
def L_terrierlaw19_put : List (Nat × StD × Nat × StD) := [(3, ⟨[(0, .leaf (.int .i64)), (5, .leaf .str), (6, .leaf (.int .i64))], [], 16, 23⟩, 0, ⟨[(5, .leaf .str)], [], 16, 23⟩)]
noncomputable def T_terrierlaw19_put : List Ent := []
theorem ok_terrierlaw19_put : FnX Go.Proofs.Try.prog 27 D_terrierlaw19_put (fun x => terrierlaw19_put x.1 x.2.1) :=
  FnX.of (coL_ok (es := T_terrierlaw19_put) (OKs.mem trivial)) mix (mkLs_ok (l := L_terrierlaw19_put) (by kernel_rfl)) (by kernel_rfl) Go.Proofs.Try.func27 rfl (by decide) (by decide) (fun x => by kernel_rfl)
noncomputable def E_terrierlaw19_put : Ent := ⟨27, D_terrierlaw19_put, fun x => terrierlaw19_put x.1 x.2.1, ([], ()), false⟩
theorem E_terrierlaw19_put_ok : E_terrierlaw19_put.OK Go.Proofs.Try.prog := ⟨ok_terrierlaw19_put, by kernel_rfl⟩
def D_terrierlaw19_holder : FD := ⟨[(0, .grp sHd)], [], [(0, .leaf .str)], []⟩
def L_terrierlaw19_holder : List (Nat × StD × Nat × StD) := []
noncomputable def T_terrierlaw19_holder : List Ent := [E_terrierlaw19_put]
theorem ok_terrierlaw19_holder : FnX Go.Proofs.Try.prog 28 D_terrierlaw19_holder (fun x => terrierlaw19_holder x.1) :=
  FnX.of (coL_ok (es := T_terrierlaw19_holder) (OKs.mem ⟨E_terrierlaw19_put_ok, trivial⟩)) mix (mkLs_ok (l := L_terrierlaw19_holder) (by kernel_rfl)) (by kernel_rfl) Go.Proofs.Try.func28 rfl (by decide) (by decide) (fun x => by kernel_rfl)
noncomputable def E_terrierlaw19_holder : Ent := ⟨28, D_terrierlaw19_holder, fun x => terrierlaw19_holder x.1, ([], ()), false⟩
theorem E_terrierlaw19_holder_ok : E_terrierlaw19_holder.OK Go.Proofs.Try.prog := ⟨ok_terrierlaw19_holder, by kernel_rfl⟩
def D_terrierlaw19_event : FD := ⟨[(0, .grp sEv)], [], [(0, .leaf .str)], []⟩
def L_terrierlaw19_event : List (Nat × StD × Nat × StD) := []
noncomputable def T_terrierlaw19_event : List Ent := [E_terrierlaw19_holder, E_terrierlaw19_put]
theorem ok_terrierlaw19_event : FnX Go.Proofs.Try.prog 9 D_terrierlaw19_event (fun x => terrierlaw19_event x.1) :=
  FnX.of (coL_ok (es := T_terrierlaw19_event) (OKs.mem ⟨E_terrierlaw19_holder_ok, E_terrierlaw19_put_ok, trivial⟩)) mix (mkLs_ok (l := L_terrierlaw19_event) (by kernel_rfl)) (by kernel_rfl) Go.Proofs.Try.func9 rfl (by decide) (by decide) (fun x => by kernel_rfl)
noncomputable def E_terrierlaw19_event : Ent := ⟨9, D_terrierlaw19_event, fun x => terrierlaw19_event x.1, ([], ()), false⟩
theorem E_terrierlaw19_event_ok : E_terrierlaw19_event.OK Go.Proofs.Try.prog := ⟨ok_terrierlaw19_event, by kernel_rfl⟩
def D_terrierlaw19_may : FD := ⟨[(0, .grp sEv)], [], [(0, .leaf .bool)], []⟩
def L_terrierlaw19_may : List (Nat × StD × Nat × StD) := []
noncomputable def T_terrierlaw19_may : List Ent := [E_mac_Group, E_held_May]
theorem ok_terrierlaw19_may : FnX Go.Proofs.Try.prog 10 D_terrierlaw19_may (fun x => terrierlaw19_may x.1) :=
  FnX.of (coL_ok (es := T_terrierlaw19_may) (OKs.mem ⟨E_mac_Group_ok, E_held_May_ok, trivial⟩)) mix (mkLs_ok (l := L_terrierlaw19_may) (by kernel_rfl)) (by kernel_rfl) Go.Proofs.Try.func10 rfl (by decide) (by decide) (fun x => by kernel_rfl)
noncomputable def E_terrierlaw19_may : Ent := ⟨10, D_terrierlaw19_may, fun x => terrierlaw19_may x.1, (false, ()), false⟩
theorem E_terrierlaw19_may_ok : E_terrierlaw19_may.OK Go.Proofs.Try.prog := ⟨ok_terrierlaw19_may, by kernel_rfl⟩
def D_terrierlaw19_CodecRead : FD := ⟨[(0, .leaf (.sl (.int .u8))), (1, .leaf (.sl sMc)), (2, .leaf (.int .u8)), (3, .leaf (.int .u8))], [], [(0, .leaf .bool)], []⟩
def L_terrierlaw19_CodecRead : List (Nat × StD × Nat × StD) := [(5, ⟨[(2, .leaf (.int .u8)), (3, .leaf (.int .u8)), (9, .leaf (.own 16 (.sl (.int .u8)))), (23, .leaf (.own 17 sEv)), (24, .leaf (.int .i64)), (25, .leaf (.int .i64))], [(16, .rows (.sl (.int .u8))), (17, .rows sEv)], 18, 98⟩, 0, ⟨[(9, .leaf (.own 16 (.sl (.int .u8))))], [(16, .rows (.sl (.int .u8)))], 17, 98⟩), (15, ⟨[(64, .leaf (.own 16 (.sl (.int .u8)))), (65, .leaf (.int .i64)), (66, .leaf (.int .i64))], [(16, .rows (.sl (.int .u8)))], 17, 98⟩, 2, ⟨[], [], 16, 98⟩)]
noncomputable def T_terrierlaw19_CodecRead : List Ent := [E_terrierlaw19_may, E_terrierlaw19_event, E_codec_ReadEvent, E_codec_Event, E_terrierlaw18_Events, E_terrierlaw19_awake]
theorem ok_terrierlaw19_CodecRead : FnX Go.Proofs.Try.prog 4 D_terrierlaw19_CodecRead (fun x => terrierlaw19_CodecRead x.1 x.2.1 x.2.2.1 x.2.2.2.1) :=
  FnX.of (coL_ok (es := T_terrierlaw19_CodecRead) (OKs.mem ⟨E_terrierlaw19_may_ok, E_terrierlaw19_event_ok, E_codec_ReadEvent_ok, E_codec_Event_ok, E_terrierlaw18_Events_ok, E_terrierlaw19_awake_ok, trivial⟩)) mix (mkLs_ok (l := L_terrierlaw19_CodecRead) (by kernel_rfl)) (by kernel_rfl) Go.Proofs.Try.func4 rfl (by decide) (by decide) (fun x => by kernel_rfl)
end Go.Tr
