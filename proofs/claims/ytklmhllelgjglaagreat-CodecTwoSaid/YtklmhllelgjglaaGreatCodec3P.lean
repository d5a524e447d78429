/- The Go functions come to these Lean functions: printed by a program of this session's. Conditions: none. -/
import Derived.Test.YtklmhllelgjglaaGreatBE
import Derived.Test.YtklmhllelgjglaaGreatCodec3D
import Derived.Test.YtklmhllelgjglaaGreatCodec3X
import Derived.Test.YtklmhllelgjglaaGreatCodec3G
import Derived.KernelRfl
import Derived.Test.YtklmhllelgjglaaGreatProg
namespace Go.Tr
open Go
set_option linter.unusedVariables false
set_option maxRecDepth 100000
theorem mix : Go.Proofs.Tryz.prog.follows .mixedOrders = true := by rfl
def D_codec_reader_take : FD := ⟨[(0, .leaf (.ptr 0 0)), (1, .leaf (.int .i64))], [(0, .grp (.pair (.sl (.int .u8)) .bool))], [(0, .leaf (.sl (.int .u8)))], [(0, .grp (.pair (.sl (.int .u8)) .bool))]⟩
def L_codec_reader_take : List (Nat × StD × Nat × StD) := []
noncomputable def T_codec_reader_take : List Ent := []
theorem ok_codec_reader_take : FnX Go.Proofs.Tryz.prog 77 D_codec_reader_take (fun x => codec_reader_take x.1 x.2.1) :=
  FnX.of (coL_ok (es := T_codec_reader_take) (OKs.mem trivial)) mix (mkLs_ok (l := L_codec_reader_take) (by kernel_rfl)) (by kernel_rfl) Go.Proofs.Tryz.func77 rfl (by decide) (by decide) (fun x => by kernel_rfl)
noncomputable def E_codec_reader_take : Ent := ⟨77, D_codec_reader_take, fun x => codec_reader_take x.1 x.2.1, ([], (([], false), ())), true⟩
theorem E_codec_reader_take_ok : E_codec_reader_take.OK Go.Proofs.Tryz.prog := ⟨ok_codec_reader_take, by kernel_rfl⟩
def D_codec_reader_number : FD := ⟨[(0, .leaf (.ptr 0 0)), (1, .leaf (.int .i64))], [(0, .grp (.pair (.sl (.int .u8)) .bool))], [(0, .leaf (.int .i64))], [(0, .grp (.pair (.sl (.int .u8)) .bool))]⟩
def L_codec_reader_number : List (Nat × StD × Nat × StD) := [(3, ⟨[(5, .leaf (.int .i64)), (10, .leaf (.sl (.int .u8))), (11, .leaf (.int .i64)), (12, .leaf (.int .i64))], [(0, .cells [(.sl (.int .u8)), .bool])], 16, 23⟩, 0, ⟨[(5, .leaf (.int .i64))], [(0, .cells [(.sl (.int .u8)), .bool])], 16, 23⟩)]
noncomputable def T_codec_reader_number : List Ent := [E_codec_reader_take]
theorem ok_codec_reader_number : FnX Go.Proofs.Tryz.prog 76 D_codec_reader_number (fun x => codec_reader_number x.1 x.2.1) :=
  FnX.of (coL_ok (es := T_codec_reader_number) (OKs.mem ⟨E_codec_reader_take_ok, trivial⟩)) mix (mkLs_ok (l := L_codec_reader_number) (by kernel_rfl)) (by kernel_rfl) Go.Proofs.Tryz.func76 rfl (by decide) (by decide) (fun x => by kernel_rfl)
noncomputable def E_codec_reader_number : Ent := ⟨76, D_codec_reader_number, fun x => codec_reader_number x.1 x.2.1, ((0 : Int), (([], false), ())), true⟩
theorem E_codec_reader_number_ok : E_codec_reader_number.OK Go.Proofs.Tryz.prog := ⟨ok_codec_reader_number, by kernel_rfl⟩
def D_codec_reader_one : FD := ⟨[(0, .leaf (.ptr 0 0))], [(0, .grp (.pair (.sl (.int .u8)) .bool))], [(0, .leaf (.int .i64))], [(0, .grp (.pair (.sl (.int .u8)) .bool))]⟩
def L_codec_reader_one : List (Nat × StD × Nat × StD) := []
noncomputable def T_codec_reader_one : List Ent := [E_codec_reader_number]
theorem ok_codec_reader_one : FnX Go.Proofs.Tryz.prog 49 D_codec_reader_one (fun x => codec_reader_one x.1) :=
  FnX.of (coL_ok (es := T_codec_reader_one) (OKs.mem ⟨E_codec_reader_number_ok, trivial⟩)) mix (mkLs_ok (l := L_codec_reader_one) (by kernel_rfl)) (by kernel_rfl) Go.Proofs.Tryz.func49 rfl (by decide) (by decide) (fun x => by kernel_rfl)
noncomputable def E_codec_reader_one : Ent := ⟨49, D_codec_reader_one, fun x => codec_reader_one x.1, ((0 : Int), (([], false), ())), true⟩
theorem E_codec_reader_one_ok : E_codec_reader_one.OK Go.Proofs.Tryz.prog := ⟨ok_codec_reader_one, by kernel_rfl⟩
def D_codec_reader_ip : FD := ⟨[(0, .leaf (.ptr 0 0))], [(0, .grp (.pair (.sl (.int .u8)) .bool))], [(0, .leaf (.int .u32))], [(0, .grp (.pair (.sl (.int .u8)) .bool))]⟩
def L_codec_reader_ip : List (Nat × StD × Nat × StD) := []
noncomputable def T_codec_reader_ip : List Ent := [E_codec_reader_number]
theorem ok_codec_reader_ip : FnX Go.Proofs.Tryz.prog 44 D_codec_reader_ip (fun x => codec_reader_ip x.1) :=
  FnX.of (coL_ok (es := T_codec_reader_ip) (OKs.mem ⟨E_codec_reader_number_ok, trivial⟩)) mix (mkLs_ok (l := L_codec_reader_ip) (by kernel_rfl)) (by kernel_rfl) Go.Proofs.Tryz.func44 rfl (by decide) (by decide) (fun x => by kernel_rfl)
noncomputable def E_codec_reader_ip : Ent := ⟨44, D_codec_reader_ip, fun x => codec_reader_ip x.1, ((0 : Int), (([], false), ())), true⟩
theorem E_codec_reader_ip_ok : E_codec_reader_ip.OK Go.Proofs.Tryz.prog := ⟨ok_codec_reader_ip, by kernel_rfl⟩
def D_codec_reader_mac : FD := ⟨[(0, .leaf (.ptr 0 0))], [(0, .grp (.pair (.sl (.int .u8)) .bool))], [(0, .grp sMc)], [(0, .grp (.pair (.sl (.int .u8)) .bool))]⟩
def L_codec_reader_mac : List (Nat × StD × Nat × StD) := []
noncomputable def T_codec_reader_mac : List Ent := [E_codec_reader_take]
theorem ok_codec_reader_mac : FnX Go.Proofs.Tryz.prog 61 D_codec_reader_mac (fun x => codec_reader_mac x.1) :=
  FnX.of (coL_ok (es := T_codec_reader_mac) (OKs.mem ⟨E_codec_reader_take_ok, trivial⟩)) mix (mkLs_ok (l := L_codec_reader_mac) (by kernel_rfl)) (by kernel_rfl) Go.Proofs.Tryz.func61 rfl (by decide) (by decide) (fun x => by kernel_rfl)
noncomputable def E_codec_reader_mac : Ent := ⟨61, D_codec_reader_mac, fun x => codec_reader_mac x.1, (((0 : Int), ((0 : Int), ((0 : Int), ((0 : Int), ((0 : Int), (0 : Int)))))), (([], false), ())), true⟩
theorem E_codec_reader_mac_ok : E_codec_reader_mac.OK Go.Proofs.Tryz.prog := ⟨ok_codec_reader_mac, by kernel_rfl⟩
def D_codec_reader_holder : FD := ⟨[(0, .leaf (.ptr 0 0))], [(0, .grp (.pair (.sl (.int .u8)) .bool))], [(0, .grp sHd)], [(0, .grp (.pair (.sl (.int .u8)) .bool))]⟩
def L_codec_reader_holder : List (Nat × StD × Nat × StD) := []
noncomputable def T_codec_reader_holder : List Ent := [E_codec_reader_mac, E_codec_reader_take, E_codec_reader_one, E_codec_reader_ip]
theorem ok_codec_reader_holder : FnX Go.Proofs.Tryz.prog 38 D_codec_reader_holder (fun x => codec_reader_holder x.1) :=
  FnX.of (coL_ok (es := T_codec_reader_holder) (OKs.mem ⟨E_codec_reader_mac_ok, E_codec_reader_take_ok, E_codec_reader_one_ok, E_codec_reader_ip_ok, trivial⟩)) mix (mkLs_ok (l := L_codec_reader_holder) (by kernel_rfl)) (by kernel_rfl) Go.Proofs.Tryz.func38 rfl (by decide) (by decide) (fun x => by kernel_rfl)
noncomputable def E_codec_reader_holder : Ent := ⟨38, D_codec_reader_holder, fun x => codec_reader_holder x.1, (((0 : Int), ([], ((0 : Int), ((0 : Int), ((0 : Int), ((0 : Int), ((0 : Int), (0 : Int)))))))), (([], false), ())), true⟩
theorem E_codec_reader_holder_ok : E_codec_reader_holder.OK Go.Proofs.Tryz.prog := ⟨ok_codec_reader_holder, by kernel_rfl⟩
def D_held_May : FD := ⟨[(0, .leaf .str)], [], [(0, .leaf .bool)], []⟩
def L_held_May : List (Nat × StD × Nat × StD) := [(2, ⟨[(0, .leaf .str), (6, .leaf (.int .i64)), (7, .leaf (.int .i64))], [], 16, 35⟩, 0, ⟨[(0, .leaf .str)], [], 16, 35⟩)]
noncomputable def T_held_May : List Ent := []
theorem ok_held_May : FnX Go.Proofs.Tryz.prog 78 D_held_May (fun x => held_May x.1) :=
  FnX.of (coL_ok (es := T_held_May) (OKs.mem trivial)) mix (mkLs_ok (l := L_held_May) (by kernel_rfl)) (by kernel_rfl) Go.Proofs.Tryz.func78 rfl (by decide) (by decide) (fun x => by kernel_rfl)
noncomputable def E_held_May : Ent := ⟨78, D_held_May, fun x => held_May x.1, (false, ()), false⟩
theorem E_held_May_ok : E_held_May.OK Go.Proofs.Tryz.prog := ⟨ok_held_May, by kernel_rfl⟩
def D_mac_Group : FD := ⟨[(0, .grp sMc)], [], [(0, .leaf .bool)], []⟩
def L_mac_Group : List (Nat × StD × Nat × StD) := []
noncomputable def T_mac_Group : List Ent := []
theorem ok_mac_Group : FnX Go.Proofs.Tryz.prog 86 D_mac_Group (fun x => mac_Group x.1) :=
  FnX.of (coL_ok (es := T_mac_Group) (OKs.mem trivial)) mix (mkLs_ok (l := L_mac_Group) (by kernel_rfl)) (by kernel_rfl) Go.Proofs.Tryz.func86 rfl (by decide) (by decide) (fun x => by kernel_rfl)
noncomputable def E_mac_Group : Ent := ⟨86, D_mac_Group, fun x => mac_Group x.1, (false, ()), false⟩
theorem E_mac_Group_ok : E_mac_Group.OK Go.Proofs.Tryz.prog := ⟨ok_mac_Group, by kernel_rfl⟩
def D_codec_fits : FD := ⟨[(0, .grp sEv)], [], [(0, .leaf .bool)], []⟩
def L_codec_fits : List (Nat × StD × Nat × StD) := []
noncomputable def T_codec_fits : List Ent := [E_mac_Group, E_held_May]
theorem ok_codec_fits : FnX Go.Proofs.Tryz.prog 62 D_codec_fits (fun x => codec_fits x.1) :=
  FnX.of (coL_ok (es := T_codec_fits) (OKs.mem ⟨E_mac_Group_ok, E_held_May_ok, trivial⟩)) mix (mkLs_ok (l := L_codec_fits) (by kernel_rfl)) (by kernel_rfl) Go.Proofs.Tryz.func62 rfl (by decide) (by decide) (fun x => by kernel_rfl)
noncomputable def E_codec_fits : Ent := ⟨62, D_codec_fits, fun x => codec_fits x.1, (false, ()), false⟩
theorem E_codec_fits_ok : E_codec_fits.OK Go.Proofs.Tryz.prog := ⟨ok_codec_fits, by kernel_rfl⟩
def D_codec_reader_block : FD := ⟨[(0, .leaf (.ptr 0 0))], [(0, .grp (.pair (.sl (.int .u8)) .bool))], [(0, .grp sBk)], [(0, .grp (.pair (.sl (.int .u8)) .bool))]⟩
def L_codec_reader_block : List (Nat × StD × Nat × StD) := []
noncomputable def T_codec_reader_block : List Ent := [E_codec_reader_one, E_codec_reader_ip]
theorem ok_codec_reader_block : FnX Go.Proofs.Tryz.prog 41 D_codec_reader_block (fun x => codec_reader_block x.1) :=
  FnX.of (coL_ok (es := T_codec_reader_block) (OKs.mem ⟨E_codec_reader_one_ok, E_codec_reader_ip_ok, trivial⟩)) mix (mkLs_ok (l := L_codec_reader_block) (by kernel_rfl)) (by kernel_rfl) Go.Proofs.Tryz.func41 rfl (by decide) (by decide) (fun x => by kernel_rfl)
noncomputable def E_codec_reader_block : Ent := ⟨41, D_codec_reader_block, fun x => codec_reader_block x.1, (((0 : Int), (0 : Int)), (([], false), ())), true⟩
theorem E_codec_reader_block_ok : E_codec_reader_block.OK Go.Proofs.Tryz.prog := ⟨ok_codec_reader_block, by kernel_rfl⟩
def D_codec_ReadEvent : FD := ⟨[(0, .leaf (.sl (.int .u8)))], [], [(0, .grp sEv), (1, .leaf .bool)], []⟩
def L_codec_ReadEvent : List (Nat × StD × Nat × StD) := []
noncomputable def T_codec_ReadEvent : List Ent := [E_codec_reader_mac, E_codec_reader_ip, E_codec_reader_block, E_codec_fits, E_codec_reader_holder, E_codec_reader_one]
theorem ok_codec_ReadEvent : FnX Go.Proofs.Tryz.prog 15 D_codec_ReadEvent (fun x => codec_ReadEvent x.1) :=
  FnX.of (coL_ok (es := T_codec_ReadEvent) (OKs.mem ⟨E_codec_reader_mac_ok, E_codec_reader_ip_ok, E_codec_reader_block_ok, E_codec_fits_ok, E_codec_reader_holder_ok, E_codec_reader_one_ok, trivial⟩)) mix (mkLs_ok (l := L_codec_ReadEvent) (by kernel_rfl)) (by kernel_rfl) Go.Proofs.Tryz.func15 rfl (by decide) (by decide) (fun x => by kernel_rfl)
noncomputable def E_codec_ReadEvent : Ent := ⟨15, D_codec_ReadEvent, fun x => codec_ReadEvent x.1, (((0 : Int), (((0 : Int), ([], ((0 : Int), ((0 : Int), ((0 : Int), ((0 : Int), ((0 : Int), (0 : Int)))))))), (((0 : Int), (0 : Int)), ((0 : Int), (((0 : Int), ((0 : Int), ((0 : Int), ((0 : Int), ((0 : Int), (0 : Int)))))), (0 : Int)))))), (false, ())), false⟩
theorem E_codec_ReadEvent_ok : E_codec_ReadEvent.OK Go.Proofs.Tryz.prog := ⟨ok_codec_ReadEvent, by kernel_rfl⟩
def D_codec_lay : FD := ⟨[(0, .leaf (.own 0 (.int .u8))), (1, .leaf (.int .i64)), (2, .leaf (.int .i64))], [(0, .rows (.int .u8))], [(0, .leaf (.own 16 (.int .u8)))], [(16, .rows (.int .u8))]⟩
def L_codec_lay : List (Nat × StD × Nat × StD) := [(2, ⟨[(0, .leaf (.own 16 (.int .u8))), (1, .leaf (.int .i64)), (7, .leaf (.int .i64))], [(16, .rows (.int .u8))], 17, 23⟩, 0, ⟨[(0, .leaf (.own 16 (.int .u8)))], [(16, .rows (.int .u8))], 17, 23⟩)]
noncomputable def T_codec_lay : List Ent := []
theorem ok_codec_lay : FnX Go.Proofs.Tryz.prog 75 D_codec_lay (fun x => codec_lay x.1 x.2.1 x.2.2.1) :=
  FnX.of (coL_ok (es := T_codec_lay) (OKs.mem trivial)) mix (mkLs_ok (l := L_codec_lay) (by kernel_rfl)) (by kernel_rfl) Go.Proofs.Tryz.func75 rfl (by decide) (by decide) (fun x => by kernel_rfl)
noncomputable def E_codec_lay : Ent := ⟨75, D_codec_lay, fun x => codec_lay x.1 x.2.1 x.2.2.1, ([], ()), false⟩
theorem E_codec_lay_ok : E_codec_lay.OK Go.Proofs.Tryz.prog := ⟨ok_codec_lay, by kernel_rfl⟩
def D_codec_num : FD := ⟨[(0, .leaf (.own 0 (.int .u8))), (1, .leaf (.int .i64))], [(0, .rows (.int .u8))], [(0, .leaf (.own 16 (.int .u8)))], [(16, .rows (.int .u8))]⟩
def L_codec_num : List (Nat × StD × Nat × StD) := []
noncomputable def T_codec_num : List Ent := [E_codec_lay]
theorem ok_codec_num : FnX Go.Proofs.Tryz.prog 20 D_codec_num (fun x => codec_num x.1 x.2.1) :=
  FnX.of (coL_ok (es := T_codec_num) (OKs.mem ⟨E_codec_lay_ok, trivial⟩)) mix (mkLs_ok (l := L_codec_num) (by kernel_rfl)) (by kernel_rfl) Go.Proofs.Tryz.func20 rfl (by decide) (by decide) (fun x => by kernel_rfl)
noncomputable def E_codec_num : Ent := ⟨20, D_codec_num, fun x => codec_num x.1 x.2.1, ([], ()), false⟩
theorem E_codec_num_ok : E_codec_num.OK Go.Proofs.Tryz.prog := ⟨ok_codec_num, by kernel_rfl⟩
def D_codec_small : FD := ⟨[(0, .leaf (.own 0 (.int .u8))), (1, .leaf (.int .i64))], [(0, .rows (.int .u8))], [(0, .leaf (.own 16 (.int .u8)))], [(16, .rows (.int .u8))]⟩
def L_codec_small : List (Nat × StD × Nat × StD) := []
noncomputable def T_codec_small : List Ent := [E_codec_lay]
theorem ok_codec_small : FnX Go.Proofs.Tryz.prog 19 D_codec_small (fun x => codec_small x.1 x.2.1) :=
  FnX.of (coL_ok (es := T_codec_small) (OKs.mem ⟨E_codec_lay_ok, trivial⟩)) mix (mkLs_ok (l := L_codec_small) (by kernel_rfl)) (by kernel_rfl) Go.Proofs.Tryz.func19 rfl (by decide) (by decide) (fun x => by kernel_rfl)
noncomputable def E_codec_small : Ent := ⟨19, D_codec_small, fun x => codec_small x.1 x.2.1, ([], ()), false⟩
theorem E_codec_small_ok : E_codec_small.OK Go.Proofs.Tryz.prog := ⟨ok_codec_small, by kernel_rfl⟩
def D_codec_ip : FD := ⟨[(0, .leaf (.own 0 (.int .u8))), (1, .leaf (.int .u32))], [(0, .rows (.int .u8))], [(0, .leaf (.own 16 (.int .u8)))], [(16, .rows (.int .u8))]⟩
def L_codec_ip : List (Nat × StD × Nat × StD) := []
noncomputable def T_codec_ip : List Ent := [E_codec_lay]
theorem ok_codec_ip : FnX Go.Proofs.Tryz.prog 29 D_codec_ip (fun x => codec_ip x.1 x.2.1) :=
  FnX.of (coL_ok (es := T_codec_ip) (OKs.mem ⟨E_codec_lay_ok, trivial⟩)) mix (mkLs_ok (l := L_codec_ip) (by kernel_rfl)) (by kernel_rfl) Go.Proofs.Tryz.func29 rfl (by decide) (by decide) (fun x => by kernel_rfl)
noncomputable def E_codec_ip : Ent := ⟨29, D_codec_ip, fun x => codec_ip x.1 x.2.1, ([], ()), false⟩
theorem E_codec_ip_ok : E_codec_ip.OK Go.Proofs.Tryz.prog := ⟨ok_codec_ip, by kernel_rfl⟩
def D_codec_holder : FD := ⟨[(0, .leaf (.own 0 (.int .u8))), (1, .grp sHd)], [(0, .rows (.int .u8))], [(0, .leaf (.own 16 (.int .u8)))], [(16, .rows (.int .u8))]⟩
def L_codec_holder : List (Nat × StD × Nat × StD) := []
noncomputable def T_codec_holder : List Ent := [E_codec_ip]
theorem ok_codec_holder : FnX Go.Proofs.Tryz.prog 22 D_codec_holder (fun x => codec_holder x.1 x.2.1) :=
  FnX.of (coL_ok (es := T_codec_holder) (OKs.mem ⟨E_codec_ip_ok, trivial⟩)) mix (mkLs_ok (l := L_codec_holder) (by kernel_rfl)) (by kernel_rfl) Go.Proofs.Tryz.func22 rfl (by decide) (by decide) (fun x => by kernel_rfl)
noncomputable def E_codec_holder : Ent := ⟨22, D_codec_holder, fun x => codec_holder x.1 x.2.1, ([], ()), false⟩
theorem E_codec_holder_ok : E_codec_holder.OK Go.Proofs.Tryz.prog := ⟨ok_codec_holder, by kernel_rfl⟩
def D_codec_rows : FD := ⟨[(0, .leaf (.own 0 (.int .u8))), (1, .leaf (.sl sHd)), (2, .fn 22 [] [])], [(0, .rows (.int .u8))], [(0, .leaf (.own 16 (.int .u8)))], [(16, .rows (.int .u8))]⟩
def L_codec_rows : List (Nat × StD × Nat × StD) := [(3, ⟨[(0, .leaf (.own 16 (.int .u8))), (2, .fn 22 [] []), (13, .leaf (.sl sHd)), (14, .leaf (.int .i64)), (15, .leaf (.int .i64))], [(16, .rows (.int .u8))], 17, 25⟩, 0, ⟨[(0, .leaf (.own 16 (.int .u8)))], [(16, .rows (.int .u8))], 17, 25⟩)]
noncomputable def T_codec_rows : List Ent := [E_codec_holder, E_codec_small]
theorem ok_codec_rows : FnX Go.Proofs.Tryz.prog 21 D_codec_rows (fun x => codec_rows x.1 x.2.1) :=
  FnX.of (coL_ok (es := T_codec_rows) (OKs.mem ⟨E_codec_holder_ok, E_codec_small_ok, trivial⟩)) mix (mkLs_ok (l := L_codec_rows) (by kernel_rfl)) (by kernel_rfl) Go.Proofs.Tryz.func21 rfl (by decide) (by decide) (fun x => by kernel_rfl)
noncomputable def E_codec_rows : Ent := ⟨21, D_codec_rows, fun x => codec_rows x.1 x.2.1, ([], ()), false⟩
theorem E_codec_rows_ok : E_codec_rows.OK Go.Proofs.Tryz.prog := ⟨ok_codec_rows, by kernel_rfl⟩
def D_codec_block : FD := ⟨[(0, .leaf (.own 0 (.int .u8))), (1, .grp sBk)], [(0, .rows (.int .u8))], [(0, .leaf (.own 16 (.int .u8)))], [(16, .rows (.int .u8))]⟩
def L_codec_block : List (Nat × StD × Nat × StD) := []
noncomputable def T_codec_block : List Ent := [E_codec_ip]
theorem ok_codec_block : FnX Go.Proofs.Tryz.prog 25 D_codec_block (fun x => codec_block x.1 x.2.1) :=
  FnX.of (coL_ok (es := T_codec_block) (OKs.mem ⟨E_codec_ip_ok, trivial⟩)) mix (mkLs_ok (l := L_codec_block) (by kernel_rfl)) (by kernel_rfl) Go.Proofs.Tryz.func25 rfl (by decide) (by decide) (fun x => by kernel_rfl)
noncomputable def E_codec_block : Ent := ⟨25, D_codec_block, fun x => codec_block x.1 x.2.1, ([], ()), false⟩
theorem E_codec_block_ok : E_codec_block.OK Go.Proofs.Tryz.prog := ⟨ok_codec_block, by kernel_rfl⟩
def D_codec_State_1 : FD := ⟨[(0, .leaf (.own 0 (.int .u8))), (1, .grp sSw)], [(0, .rows (.int .u8))], [(0, .leaf (.own 16 (.int .u8)))], [(16, .rows (.int .u8))]⟩
def L_codec_State_1 : List (Nat × StD × Nat × StD) := []
noncomputable def T_codec_State_1 : List Ent := [E_codec_small, E_codec_num, E_codec_block]
theorem ok_codec_State_1 : FnX Go.Proofs.Tryz.prog 24 D_codec_State_1 (fun x => codec_State_1 x.1 x.2.1) :=
  FnX.of (coL_ok (es := T_codec_State_1) (OKs.mem ⟨E_codec_small_ok, E_codec_num_ok, E_codec_block_ok, trivial⟩)) mix (mkLs_ok (l := L_codec_State_1) (by kernel_rfl)) (by kernel_rfl) Go.Proofs.Tryz.func24 rfl (by decide) (by decide) (fun x => by kernel_rfl)
noncomputable def E_codec_State_1 : Ent := ⟨24, D_codec_State_1, fun x => codec_State_1 x.1 x.2.1, ([], ()), false⟩
theorem E_codec_State_1_ok : E_codec_State_1.OK Go.Proofs.Tryz.prog := ⟨ok_codec_State_1, by kernel_rfl⟩
def D_codec_rows_v1 : FD := ⟨[(0, .leaf (.own 0 (.int .u8))), (1, .leaf (.sl sSw)), (2, .fn 24 [] [])], [(0, .rows (.int .u8))], [(0, .leaf (.own 16 (.int .u8)))], [(16, .rows (.int .u8))]⟩
def L_codec_rows_v1 : List (Nat × StD × Nat × StD) := [(3, ⟨[(0, .leaf (.own 16 (.int .u8))), (2, .fn 24 [] []), (13, .leaf (.sl sSw)), (14, .leaf (.int .i64)), (15, .leaf (.int .i64))], [(16, .rows (.int .u8))], 17, 25⟩, 0, ⟨[(0, .leaf (.own 16 (.int .u8)))], [(16, .rows (.int .u8))], 17, 25⟩)]
noncomputable def T_codec_rows_v1 : List Ent := [E_codec_State_1, E_codec_small]
theorem ok_codec_rows_v1 : FnX Go.Proofs.Tryz.prog 23 D_codec_rows_v1 (fun x => codec_rows_v1 x.1 x.2.1) :=
  FnX.of (coL_ok (es := T_codec_rows_v1) (OKs.mem ⟨E_codec_State_1_ok, E_codec_small_ok, trivial⟩)) mix (mkLs_ok (l := L_codec_rows_v1) (by kernel_rfl)) (by kernel_rfl) Go.Proofs.Tryz.func23 rfl (by decide) (by decide) (fun x => by kernel_rfl)
noncomputable def E_codec_rows_v1 : Ent := ⟨23, D_codec_rows_v1, fun x => codec_rows_v1 x.1 x.2.1, ([], ()), false⟩
theorem E_codec_rows_v1_ok : E_codec_rows_v1.OK Go.Proofs.Tryz.prog := ⟨ok_codec_rows_v1, by kernel_rfl⟩
def D_codec_sight : FD := ⟨[(0, .leaf (.own 0 (.int .u8))), (1, .grp sSg)], [(0, .rows (.int .u8))], [(0, .leaf (.own 16 (.int .u8)))], [(16, .rows (.int .u8))]⟩
def L_codec_sight : List (Nat × StD × Nat × StD) := []
noncomputable def T_codec_sight : List Ent := [E_codec_num]
theorem ok_codec_sight : FnX Go.Proofs.Tryz.prog 30 D_codec_sight (fun x => codec_sight x.1 x.2.1) :=
  FnX.of (coL_ok (es := T_codec_sight) (OKs.mem ⟨E_codec_num_ok, trivial⟩)) mix (mkLs_ok (l := L_codec_sight) (by kernel_rfl)) (by kernel_rfl) Go.Proofs.Tryz.func30 rfl (by decide) (by decide) (fun x => by kernel_rfl)
noncomputable def E_codec_sight : Ent := ⟨30, D_codec_sight, fun x => codec_sight x.1 x.2.1, ([], ()), false⟩
theorem E_codec_sight_ok : E_codec_sight.OK Go.Proofs.Tryz.prog := ⟨ok_codec_sight, by kernel_rfl⟩
def D_codec_rows_v2 : FD := ⟨[(0, .leaf (.own 0 (.int .u8))), (1, .leaf (.sl sSg)), (2, .fn 30 [] [])], [(0, .rows (.int .u8))], [(0, .leaf (.own 16 (.int .u8)))], [(16, .rows (.int .u8))]⟩
def L_codec_rows_v2 : List (Nat × StD × Nat × StD) := [(3, ⟨[(0, .leaf (.own 16 (.int .u8))), (2, .fn 30 [] []), (13, .leaf (.sl sSg)), (14, .leaf (.int .i64)), (15, .leaf (.int .i64))], [(16, .rows (.int .u8))], 17, 25⟩, 0, ⟨[(0, .leaf (.own 16 (.int .u8)))], [(16, .rows (.int .u8))], 17, 25⟩)]
noncomputable def T_codec_rows_v2 : List Ent := [E_codec_sight, E_codec_small]
theorem ok_codec_rows_v2 : FnX Go.Proofs.Tryz.prog 28 D_codec_rows_v2 (fun x => codec_rows_v2 x.1 x.2.1) :=
  FnX.of (coL_ok (es := T_codec_rows_v2) (OKs.mem ⟨E_codec_sight_ok, E_codec_small_ok, trivial⟩)) mix (mkLs_ok (l := L_codec_rows_v2) (by kernel_rfl)) (by kernel_rfl) Go.Proofs.Tryz.func28 rfl (by decide) (by decide) (fun x => by kernel_rfl)
noncomputable def E_codec_rows_v2 : Ent := ⟨28, D_codec_rows_v2, fun x => codec_rows_v2 x.1 x.2.1, ([], ()), false⟩
theorem E_codec_rows_v2_ok : E_codec_rows_v2.OK Go.Proofs.Tryz.prog := ⟨ok_codec_rows_v2, by kernel_rfl⟩
def D_codec_State_2 : FD := ⟨[(0, .leaf (.own 0 (.int .u8))), (1, .grp sKn)], [(0, .rows (.int .u8))], [(0, .leaf (.own 16 (.int .u8)))], [(16, .rows (.int .u8))]⟩
def L_codec_State_2 : List (Nat × StD × Nat × StD) := []
noncomputable def T_codec_State_2 : List Ent := [E_codec_rows_v2, E_codec_ip]
theorem ok_codec_State_2 : FnX Go.Proofs.Tryz.prog 27 D_codec_State_2 (fun x => codec_State_2 x.1 x.2.1) :=
  FnX.of (coL_ok (es := T_codec_State_2) (OKs.mem ⟨E_codec_rows_v2_ok, E_codec_ip_ok, trivial⟩)) mix (mkLs_ok (l := L_codec_State_2) (by kernel_rfl)) (by kernel_rfl) Go.Proofs.Tryz.func27 rfl (by decide) (by decide) (fun x => by kernel_rfl)
noncomputable def E_codec_State_2 : Ent := ⟨27, D_codec_State_2, fun x => codec_State_2 x.1 x.2.1, ([], ()), false⟩
theorem E_codec_State_2_ok : E_codec_State_2.OK Go.Proofs.Tryz.prog := ⟨ok_codec_State_2, by kernel_rfl⟩
def D_codec_rows_v3 : FD := ⟨[(0, .leaf (.own 0 (.int .u8))), (1, .leaf (.sl sKn)), (2, .fn 27 [] [])], [(0, .rows (.int .u8))], [(0, .leaf (.own 16 (.int .u8)))], [(16, .rows (.int .u8))]⟩
def L_codec_rows_v3 : List (Nat × StD × Nat × StD) := [(3, ⟨[(0, .leaf (.own 16 (.int .u8))), (2, .fn 27 [] []), (13, .leaf (.sl sKn)), (14, .leaf (.int .i64)), (15, .leaf (.int .i64))], [(16, .rows (.int .u8))], 17, 25⟩, 0, ⟨[(0, .leaf (.own 16 (.int .u8)))], [(16, .rows (.int .u8))], 17, 25⟩)]
noncomputable def T_codec_rows_v3 : List Ent := [E_codec_State_2, E_codec_small]
theorem ok_codec_rows_v3 : FnX Go.Proofs.Tryz.prog 26 D_codec_rows_v3 (fun x => codec_rows_v3 x.1 x.2.1) :=
  FnX.of (coL_ok (es := T_codec_rows_v3) (OKs.mem ⟨E_codec_State_2_ok, E_codec_small_ok, trivial⟩)) mix (mkLs_ok (l := L_codec_rows_v3) (by kernel_rfl)) (by kernel_rfl) Go.Proofs.Tryz.func26 rfl (by decide) (by decide) (fun x => by kernel_rfl)
noncomputable def E_codec_rows_v3 : Ent := ⟨26, D_codec_rows_v3, fun x => codec_rows_v3 x.1 x.2.1, ([], ()), false⟩
theorem E_codec_rows_v3_ok : E_codec_rows_v3.OK Go.Proofs.Tryz.prog := ⟨ok_codec_rows_v3, by kernel_rfl⟩
def D_codec_State_3 : FD := ⟨[(0, .leaf (.own 0 (.int .u8))), (1, .grp sPr)], [(0, .rows (.int .u8))], [(0, .leaf (.own 16 (.int .u8)))], [(16, .rows (.int .u8))]⟩
def L_codec_State_3 : List (Nat × StD × Nat × StD) := []
noncomputable def T_codec_State_3 : List Ent := [E_codec_num, E_codec_small, E_codec_ip]
theorem ok_codec_State_3 : FnX Go.Proofs.Tryz.prog 32 D_codec_State_3 (fun x => codec_State_3 x.1 x.2.1) :=
  FnX.of (coL_ok (es := T_codec_State_3) (OKs.mem ⟨E_codec_num_ok, E_codec_small_ok, E_codec_ip_ok, trivial⟩)) mix (mkLs_ok (l := L_codec_State_3) (by kernel_rfl)) (by kernel_rfl) Go.Proofs.Tryz.func32 rfl (by decide) (by decide) (fun x => by kernel_rfl)
noncomputable def E_codec_State_3 : Ent := ⟨32, D_codec_State_3, fun x => codec_State_3 x.1 x.2.1, ([], ()), false⟩
theorem E_codec_State_3_ok : E_codec_State_3.OK Go.Proofs.Tryz.prog := ⟨ok_codec_State_3, by kernel_rfl⟩
def D_codec_rows_v4 : FD := ⟨[(0, .leaf (.own 0 (.int .u8))), (1, .leaf (.sl sPr)), (2, .fn 32 [] [])], [(0, .rows (.int .u8))], [(0, .leaf (.own 16 (.int .u8)))], [(16, .rows (.int .u8))]⟩
def L_codec_rows_v4 : List (Nat × StD × Nat × StD) := [(3, ⟨[(0, .leaf (.own 16 (.int .u8))), (2, .fn 32 [] []), (13, .leaf (.sl sPr)), (14, .leaf (.int .i64)), (15, .leaf (.int .i64))], [(16, .rows (.int .u8))], 17, 25⟩, 0, ⟨[(0, .leaf (.own 16 (.int .u8)))], [(16, .rows (.int .u8))], 17, 25⟩)]
noncomputable def T_codec_rows_v4 : List Ent := [E_codec_State_3, E_codec_small]
theorem ok_codec_rows_v4 : FnX Go.Proofs.Tryz.prog 31 D_codec_rows_v4 (fun x => codec_rows_v4 x.1 x.2.1) :=
  FnX.of (coL_ok (es := T_codec_rows_v4) (OKs.mem ⟨E_codec_State_3_ok, E_codec_small_ok, trivial⟩)) mix (mkLs_ok (l := L_codec_rows_v4) (by kernel_rfl)) (by kernel_rfl) Go.Proofs.Tryz.func31 rfl (by decide) (by decide) (fun x => by kernel_rfl)
noncomputable def E_codec_rows_v4 : Ent := ⟨31, D_codec_rows_v4, fun x => codec_rows_v4 x.1 x.2.1, ([], ()), false⟩
theorem E_codec_rows_v4_ok : E_codec_rows_v4.OK Go.Proofs.Tryz.prog := ⟨ok_codec_rows_v4, by kernel_rfl⟩
def D_codec_State_4 : FD := ⟨[(0, .leaf (.own 0 (.int .u8))), (1, .grp sCa)], [(0, .rows (.int .u8))], [(0, .leaf (.own 16 (.int .u8)))], [(16, .rows (.int .u8))]⟩
def L_codec_State_4 : List (Nat × StD × Nat × StD) := []
noncomputable def T_codec_State_4 : List Ent := [E_codec_num, E_codec_ip]
theorem ok_codec_State_4 : FnX Go.Proofs.Tryz.prog 34 D_codec_State_4 (fun x => codec_State_4 x.1 x.2.1) :=
  FnX.of (coL_ok (es := T_codec_State_4) (OKs.mem ⟨E_codec_num_ok, E_codec_ip_ok, trivial⟩)) mix (mkLs_ok (l := L_codec_State_4) (by kernel_rfl)) (by kernel_rfl) Go.Proofs.Tryz.func34 rfl (by decide) (by decide) (fun x => by kernel_rfl)
noncomputable def E_codec_State_4 : Ent := ⟨34, D_codec_State_4, fun x => codec_State_4 x.1 x.2.1, ([], ()), false⟩
theorem E_codec_State_4_ok : E_codec_State_4.OK Go.Proofs.Tryz.prog := ⟨ok_codec_State_4, by kernel_rfl⟩
def D_codec_rows_v5 : FD := ⟨[(0, .leaf (.own 0 (.int .u8))), (1, .leaf (.sl sCa)), (2, .fn 34 [] [])], [(0, .rows (.int .u8))], [(0, .leaf (.own 16 (.int .u8)))], [(16, .rows (.int .u8))]⟩
def L_codec_rows_v5 : List (Nat × StD × Nat × StD) := [(3, ⟨[(0, .leaf (.own 16 (.int .u8))), (2, .fn 34 [] []), (13, .leaf (.sl sCa)), (14, .leaf (.int .i64)), (15, .leaf (.int .i64))], [(16, .rows (.int .u8))], 17, 25⟩, 0, ⟨[(0, .leaf (.own 16 (.int .u8)))], [(16, .rows (.int .u8))], 17, 25⟩)]
noncomputable def T_codec_rows_v5 : List Ent := [E_codec_State_4, E_codec_small]
theorem ok_codec_rows_v5 : FnX Go.Proofs.Tryz.prog 33 D_codec_rows_v5 (fun x => codec_rows_v5 x.1 x.2.1) :=
  FnX.of (coL_ok (es := T_codec_rows_v5) (OKs.mem ⟨E_codec_State_4_ok, E_codec_small_ok, trivial⟩)) mix (mkLs_ok (l := L_codec_rows_v5) (by kernel_rfl)) (by kernel_rfl) Go.Proofs.Tryz.func33 rfl (by decide) (by decide) (fun x => by kernel_rfl)
noncomputable def E_codec_rows_v5 : Ent := ⟨33, D_codec_rows_v5, fun x => codec_rows_v5 x.1 x.2.1, ([], ()), false⟩
theorem E_codec_rows_v5_ok : E_codec_rows_v5.OK Go.Proofs.Tryz.prog := ⟨ok_codec_rows_v5, by kernel_rfl⟩
def D_codec_State : FD := ⟨[(0, .grp sSt)], [], [(0, .leaf (.sl (.int .u8)))], []⟩
def L_codec_State : List (Nat × StD × Nat × StD) := []
noncomputable def T_codec_State : List Ent := [E_codec_rows_v5, E_codec_rows_v4, E_codec_rows_v3, E_codec_rows_v1, E_codec_rows, E_codec_small, E_codec_num]
theorem ok_codec_State : FnX Go.Proofs.Tryz.prog 9 D_codec_State (fun x => codec_State x.1) :=
  FnX.of (coL_ok (es := T_codec_State) (OKs.mem ⟨E_codec_rows_v5_ok, E_codec_rows_v4_ok, E_codec_rows_v3_ok, E_codec_rows_v1_ok, E_codec_rows_ok, E_codec_small_ok, E_codec_num_ok, trivial⟩)) mix (mkLs_ok (l := L_codec_State) (by kernel_rfl)) (by kernel_rfl) Go.Proofs.Tryz.func9 rfl (by decide) (by decide) (fun x => by kernel_rfl)
noncomputable def E_codec_State : Ent := ⟨9, D_codec_State, fun x => codec_State x.1, ([], ()), true⟩
theorem E_codec_State_ok : E_codec_State.OK Go.Proofs.Tryz.prog := ⟨ok_codec_State, by kernel_rfl⟩
def D_codec_reader_num : FD := ⟨[(0, .leaf (.ptr 0 0))], [(0, .grp (.pair (.sl (.int .u8)) .bool))], [(0, .leaf (.int .i64))], [(0, .grp (.pair (.sl (.int .u8)) .bool))]⟩
def L_codec_reader_num : List (Nat × StD × Nat × StD) := []
noncomputable def T_codec_reader_num : List Ent := [E_codec_reader_number]
theorem ok_codec_reader_num : FnX Go.Proofs.Tryz.prog 35 D_codec_reader_num (fun x => codec_reader_num x.1) :=
  FnX.of (coL_ok (es := T_codec_reader_num) (OKs.mem ⟨E_codec_reader_number_ok, trivial⟩)) mix (mkLs_ok (l := L_codec_reader_num) (by kernel_rfl)) (by kernel_rfl) Go.Proofs.Tryz.func35 rfl (by decide) (by decide) (fun x => by kernel_rfl)
noncomputable def E_codec_reader_num : Ent := ⟨35, D_codec_reader_num, fun x => codec_reader_num x.1, ((0 : Int), (([], false), ())), true⟩
theorem E_codec_reader_num_ok : E_codec_reader_num.OK Go.Proofs.Tryz.prog := ⟨ok_codec_reader_num, by kernel_rfl⟩
def D_codec_reader_small : FD := ⟨[(0, .leaf (.ptr 0 0))], [(0, .grp (.pair (.sl (.int .u8)) .bool))], [(0, .leaf (.int .i64))], [(0, .grp (.pair (.sl (.int .u8)) .bool))]⟩
def L_codec_reader_small : List (Nat × StD × Nat × StD) := []
noncomputable def T_codec_reader_small : List Ent := [E_codec_reader_number]
theorem ok_codec_reader_small : FnX Go.Proofs.Tryz.prog 36 D_codec_reader_small (fun x => codec_reader_small x.1) :=
  FnX.of (coL_ok (es := T_codec_reader_small) (OKs.mem ⟨E_codec_reader_number_ok, trivial⟩)) mix (mkLs_ok (l := L_codec_reader_small) (by kernel_rfl)) (by kernel_rfl) Go.Proofs.Tryz.func36 rfl (by decide) (by decide) (fun x => by kernel_rfl)
noncomputable def E_codec_reader_small : Ent := ⟨36, D_codec_reader_small, fun x => codec_reader_small x.1, ((0 : Int), (([], false), ())), true⟩
theorem E_codec_reader_small_ok : E_codec_reader_small.OK Go.Proofs.Tryz.prog := ⟨ok_codec_reader_small, by kernel_rfl⟩
def D_codec_read : FD := ⟨[(0, .leaf (.ptr 0 0)), (1, .fn 38 [(.ptr 0 0)] [])], [(0, .grp (.pair (.sl (.int .u8)) .bool))], [(0, .leaf (.own 16 sHd))], [(0, .grp (.pair (.sl (.int .u8)) .bool)), (16, .rows sHd)]⟩
def L_codec_read : List (Nat × StD × Nat × StD) := [(3, ⟨[(0, .leaf (.ptr 0 0)), (1, .fn 38 [(.ptr 0 0)] []), (5, .leaf (.own 16 sHd)), (6, .leaf (.int .i64))], [(16, .rows sHd), (0, .grp (.pair (.sl (.int .u8)) .bool))], 17, 26⟩, 0, ⟨[(5, .leaf (.own 16 sHd))], [(0, .cells [(.sl (.int .u8)), .bool]), (16, .rows sHd)], 17, 26⟩)]
noncomputable def T_codec_read : List Ent := [E_codec_reader_holder, E_codec_reader_small]
theorem ok_codec_read : FnX Go.Proofs.Tryz.prog 37 D_codec_read (fun x => codec_read x.1) :=
  FnX.of (coL_ok (es := T_codec_read) (OKs.mem ⟨E_codec_reader_holder_ok, E_codec_reader_small_ok, trivial⟩)) mix (mkLs_ok (l := L_codec_read) (by kernel_rfl)) (by kernel_rfl) Go.Proofs.Tryz.func37 rfl (by decide) (by decide) (fun x => by kernel_rfl)
noncomputable def E_codec_read : Ent := ⟨37, D_codec_read, fun x => codec_read x.1, (([], false), ([], ())), true⟩
theorem E_codec_read_ok : E_codec_read.OK Go.Proofs.Tryz.prog := ⟨ok_codec_read, by kernel_rfl⟩
def D_codec_ReadState_1 : FD := ⟨[(0, .leaf (.ptr 0 0))], [(1, .cells [(.sl (.int .u8)), .bool]), (0, .cells [(.ptr 1 0)])], [(0, .grp sSw)], [(1, .cells [(.sl (.int .u8)), .bool]), (0, .cells [(.ptr 1 0)])]⟩
def L_codec_ReadState_1 : List (Nat × StD × Nat × StD) := []
noncomputable def T_codec_ReadState_1 : List Ent := [E_codec_reader_small, E_codec_reader_num, E_codec_reader_block]
theorem ok_codec_ReadState_1 : FnX Go.Proofs.Tryz.prog 40 D_codec_ReadState_1 (fun x => codec_ReadState_1 x.1 x.2.1) :=
  FnX.of (coL_ok (es := T_codec_ReadState_1) (OKs.mem ⟨E_codec_reader_small_ok, E_codec_reader_num_ok, E_codec_reader_block_ok, trivial⟩)) mix (mkLs_ok (l := L_codec_ReadState_1) (by kernel_rfl)) (by kernel_rfl) Go.Proofs.Tryz.func40 rfl (by decide) (by decide) (fun x => by kernel_rfl)
noncomputable def E_codec_ReadState_1 : Ent := ⟨40, D_codec_ReadState_1, fun x => codec_ReadState_1 x.1 x.2.1, ((((0 : Int), (0 : Int)), ((0 : Int), (0 : Int))), ([], (false, ()))), true⟩
theorem E_codec_ReadState_1_ok : E_codec_ReadState_1.OK Go.Proofs.Tryz.prog := ⟨ok_codec_ReadState_1, by kernel_rfl⟩
def D_codec_read_v1 : FD := ⟨[(0, .leaf (.ptr 0 0)), (1, .fn 40 [] [(.ptr 1 0)])], [(0, .grp (.pair (.sl (.int .u8)) .bool)), (1, .cells [(.ptr 0 0)])], [(0, .leaf (.own 16 sSw))], [(0, .grp (.pair (.sl (.int .u8)) .bool)), (1, .cells [(.ptr 0 0)]), (16, .rows sSw)]⟩
def L_codec_read_v1 : List (Nat × StD × Nat × StD) := [(3, ⟨[(0, .leaf (.ptr 0 0)), (1, .fn 40 [] [(.ptr 1 0)]), (5, .leaf (.own 16 sSw)), (6, .leaf (.int .i64))], [(16, .rows sSw), (0, .grp (.pair (.sl (.int .u8)) .bool)), (1, .cells [(.ptr 0 0)])], 17, 26⟩, 0, ⟨[(5, .leaf (.own 16 sSw))], [(0, .cells [(.sl (.int .u8)), .bool]), (1, .cells [(.ptr 0 0)]), (16, .rows sSw)], 17, 26⟩)]
noncomputable def T_codec_read_v1 : List Ent := [E_codec_ReadState_1, E_codec_reader_small]
theorem ok_codec_read_v1 : FnX Go.Proofs.Tryz.prog 39 D_codec_read_v1 (fun x => codec_read_v1 x.1) :=
  FnX.of (coL_ok (es := T_codec_read_v1) (OKs.mem ⟨E_codec_ReadState_1_ok, E_codec_reader_small_ok, trivial⟩)) mix (mkLs_ok (l := L_codec_read_v1) (by kernel_rfl)) (by kernel_rfl) Go.Proofs.Tryz.func39 rfl (by decide) (by decide) (fun x => by kernel_rfl)
noncomputable def E_codec_read_v1 : Ent := ⟨39, D_codec_read_v1, fun x => codec_read_v1 x.1, (([], false), ([], ())), true⟩
theorem E_codec_read_v1_ok : E_codec_read_v1.OK Go.Proofs.Tryz.prog := ⟨ok_codec_read_v1, by kernel_rfl⟩
def D_codec_reader_sight : FD := ⟨[(0, .leaf (.ptr 0 0))], [(0, .grp (.pair (.sl (.int .u8)) .bool))], [(0, .grp sSg)], [(0, .grp (.pair (.sl (.int .u8)) .bool))]⟩
def L_codec_reader_sight : List (Nat × StD × Nat × StD) := []
noncomputable def T_codec_reader_sight : List Ent := [E_codec_reader_num, E_codec_reader_mac, E_codec_reader_one]
theorem ok_codec_reader_sight : FnX Go.Proofs.Tryz.prog 46 D_codec_reader_sight (fun x => codec_reader_sight x.1) :=
  FnX.of (coL_ok (es := T_codec_reader_sight) (OKs.mem ⟨E_codec_reader_num_ok, E_codec_reader_mac_ok, E_codec_reader_one_ok, trivial⟩)) mix (mkLs_ok (l := L_codec_reader_sight) (by kernel_rfl)) (by kernel_rfl) Go.Proofs.Tryz.func46 rfl (by decide) (by decide) (fun x => by kernel_rfl)
noncomputable def E_codec_reader_sight : Ent := ⟨46, D_codec_reader_sight, fun x => codec_reader_sight x.1, (((0 : Int), (((0 : Int), ((0 : Int), ((0 : Int), ((0 : Int), ((0 : Int), (0 : Int)))))), (0 : Int))), (([], false), ())), true⟩
theorem E_codec_reader_sight_ok : E_codec_reader_sight.OK Go.Proofs.Tryz.prog := ⟨ok_codec_reader_sight, by kernel_rfl⟩
def D_codec_read_v2 : FD := ⟨[(0, .leaf (.ptr 0 0)), (1, .fn 46 [(.ptr 0 0)] [])], [(0, .grp (.pair (.sl (.int .u8)) .bool))], [(0, .leaf (.own 16 sSg))], [(0, .grp (.pair (.sl (.int .u8)) .bool)), (16, .rows sSg)]⟩
def L_codec_read_v2 : List (Nat × StD × Nat × StD) := [(3, ⟨[(0, .leaf (.ptr 0 0)), (1, .fn 46 [(.ptr 0 0)] []), (5, .leaf (.own 16 sSg)), (6, .leaf (.int .i64))], [(16, .rows sSg), (0, .grp (.pair (.sl (.int .u8)) .bool))], 17, 26⟩, 0, ⟨[(5, .leaf (.own 16 sSg))], [(0, .cells [(.sl (.int .u8)), .bool]), (16, .rows sSg)], 17, 26⟩)]
noncomputable def T_codec_read_v2 : List Ent := [E_codec_reader_sight, E_codec_reader_small]
theorem ok_codec_read_v2 : FnX Go.Proofs.Tryz.prog 45 D_codec_read_v2 (fun x => codec_read_v2 x.1) :=
  FnX.of (coL_ok (es := T_codec_read_v2) (OKs.mem ⟨E_codec_reader_sight_ok, E_codec_reader_small_ok, trivial⟩)) mix (mkLs_ok (l := L_codec_read_v2) (by kernel_rfl)) (by kernel_rfl) Go.Proofs.Tryz.func45 rfl (by decide) (by decide) (fun x => by kernel_rfl)
noncomputable def E_codec_read_v2 : Ent := ⟨45, D_codec_read_v2, fun x => codec_read_v2 x.1, (([], false), ([], ())), true⟩
theorem E_codec_read_v2_ok : E_codec_read_v2.OK Go.Proofs.Tryz.prog := ⟨ok_codec_read_v2, by kernel_rfl⟩
def D_codec_ReadState_2 : FD := ⟨[(0, .leaf (.ptr 0 0))], [(1, .cells [(.sl (.int .u8)), .bool]), (0, .cells [(.ptr 1 0)])], [(0, .grp sKn)], [(1, .cells [(.sl (.int .u8)), .bool]), (0, .cells [(.ptr 1 0)])]⟩
def L_codec_ReadState_2 : List (Nat × StD × Nat × StD) := []
noncomputable def T_codec_ReadState_2 : List Ent := [E_codec_read_v2, E_codec_reader_ip]
theorem ok_codec_ReadState_2 : FnX Go.Proofs.Tryz.prog 43 D_codec_ReadState_2 (fun x => codec_ReadState_2 x.1 x.2.1) :=
  FnX.of (coL_ok (es := T_codec_ReadState_2) (OKs.mem ⟨E_codec_read_v2_ok, E_codec_reader_ip_ok, trivial⟩)) mix (mkLs_ok (l := L_codec_ReadState_2) (by kernel_rfl)) (by kernel_rfl) Go.Proofs.Tryz.func43 rfl (by decide) (by decide) (fun x => by kernel_rfl)
noncomputable def E_codec_ReadState_2 : Ent := ⟨43, D_codec_ReadState_2, fun x => codec_ReadState_2 x.1 x.2.1, (((0 : Int), []), ([], (false, ()))), true⟩
theorem E_codec_ReadState_2_ok : E_codec_ReadState_2.OK Go.Proofs.Tryz.prog := ⟨ok_codec_ReadState_2, by kernel_rfl⟩
def D_codec_read_v3 : FD := ⟨[(0, .leaf (.ptr 0 0)), (1, .fn 43 [] [(.ptr 1 0)])], [(0, .grp (.pair (.sl (.int .u8)) .bool)), (1, .cells [(.ptr 0 0)])], [(0, .leaf (.own 16 sKn))], [(0, .grp (.pair (.sl (.int .u8)) .bool)), (1, .cells [(.ptr 0 0)]), (16, .rows sKn)]⟩
def L_codec_read_v3 : List (Nat × StD × Nat × StD) := [(3, ⟨[(0, .leaf (.ptr 0 0)), (1, .fn 43 [] [(.ptr 1 0)]), (5, .leaf (.own 16 sKn)), (6, .leaf (.int .i64))], [(16, .rows sKn), (0, .grp (.pair (.sl (.int .u8)) .bool)), (1, .cells [(.ptr 0 0)])], 17, 26⟩, 0, ⟨[(5, .leaf (.own 16 sKn))], [(0, .cells [(.sl (.int .u8)), .bool]), (1, .cells [(.ptr 0 0)]), (16, .rows sKn)], 17, 26⟩)]
noncomputable def T_codec_read_v3 : List Ent := [E_codec_ReadState_2, E_codec_reader_small]
theorem ok_codec_read_v3 : FnX Go.Proofs.Tryz.prog 42 D_codec_read_v3 (fun x => codec_read_v3 x.1) :=
  FnX.of (coL_ok (es := T_codec_read_v3) (OKs.mem ⟨E_codec_ReadState_2_ok, E_codec_reader_small_ok, trivial⟩)) mix (mkLs_ok (l := L_codec_read_v3) (by kernel_rfl)) (by kernel_rfl) Go.Proofs.Tryz.func42 rfl (by decide) (by decide) (fun x => by kernel_rfl)
noncomputable def E_codec_read_v3 : Ent := ⟨42, D_codec_read_v3, fun x => codec_read_v3 x.1, (([], false), ([], ())), true⟩
theorem E_codec_read_v3_ok : E_codec_read_v3.OK Go.Proofs.Tryz.prog := ⟨ok_codec_read_v3, by kernel_rfl⟩
def D_codec_ReadState_3 : FD := ⟨[(0, .leaf (.ptr 0 0))], [(1, .cells [(.sl (.int .u8)), .bool]), (0, .cells [(.ptr 1 0)])], [(0, .grp sPr)], [(1, .cells [(.sl (.int .u8)), .bool]), (0, .cells [(.ptr 1 0)])]⟩
def L_codec_ReadState_3 : List (Nat × StD × Nat × StD) := []
noncomputable def T_codec_ReadState_3 : List Ent := [E_codec_reader_one, E_codec_reader_num, E_codec_reader_small, E_codec_reader_ip]
theorem ok_codec_ReadState_3 : FnX Go.Proofs.Tryz.prog 48 D_codec_ReadState_3 (fun x => codec_ReadState_3 x.1 x.2.1) :=
  FnX.of (coL_ok (es := T_codec_ReadState_3) (OKs.mem ⟨E_codec_reader_one_ok, E_codec_reader_num_ok, E_codec_reader_small_ok, E_codec_reader_ip_ok, trivial⟩)) mix (mkLs_ok (l := L_codec_ReadState_3) (by kernel_rfl)) (by kernel_rfl) Go.Proofs.Tryz.func48 rfl (by decide) (by decide) (fun x => by kernel_rfl)
noncomputable def E_codec_ReadState_3 : Ent := ⟨48, D_codec_ReadState_3, fun x => codec_ReadState_3 x.1 x.2.1, (((0 : Int), ((0 : Int), ((0 : Int), ((0 : Int), (0 : Int))))), ([], (false, ()))), true⟩
theorem E_codec_ReadState_3_ok : E_codec_ReadState_3.OK Go.Proofs.Tryz.prog := ⟨ok_codec_ReadState_3, by kernel_rfl⟩
def D_codec_read_v4 : FD := ⟨[(0, .leaf (.ptr 0 0)), (1, .fn 48 [] [(.ptr 1 0)])], [(0, .grp (.pair (.sl (.int .u8)) .bool)), (1, .cells [(.ptr 0 0)])], [(0, .leaf (.own 16 sPr))], [(0, .grp (.pair (.sl (.int .u8)) .bool)), (1, .cells [(.ptr 0 0)]), (16, .rows sPr)]⟩
def L_codec_read_v4 : List (Nat × StD × Nat × StD) := [(3, ⟨[(0, .leaf (.ptr 0 0)), (1, .fn 48 [] [(.ptr 1 0)]), (5, .leaf (.own 16 sPr)), (6, .leaf (.int .i64))], [(16, .rows sPr), (0, .grp (.pair (.sl (.int .u8)) .bool)), (1, .cells [(.ptr 0 0)])], 17, 26⟩, 0, ⟨[(5, .leaf (.own 16 sPr))], [(0, .cells [(.sl (.int .u8)), .bool]), (1, .cells [(.ptr 0 0)]), (16, .rows sPr)], 17, 26⟩)]
noncomputable def T_codec_read_v4 : List Ent := [E_codec_ReadState_3, E_codec_reader_small]
theorem ok_codec_read_v4 : FnX Go.Proofs.Tryz.prog 47 D_codec_read_v4 (fun x => codec_read_v4 x.1) :=
  FnX.of (coL_ok (es := T_codec_read_v4) (OKs.mem ⟨E_codec_ReadState_3_ok, E_codec_reader_small_ok, trivial⟩)) mix (mkLs_ok (l := L_codec_read_v4) (by kernel_rfl)) (by kernel_rfl) Go.Proofs.Tryz.func47 rfl (by decide) (by decide) (fun x => by kernel_rfl)
noncomputable def E_codec_read_v4 : Ent := ⟨47, D_codec_read_v4, fun x => codec_read_v4 x.1, (([], false), ([], ())), true⟩
theorem E_codec_read_v4_ok : E_codec_read_v4.OK Go.Proofs.Tryz.prog := ⟨ok_codec_read_v4, by kernel_rfl⟩
def D_codec_ReadState_4 : FD := ⟨[(0, .leaf (.ptr 0 0))], [(1, .cells [(.sl (.int .u8)), .bool]), (0, .cells [(.ptr 1 0)])], [(0, .grp sCa)], [(1, .cells [(.sl (.int .u8)), .bool]), (0, .cells [(.ptr 1 0)])]⟩
def L_codec_ReadState_4 : List (Nat × StD × Nat × StD) := []
noncomputable def T_codec_ReadState_4 : List Ent := [E_codec_reader_one, E_codec_reader_num, E_codec_reader_ip]
theorem ok_codec_ReadState_4 : FnX Go.Proofs.Tryz.prog 51 D_codec_ReadState_4 (fun x => codec_ReadState_4 x.1 x.2.1) :=
  FnX.of (coL_ok (es := T_codec_ReadState_4) (OKs.mem ⟨E_codec_reader_one_ok, E_codec_reader_num_ok, E_codec_reader_ip_ok, trivial⟩)) mix (mkLs_ok (l := L_codec_ReadState_4) (by kernel_rfl)) (by kernel_rfl) Go.Proofs.Tryz.func51 rfl (by decide) (by decide) (fun x => by kernel_rfl)
noncomputable def E_codec_ReadState_4 : Ent := ⟨51, D_codec_ReadState_4, fun x => codec_ReadState_4 x.1 x.2.1, (((0 : Int), ((0 : Int), ((0 : Int), (0 : Int)))), ([], (false, ()))), true⟩
theorem E_codec_ReadState_4_ok : E_codec_ReadState_4.OK Go.Proofs.Tryz.prog := ⟨ok_codec_ReadState_4, by kernel_rfl⟩
def D_codec_read_v5 : FD := ⟨[(0, .leaf (.ptr 0 0)), (1, .fn 51 [] [(.ptr 1 0)])], [(0, .grp (.pair (.sl (.int .u8)) .bool)), (1, .cells [(.ptr 0 0)])], [(0, .leaf (.own 16 sCa))], [(0, .grp (.pair (.sl (.int .u8)) .bool)), (1, .cells [(.ptr 0 0)]), (16, .rows sCa)]⟩
def L_codec_read_v5 : List (Nat × StD × Nat × StD) := [(3, ⟨[(0, .leaf (.ptr 0 0)), (1, .fn 51 [] [(.ptr 1 0)]), (5, .leaf (.own 16 sCa)), (6, .leaf (.int .i64))], [(16, .rows sCa), (0, .grp (.pair (.sl (.int .u8)) .bool)), (1, .cells [(.ptr 0 0)])], 17, 26⟩, 0, ⟨[(5, .leaf (.own 16 sCa))], [(0, .cells [(.sl (.int .u8)), .bool]), (1, .cells [(.ptr 0 0)]), (16, .rows sCa)], 17, 26⟩)]
noncomputable def T_codec_read_v5 : List Ent := [E_codec_ReadState_4, E_codec_reader_small]
theorem ok_codec_read_v5 : FnX Go.Proofs.Tryz.prog 50 D_codec_read_v5 (fun x => codec_read_v5 x.1) :=
  FnX.of (coL_ok (es := T_codec_read_v5) (OKs.mem ⟨E_codec_ReadState_4_ok, E_codec_reader_small_ok, trivial⟩)) mix (mkLs_ok (l := L_codec_read_v5) (by kernel_rfl)) (by kernel_rfl) Go.Proofs.Tryz.func50 rfl (by decide) (by decide) (fun x => by kernel_rfl)
noncomputable def E_codec_read_v5 : Ent := ⟨50, D_codec_read_v5, fun x => codec_read_v5 x.1, (([], false), ([], ())), true⟩
theorem E_codec_read_v5_ok : E_codec_read_v5.OK Go.Proofs.Tryz.prog := ⟨ok_codec_read_v5, by kernel_rfl⟩
def D_clock_Clamp : FD := ⟨[(0, .leaf (.int .i64))], [], [(0, .leaf (.int .i64))], []⟩
def L_clock_Clamp : List (Nat × StD × Nat × StD) := []
noncomputable def T_clock_Clamp : List Ent := []
theorem ok_clock_Clamp : FnX Go.Proofs.Tryz.prog 55 D_clock_Clamp (fun x => clock_Clamp x.1) :=
  FnX.of (coL_ok (es := T_clock_Clamp) (OKs.mem trivial)) mix (mkLs_ok (l := L_clock_Clamp) (by kernel_rfl)) (by kernel_rfl) Go.Proofs.Tryz.func55 rfl (by decide) (by decide) (fun x => by kernel_rfl)
noncomputable def E_clock_Clamp : Ent := ⟨55, D_clock_Clamp, fun x => clock_Clamp x.1, ((0 : Int), ()), false⟩
theorem E_clock_Clamp_ok : E_clock_Clamp.OK Go.Proofs.Tryz.prog := ⟨ok_clock_Clamp, by kernel_rfl⟩
def D_held_Right : FD := ⟨[(0, .leaf (.sl sHd))], [], [(0, .leaf .bool)], []⟩
def L_held_Right : List (Nat × StD × Nat × StD) := [(2, ⟨[(0, .leaf (.sl sHd)), (5, .leaf (.sl sHd)), (6, .leaf (.int .i64)), (7, .leaf (.int .i64))], [], 16, 35⟩, 0, ⟨[(0, .leaf (.sl sHd))], [], 16, 35⟩)]
noncomputable def T_held_Right : List Ent := [E_held_May]
theorem ok_held_Right : FnX Go.Proofs.Tryz.prog 56 D_held_Right (fun x => held_Right x.1) :=
  FnX.of (coL_ok (es := T_held_Right) (OKs.mem ⟨E_held_May_ok, trivial⟩)) mix (mkLs_ok (l := L_held_Right) (by kernel_rfl)) (by kernel_rfl) Go.Proofs.Tryz.func56 rfl (by decide) (by decide) (fun x => by kernel_rfl)
noncomputable def E_held_Right : Ent := ⟨56, D_held_Right, fun x => held_Right x.1, (false, ()), false⟩
theorem E_held_Right_ok : E_held_Right.OK Go.Proofs.Tryz.prog := ⟨ok_held_Right, by kernel_rfl⟩
def D_addr_mask : FD := ⟨[(0, .leaf (.int .i64))], [], [(0, .leaf (.int .u32))], []⟩
def L_addr_mask : List (Nat × StD × Nat × StD) := []
noncomputable def T_addr_mask : List Ent := []
theorem ok_addr_mask : FnX Go.Proofs.Tryz.prog 109 D_addr_mask (fun x => addr_mask x.1) :=
  FnX.of (coL_ok (es := T_addr_mask) (OKs.mem trivial)) mix (mkLs_ok (l := L_addr_mask) (by kernel_rfl)) (by kernel_rfl) Go.Proofs.Tryz.func109 rfl (by decide) (by decide) (fun x => by kernel_rfl)
noncomputable def E_addr_mask : Ent := ⟨109, D_addr_mask, fun x => addr_mask x.1, ((0 : Int), ()), false⟩
theorem E_addr_mask_ok : E_addr_mask.OK Go.Proofs.Tryz.prog := ⟨ok_addr_mask, by kernel_rfl⟩
def D_addr_Right : FD := ⟨[(0, .grp sBk)], [], [(0, .leaf .bool)], []⟩
def L_addr_Right : List (Nat × StD × Nat × StD) := []
noncomputable def T_addr_Right : List Ent := [E_addr_mask]
theorem ok_addr_Right : FnX Go.Proofs.Tryz.prog 79 D_addr_Right (fun x => addr_Right x.1) :=
  FnX.of (coL_ok (es := T_addr_Right) (OKs.mem ⟨E_addr_mask_ok, trivial⟩)) mix (mkLs_ok (l := L_addr_Right) (by kernel_rfl)) (by kernel_rfl) Go.Proofs.Tryz.func79 rfl (by decide) (by decide) (fun x => by kernel_rfl)
noncomputable def E_addr_Right : Ent := ⟨79, D_addr_Right, fun x => addr_Right x.1, (false, ()), false⟩
theorem E_addr_Right_ok : E_addr_Right.OK Go.Proofs.Tryz.prog := ⟨ok_addr_Right, by kernel_rfl⟩
def D_addr_Size : FD := ⟨[(0, .grp sBk)], [], [(0, .leaf (.int .i64))], []⟩
def L_addr_Size : List (Nat × StD × Nat × StD) := []
noncomputable def T_addr_Size : List Ent := [E_addr_Right]
theorem ok_addr_Size : FnX Go.Proofs.Tryz.prog 80 D_addr_Size (fun x => addr_Size x.1) :=
  FnX.of (coL_ok (es := T_addr_Size) (OKs.mem ⟨E_addr_Right_ok, trivial⟩)) mix (mkLs_ok (l := L_addr_Size) (by kernel_rfl)) (by kernel_rfl) Go.Proofs.Tryz.func80 rfl (by decide) (by decide) (fun x => by kernel_rfl)
noncomputable def E_addr_Size : Ent := ⟨80, D_addr_Size, fun x => addr_Size x.1, ((0 : Int), ()), false⟩
theorem E_addr_Size_ok : E_addr_Size.OK Go.Proofs.Tryz.prog := ⟨ok_addr_Size, by kernel_rfl⟩
def D_addr_Has : FD := ⟨[(0, .grp sBk), (1, .leaf (.int .u32))], [], [(0, .leaf .bool)], []⟩
def L_addr_Has : List (Nat × StD × Nat × StD) := []
noncomputable def T_addr_Has : List Ent := [E_addr_mask, E_addr_Right]
theorem ok_addr_Has : FnX Go.Proofs.Tryz.prog 138 D_addr_Has (fun x => addr_Has x.1 x.2.1) :=
  FnX.of (coL_ok (es := T_addr_Has) (OKs.mem ⟨E_addr_mask_ok, E_addr_Right_ok, trivial⟩)) mix (mkLs_ok (l := L_addr_Has) (by kernel_rfl)) (by kernel_rfl) Go.Proofs.Tryz.func138 rfl (by decide) (by decide) (fun x => by kernel_rfl)
noncomputable def E_addr_Has : Ent := ⟨138, D_addr_Has, fun x => addr_Has x.1 x.2.1, (false, ()), false⟩
theorem E_addr_Has_ok : E_addr_Has.OK Go.Proofs.Tryz.prog := ⟨ok_addr_Has, by kernel_rfl⟩
def D_addr_Within : FD := ⟨[(0, .grp sBk), (1, .grp sBk)], [], [(0, .leaf .bool)], []⟩
def L_addr_Within : List (Nat × StD × Nat × StD) := []
noncomputable def T_addr_Within : List Ent := [E_addr_Has, E_addr_Right]
theorem ok_addr_Within : FnX Go.Proofs.Tryz.prog 110 D_addr_Within (fun x => addr_Within x.1 x.2.1) :=
  FnX.of (coL_ok (es := T_addr_Within) (OKs.mem ⟨E_addr_Has_ok, E_addr_Right_ok, trivial⟩)) mix (mkLs_ok (l := L_addr_Within) (by kernel_rfl)) (by kernel_rfl) Go.Proofs.Tryz.func110 rfl (by decide) (by decide) (fun x => by kernel_rfl)
noncomputable def E_addr_Within : Ent := ⟨110, D_addr_Within, fun x => addr_Within x.1 x.2.1, (false, ()), false⟩
theorem E_addr_Within_ok : E_addr_Within.OK Go.Proofs.Tryz.prog := ⟨ok_addr_Within, by kernel_rfl⟩
def D_addr_Overlap : FD := ⟨[(0, .grp sBk), (1, .grp sBk)], [], [(0, .leaf .bool)], []⟩
def L_addr_Overlap : List (Nat × StD × Nat × StD) := []
noncomputable def T_addr_Overlap : List Ent := [E_addr_Within]
theorem ok_addr_Overlap : FnX Go.Proofs.Tryz.prog 81 D_addr_Overlap (fun x => addr_Overlap x.1 x.2.1) :=
  FnX.of (coL_ok (es := T_addr_Overlap) (OKs.mem ⟨E_addr_Within_ok, trivial⟩)) mix (mkLs_ok (l := L_addr_Overlap) (by kernel_rfl)) (by kernel_rfl) Go.Proofs.Tryz.func81 rfl (by decide) (by decide) (fun x => by kernel_rfl)
noncomputable def E_addr_Overlap : Ent := ⟨81, D_addr_Overlap, fun x => addr_Overlap x.1 x.2.1, (false, ()), false⟩
theorem E_addr_Overlap_ok : E_addr_Overlap.OK Go.Proofs.Tryz.prog := ⟨ok_addr_Overlap, by kernel_rfl⟩
def D_sweep_Right : FD := ⟨[(0, .leaf (.sl sSw))], [], [(0, .leaf .bool)], []⟩
def L_sweep_Right : List (Nat × StD × Nat × StD) := [(2, ⟨[(0, .leaf (.sl sSw)), (5, .leaf (.sl sSw)), (6, .leaf (.int .i64)), (7, .leaf (.int .i64))], [], 16, 73⟩, 0, ⟨[(0, .leaf (.sl sSw))], [], 16, 73⟩)]
noncomputable def T_sweep_Right : List Ent := [E_addr_Overlap, E_clock_Clamp, E_addr_Size, E_addr_Right]
theorem ok_sweep_Right : FnX Go.Proofs.Tryz.prog 57 D_sweep_Right (fun x => sweep_Right x.1) :=
  FnX.of (coL_ok (es := T_sweep_Right) (OKs.mem ⟨E_addr_Overlap_ok, E_clock_Clamp_ok, E_addr_Size_ok, E_addr_Right_ok, trivial⟩)) mix (mkLs_ok (l := L_sweep_Right) (by kernel_rfl)) (by kernel_rfl) Go.Proofs.Tryz.func57 rfl (by decide) (by decide) (fun x => by kernel_rfl)
noncomputable def E_sweep_Right : Ent := ⟨57, D_sweep_Right, fun x => sweep_Right x.1, (false, ()), false⟩
theorem E_sweep_Right_ok : E_sweep_Right.OK Go.Proofs.Tryz.prog := ⟨ok_sweep_Right, by kernel_rfl⟩
def D_seen_Right : FD := ⟨[(0, .leaf (.sl sKn))], [], [(0, .leaf .bool)], []⟩
def L_seen_Right : List (Nat × StD × Nat × StD) := [(2, ⟨[(0, .leaf (.sl sKn)), (7, .leaf (.sl sKn)), (8, .leaf (.int .i64)), (9, .leaf (.int .i64))], [], 16, 81⟩, 0, ⟨[(0, .leaf (.sl sKn))], [], 16, 81⟩), (7, ⟨[(0, .leaf (.sl sKn)), (4, .leaf (.ptr 16 0)), (7, .leaf (.sl sKn)), (8, .leaf (.int .i64)), (9, .leaf (.int .i64)), (40, .leaf (.sl sSg)), (41, .leaf (.int .i64)), (42, .leaf (.int .i64))], [(16, .cells [(.int .u32), (.sl sSg)])], 17, 81⟩, 2, ⟨[(0, .leaf (.sl sKn)), (7, .leaf (.sl sKn)), (8, .leaf (.int .i64)), (9, .leaf (.int .i64))], [], 16, 81⟩)]
noncomputable def T_seen_Right : List Ent := []
theorem ok_seen_Right : FnX Go.Proofs.Tryz.prog 58 D_seen_Right (fun x => seen_Right x.1) :=
  FnX.of (coL_ok (es := T_seen_Right) (OKs.mem trivial)) mix (mkLs_ok (l := L_seen_Right) (by kernel_rfl)) (by kernel_rfl) Go.Proofs.Tryz.func58 rfl (by decide) (by decide) (fun x => by kernel_rfl)
noncomputable def E_seen_Right : Ent := ⟨58, D_seen_Right, fun x => seen_Right x.1, (false, ()), false⟩
theorem E_seen_Right_ok : E_seen_Right.OK Go.Proofs.Tryz.prog := ⟨ok_seen_Right, by kernel_rfl⟩
def D_probe_Right_1 : FD := ⟨[(0, .grp sPr), (1, .leaf (.fpt sPr 0))], [], [(0, .leaf .bool)], []⟩
def L_probe_Right_1 : List (Nat × StD × Nat × StD) := []
noncomputable def T_probe_Right_1 : List Ent := []
theorem ok_probe_Right_1 : FnX Go.Proofs.Tryz.prog 83 D_probe_Right_1 (fun x => probe_Right_1 x.1 x.2.1) :=
  FnX.of (coL_ok (es := T_probe_Right_1) (OKs.mem trivial)) mix (mkLs_ok (l := L_probe_Right_1) (by kernel_rfl)) (by kernel_rfl) Go.Proofs.Tryz.func83 rfl (by decide) (by decide) (fun x => by kernel_rfl)
noncomputable def E_probe_Right_1 : Ent := ⟨83, D_probe_Right_1, fun x => probe_Right_1 x.1 x.2.1, (false, ()), false⟩
theorem E_probe_Right_1_ok : E_probe_Right_1.OK Go.Proofs.Tryz.prog := ⟨ok_probe_Right_1, by kernel_rfl⟩
def D_slices_IndexFunc : FD := ⟨[(0, .leaf (.sl sPr)), (1, .fn 83 [] [(.fpt sPr 0)])], [], [(0, .leaf (.int .i64))], []⟩
def L_slices_IndexFunc : List (Nat × StD × Nat × StD) := [(2, ⟨[(0, .leaf (.sl sPr)), (1, .fn 83 [] [(.fpt sPr 0)]), (7, .leaf (.int .i64)), (8, .leaf (.int .i64))], [], 16, 19⟩, 0, ⟨[], [], 16, 19⟩)]
noncomputable def T_slices_IndexFunc : List Ent := [E_probe_Right_1]
theorem ok_slices_IndexFunc : FnX Go.Proofs.Tryz.prog 111 D_slices_IndexFunc (fun x => slices_IndexFunc x.1 x.2.1) :=
  FnX.of (coL_ok (es := T_slices_IndexFunc) (OKs.mem ⟨E_probe_Right_1_ok, trivial⟩)) mix (mkLs_ok (l := L_slices_IndexFunc) (by kernel_rfl)) (by kernel_rfl) Go.Proofs.Tryz.func111 rfl (by decide) (by decide) (fun x => by kernel_rfl)
noncomputable def E_slices_IndexFunc : Ent := ⟨111, D_slices_IndexFunc, fun x => slices_IndexFunc x.1 x.2.1, ((0 : Int), ()), false⟩
theorem E_slices_IndexFunc_ok : E_slices_IndexFunc.OK Go.Proofs.Tryz.prog := ⟨ok_slices_IndexFunc, by kernel_rfl⟩
def D_slices_ContainsFunc : FD := ⟨[(0, .leaf (.sl sPr)), (1, .fn 83 [] [(.fpt sPr 0)])], [], [(0, .leaf .bool)], []⟩
def L_slices_ContainsFunc : List (Nat × StD × Nat × StD) := []
noncomputable def T_slices_ContainsFunc : List Ent := [E_slices_IndexFunc]
theorem ok_slices_ContainsFunc : FnX Go.Proofs.Tryz.prog 82 D_slices_ContainsFunc (fun x => slices_ContainsFunc x.1 x.2.1) :=
  FnX.of (coL_ok (es := T_slices_ContainsFunc) (OKs.mem ⟨E_slices_IndexFunc_ok, trivial⟩)) mix (mkLs_ok (l := L_slices_ContainsFunc) (by kernel_rfl)) (by kernel_rfl) Go.Proofs.Tryz.func82 rfl (by decide) (by decide) (fun x => by kernel_rfl)
noncomputable def E_slices_ContainsFunc : Ent := ⟨82, D_slices_ContainsFunc, fun x => slices_ContainsFunc x.1 x.2.1, (false, ()), false⟩
theorem E_slices_ContainsFunc_ok : E_slices_ContainsFunc.OK Go.Proofs.Tryz.prog := ⟨ok_slices_ContainsFunc, by kernel_rfl⟩
def D_probe_Right : FD := ⟨[(0, .leaf (.sl sPr))], [], [(0, .leaf .bool)], []⟩
def L_probe_Right : List (Nat × StD × Nat × StD) := [(2, ⟨[(0, .leaf (.sl sPr)), (5, .leaf (.sl sPr)), (6, .leaf (.int .i64)), (7, .leaf (.int .i64))], [], 16, 56⟩, 0, ⟨[(0, .leaf (.sl sPr))], [], 16, 56⟩)]
noncomputable def T_probe_Right : List Ent := [E_slices_ContainsFunc, E_clock_Clamp]
theorem ok_probe_Right : FnX Go.Proofs.Tryz.prog 59 D_probe_Right (fun x => probe_Right x.1) :=
  FnX.of (coL_ok (es := T_probe_Right) (OKs.mem ⟨E_slices_ContainsFunc_ok, E_clock_Clamp_ok, trivial⟩)) mix (mkLs_ok (l := L_probe_Right) (by kernel_rfl)) (by kernel_rfl) Go.Proofs.Tryz.func59 rfl (by decide) (by decide) (fun x => by kernel_rfl)
noncomputable def E_probe_Right : Ent := ⟨59, D_probe_Right, fun x => probe_Right x.1, (false, ()), false⟩
theorem E_probe_Right_ok : E_probe_Right.OK Go.Proofs.Tryz.prog := ⟨ok_probe_Right, by kernel_rfl⟩
def D_cases_Open : FD := ⟨[(0, .grp sCa)], [], [(0, .leaf .bool)], []⟩
def L_cases_Open : List (Nat × StD × Nat × StD) := []
noncomputable def T_cases_Open : List Ent := []
theorem ok_cases_Open : FnX Go.Proofs.Tryz.prog 84 D_cases_Open (fun x => cases_Open x.1) :=
  FnX.of (coL_ok (es := T_cases_Open) (OKs.mem trivial)) mix (mkLs_ok (l := L_cases_Open) (by kernel_rfl)) (by kernel_rfl) Go.Proofs.Tryz.func84 rfl (by decide) (by decide) (fun x => by kernel_rfl)
noncomputable def E_cases_Open : Ent := ⟨84, D_cases_Open, fun x => cases_Open x.1, (false, ()), false⟩
theorem E_cases_Open_ok : E_cases_Open.OK Go.Proofs.Tryz.prog := ⟨ok_cases_Open, by kernel_rfl⟩
def D_cases_Find_1 : FD := ⟨[(0, .grp sCa), (1, .leaf (.fpt (.int .u32) 0))], [], [(0, .leaf .bool)], []⟩
def L_cases_Find_1 : List (Nat × StD × Nat × StD) := []
noncomputable def T_cases_Find_1 : List Ent := [E_cases_Open]
theorem ok_cases_Find_1 : FnX Go.Proofs.Tryz.prog 113 D_cases_Find_1 (fun x => cases_Find_1 x.1 x.2.1) :=
  FnX.of (coL_ok (es := T_cases_Find_1) (OKs.mem ⟨E_cases_Open_ok, trivial⟩)) mix (mkLs_ok (l := L_cases_Find_1) (by kernel_rfl)) (by kernel_rfl) Go.Proofs.Tryz.func113 rfl (by decide) (by decide) (fun x => by kernel_rfl)
noncomputable def E_cases_Find_1 : Ent := ⟨113, D_cases_Find_1, fun x => cases_Find_1 x.1 x.2.1, (false, ()), false⟩
theorem E_cases_Find_1_ok : E_cases_Find_1.OK Go.Proofs.Tryz.prog := ⟨ok_cases_Find_1, by kernel_rfl⟩
def D_slices_IndexFunc_v1 : FD := ⟨[(0, .leaf (.sl sCa)), (1, .fn 113 [] [(.fpt (.int .u32) 0)])], [], [(0, .leaf (.int .i64))], []⟩
def L_slices_IndexFunc_v1 : List (Nat × StD × Nat × StD) := [(2, ⟨[(0, .leaf (.sl sCa)), (1, .fn 113 [] [(.fpt (.int .u32) 0)]), (7, .leaf (.int .i64)), (8, .leaf (.int .i64))], [], 16, 19⟩, 0, ⟨[], [], 16, 19⟩)]
noncomputable def T_slices_IndexFunc_v1 : List Ent := [E_cases_Find_1]
theorem ok_slices_IndexFunc_v1 : FnX Go.Proofs.Tryz.prog 112 D_slices_IndexFunc_v1 (fun x => slices_IndexFunc_v1 x.1 x.2.1) :=
  FnX.of (coL_ok (es := T_slices_IndexFunc_v1) (OKs.mem ⟨E_cases_Find_1_ok, trivial⟩)) mix (mkLs_ok (l := L_slices_IndexFunc_v1) (by kernel_rfl)) (by kernel_rfl) Go.Proofs.Tryz.func112 rfl (by decide) (by decide) (fun x => by kernel_rfl)
noncomputable def E_slices_IndexFunc_v1 : Ent := ⟨112, D_slices_IndexFunc_v1, fun x => slices_IndexFunc_v1 x.1 x.2.1, ((0 : Int), ()), false⟩
theorem E_slices_IndexFunc_v1_ok : E_slices_IndexFunc_v1.OK Go.Proofs.Tryz.prog := ⟨ok_slices_IndexFunc_v1, by kernel_rfl⟩
def D_cases_Find : FD := ⟨[(0, .leaf (.sl sCa)), (1, .leaf (.int .u32))], [], [(0, .leaf (.int .i64))], []⟩
def L_cases_Find : List (Nat × StD × Nat × StD) := []
noncomputable def T_cases_Find : List Ent := [E_slices_IndexFunc_v1]
theorem ok_cases_Find : FnX Go.Proofs.Tryz.prog 85 D_cases_Find (fun x => cases_Find x.1 x.2.1) :=
  FnX.of (coL_ok (es := T_cases_Find) (OKs.mem ⟨E_slices_IndexFunc_v1_ok, trivial⟩)) mix (mkLs_ok (l := L_cases_Find) (by kernel_rfl)) (by kernel_rfl) Go.Proofs.Tryz.func85 rfl (by decide) (by decide) (fun x => by kernel_rfl)
noncomputable def E_cases_Find : Ent := ⟨85, D_cases_Find, fun x => cases_Find x.1 x.2.1, ((0 : Int), ()), false⟩
theorem E_cases_Find_ok : E_cases_Find.OK Go.Proofs.Tryz.prog := ⟨ok_cases_Find, by kernel_rfl⟩
def D_cases_Right : FD := ⟨[(0, .leaf (.sl sCa))], [], [(0, .leaf .bool)], []⟩
def L_cases_Right : List (Nat × StD × Nat × StD) := [(2, ⟨[(0, .leaf (.sl sCa)), (5, .leaf (.sl sCa)), (6, .leaf (.int .i64)), (7, .leaf (.int .i64))], [], 16, 69⟩, 0, ⟨[(0, .leaf (.sl sCa))], [], 16, 69⟩)]
noncomputable def T_cases_Right : List Ent := [E_cases_Find, E_cases_Open, E_clock_Clamp]
theorem ok_cases_Right : FnX Go.Proofs.Tryz.prog 60 D_cases_Right (fun x => cases_Right x.1) :=
  FnX.of (coL_ok (es := T_cases_Right) (OKs.mem ⟨E_cases_Find_ok, E_cases_Open_ok, E_clock_Clamp_ok, trivial⟩)) mix (mkLs_ok (l := L_cases_Right) (by kernel_rfl)) (by kernel_rfl) Go.Proofs.Tryz.func60 rfl (by decide) (by decide) (fun x => by kernel_rfl)
noncomputable def E_cases_Right : Ent := ⟨60, D_cases_Right, fun x => cases_Right x.1, (false, ()), false⟩
theorem E_cases_Right_ok : E_cases_Right.OK Go.Proofs.Tryz.prog := ⟨ok_cases_Right, by kernel_rfl⟩
def D_codec_Right : FD := ⟨[(0, .grp sSt)], [], [(0, .leaf .bool)], []⟩
def L_codec_Right : List (Nat × StD × Nat × StD) := []
noncomputable def T_codec_Right : List Ent := [E_cases_Right, E_probe_Right, E_seen_Right, E_sweep_Right, E_held_Right, E_clock_Clamp]
theorem ok_codec_Right : FnX Go.Proofs.Tryz.prog 13 D_codec_Right (fun x => codec_Right x.1) :=
  FnX.of (coL_ok (es := T_codec_Right) (OKs.mem ⟨E_cases_Right_ok, E_probe_Right_ok, E_seen_Right_ok, E_sweep_Right_ok, E_held_Right_ok, E_clock_Clamp_ok, trivial⟩)) mix (mkLs_ok (l := L_codec_Right) (by kernel_rfl)) (by kernel_rfl) Go.Proofs.Tryz.func13 rfl (by decide) (by decide) (fun x => by kernel_rfl)
noncomputable def E_codec_Right : Ent := ⟨13, D_codec_Right, fun x => codec_Right x.1, (false, ()), false⟩
theorem E_codec_Right_ok : E_codec_Right.OK Go.Proofs.Tryz.prog := ⟨ok_codec_Right, by kernel_rfl⟩
def D_codec_ReadState : FD := ⟨[(0, .leaf (.sl (.int .u8)))], [], [(0, .grp sSt), (1, .leaf .bool)], []⟩
def L_codec_ReadState : List (Nat × StD × Nat × StD) := []
noncomputable def T_codec_ReadState : List Ent := [E_codec_Right, E_codec_read_v5, E_codec_read_v4, E_codec_read_v3, E_codec_read_v1, E_codec_read, E_codec_reader_small, E_codec_reader_num]
theorem ok_codec_ReadState : FnX Go.Proofs.Tryz.prog 10 D_codec_ReadState (fun x => codec_ReadState x.1) :=
  FnX.of (coL_ok (es := T_codec_ReadState) (OKs.mem ⟨E_codec_Right_ok, E_codec_read_v5_ok, E_codec_read_v4_ok, E_codec_read_v3_ok, E_codec_read_v1_ok, E_codec_read_ok, E_codec_reader_small_ok, E_codec_reader_num_ok, trivial⟩)) mix (mkLs_ok (l := L_codec_ReadState) (by kernel_rfl)) (by kernel_rfl) Go.Proofs.Tryz.func10 rfl (by decide) (by decide) (fun x => by kernel_rfl)
noncomputable def E_codec_ReadState : Ent := ⟨10, D_codec_ReadState, fun x => codec_ReadState x.1, (((0 : Int), ((0 : Int), ([], ([], ([], ([], [])))))), (false, ())), true⟩
theorem E_codec_ReadState_ok : E_codec_ReadState.OK Go.Proofs.Tryz.prog := ⟨ok_codec_ReadState, by kernel_rfl⟩
def D_codec_Event : FD := ⟨[(0, .grp sEv)], [], [(0, .leaf (.sl (.int .u8)))], []⟩
def L_codec_Event : List (Nat × StD × Nat × StD) := []
noncomputable def T_codec_Event : List Ent := [E_codec_ip, E_codec_block, E_codec_holder]
theorem ok_codec_Event : FnX Go.Proofs.Tryz.prog 16 D_codec_Event (fun x => codec_Event x.1) :=
  FnX.of (coL_ok (es := T_codec_Event) (OKs.mem ⟨E_codec_ip_ok, E_codec_block_ok, E_codec_holder_ok, trivial⟩)) mix (mkLs_ok (l := L_codec_Event) (by kernel_rfl)) (by kernel_rfl) Go.Proofs.Tryz.func16 rfl (by decide) (by decide) (fun x => by kernel_rfl)
noncomputable def E_codec_Event : Ent := ⟨16, D_codec_Event, fun x => codec_Event x.1, ([], ()), true⟩
theorem E_codec_Event_ok : E_codec_Event.OK Go.Proofs.Tryz.prog := ⟨ok_codec_Event, by kernel_rfl⟩
def D_terrierlaw19_awake : FD := ⟨[], [], [(0, .leaf .bool)], []⟩
def L_terrierlaw19_awake : List (Nat × StD × Nat × StD) := []
noncomputable def T_terrierlaw19_awake : List Ent := [E_codec_Event, E_codec_ReadState, E_codec_State, E_codec_ReadEvent]
theorem ok_terrierlaw19_awake : FnX Go.Proofs.Tryz.prog 6 D_terrierlaw19_awake (fun x => terrierlaw19_awake) :=
  FnX.of (coL_ok (es := T_terrierlaw19_awake) (OKs.mem ⟨E_codec_Event_ok, E_codec_ReadState_ok, E_codec_State_ok, E_codec_ReadEvent_ok, trivial⟩)) mix (mkLs_ok (l := L_terrierlaw19_awake) (by kernel_rfl)) (by kernel_rfl) Go.Proofs.Tryz.func6 rfl (by decide) (by decide) (fun x => by kernel_rfl)
noncomputable def E_terrierlaw19_awake : Ent := ⟨6, D_terrierlaw19_awake, fun x => terrierlaw19_awake, (false, ()), false⟩
theorem E_terrierlaw19_awake_ok : E_terrierlaw19_awake.OK Go.Proofs.Tryz.prog := ⟨ok_terrierlaw19_awake, by kernel_rfl⟩
def D_terrierlaw10_Choice_Config : FD := ⟨[(0, .grp (.pair (.int .u8) (.pair (.int .u8) (.pair (.int .u8) sMc))))], [], [(0, .grp sCf)], []⟩
def L_terrierlaw10_Choice_Config : List (Nat × StD × Nat × StD) := []
noncomputable def T_terrierlaw10_Choice_Config : List Ent := []
theorem ok_terrierlaw10_Choice_Config : FnX Go.Proofs.Tryz.prog 8 D_terrierlaw10_Choice_Config (fun x => terrierlaw10_Choice_Config x.1) :=
  FnX.of (coL_ok (es := T_terrierlaw10_Choice_Config) (OKs.mem trivial)) mix (mkLs_ok (l := L_terrierlaw10_Choice_Config) (by kernel_rfl)) (by kernel_rfl) Go.Proofs.Tryz.func8 rfl (by decide) (by decide) (fun x => by kernel_rfl)
noncomputable def E_terrierlaw10_Choice_Config : Ent := ⟨8, D_terrierlaw10_Choice_Config, fun x => terrierlaw10_Choice_Config x.1, (((0 : Int), ((0 : Int), ((0 : Int), ((0 : Int), ((0 : Int), ((0 : Int), ((0 : Int), ((0 : Int), (0 : Int))))))))), ()), false⟩
theorem E_terrierlaw10_Choice_Config_ok : E_terrierlaw10_Choice_Config.OK Go.Proofs.Tryz.prog := ⟨ok_terrierlaw10_Choice_Config, by kernel_rfl⟩
def D_terrierlaw11_Station : FD := ⟨[(0, .leaf (.int .u8))], [], [(0, .grp sMc)], []⟩
def L_terrierlaw11_Station : List (Nat × StD × Nat × StD) := []
noncomputable def T_terrierlaw11_Station : List Ent := []
theorem ok_terrierlaw11_Station : FnX Go.Proofs.Tryz.prog 87 D_terrierlaw11_Station (fun x => terrierlaw11_Station x.1) :=
  FnX.of (coL_ok (es := T_terrierlaw11_Station) (OKs.mem trivial)) mix (mkLs_ok (l := L_terrierlaw11_Station) (by kernel_rfl)) (by kernel_rfl) Go.Proofs.Tryz.func87 rfl (by decide) (by decide) (fun x => by kernel_rfl)
noncomputable def E_terrierlaw11_Station : Ent := ⟨87, D_terrierlaw11_Station, fun x => terrierlaw11_Station x.1, (((0 : Int), ((0 : Int), ((0 : Int), ((0 : Int), ((0 : Int), (0 : Int)))))), ()), false⟩
theorem E_terrierlaw11_Station_ok : E_terrierlaw11_Station.OK Go.Proofs.Tryz.prog := ⟨ok_terrierlaw11_Station, by kernel_rfl⟩
def D_terrierlaw01_Block : FD := ⟨[(0, .leaf (.int .u32)), (1, .leaf (.int .u8))], [], [(0, .grp sBk)], []⟩
def L_terrierlaw01_Block : List (Nat × StD × Nat × StD) := []
noncomputable def T_terrierlaw01_Block : List Ent := []
theorem ok_terrierlaw01_Block : FnX Go.Proofs.Tryz.prog 88 D_terrierlaw01_Block (fun x => terrierlaw01_Block x.1 x.2.1) :=
  FnX.of (coL_ok (es := T_terrierlaw01_Block) (OKs.mem trivial)) mix (mkLs_ok (l := L_terrierlaw01_Block) (by kernel_rfl)) (by kernel_rfl) Go.Proofs.Tryz.func88 rfl (by decide) (by decide) (fun x => by kernel_rfl)
noncomputable def E_terrierlaw01_Block : Ent := ⟨88, D_terrierlaw01_Block, fun x => terrierlaw01_Block x.1 x.2.1, (((0 : Int), (0 : Int)), ()), false⟩
theorem E_terrierlaw01_Block_ok : E_terrierlaw01_Block.OK Go.Proofs.Tryz.prog := ⟨ok_terrierlaw01_Block, by kernel_rfl⟩
def D_terrierlaw18_Act_Event : FD := ⟨[(0, .grp sMc)], [], [(0, .grp sEv)], []⟩
def L_terrierlaw18_Act_Event : List (Nat × StD × Nat × StD) := []
noncomputable def T_terrierlaw18_Act_Event : List Ent := [E_terrierlaw01_Block, E_terrierlaw11_Station]
theorem ok_terrierlaw18_Act_Event : FnX Go.Proofs.Tryz.prog 63 D_terrierlaw18_Act_Event (fun x => terrierlaw18_Act_Event x.1) :=
  FnX.of (coL_ok (es := T_terrierlaw18_Act_Event) (OKs.mem ⟨E_terrierlaw01_Block_ok, E_terrierlaw11_Station_ok, trivial⟩)) mix (mkLs_ok (l := L_terrierlaw18_Act_Event) (by kernel_rfl)) (by kernel_rfl) Go.Proofs.Tryz.func63 rfl (by decide) (by decide) (fun x => by kernel_rfl)
noncomputable def E_terrierlaw18_Act_Event : Ent := ⟨63, D_terrierlaw18_Act_Event, fun x => terrierlaw18_Act_Event x.1, (((0 : Int), (((0 : Int), ([], ((0 : Int), ((0 : Int), ((0 : Int), ((0 : Int), ((0 : Int), (0 : Int)))))))), (((0 : Int), (0 : Int)), ((0 : Int), (((0 : Int), ((0 : Int), ((0 : Int), ((0 : Int), ((0 : Int), (0 : Int)))))), (0 : Int)))))), ()), false⟩
theorem E_terrierlaw18_Act_Event_ok : E_terrierlaw18_Act_Event.OK Go.Proofs.Tryz.prog := ⟨ok_terrierlaw18_Act_Event, by kernel_rfl⟩
def D_terrierlaw18_Events : FD := ⟨[(0, .leaf (.sl sMc))], [], [(0, .leaf (.own 16 sEv))], [(16, .rows sEv)]⟩
def L_terrierlaw18_Events : List (Nat × StD × Nat × StD) := [(3, ⟨[(3, .leaf (.own 16 sEv)), (12, .leaf (.sl sMc)), (13, .leaf (.int .i64)), (14, .leaf (.int .i64))], [(16, .rows sEv)], 17, 43⟩, 0, ⟨[(3, .leaf (.own 16 sEv))], [(16, .rows sEv)], 17, 43⟩), (8, ⟨[(3, .leaf (.own 16 sEv)), (5, .leaf (.ptr 17 0)), (6, .leaf (.ptr 18 0)), (7, .leaf (.int .i64)), (12, .leaf (.sl sMc)), (13, .leaf (.int .i64)), (14, .leaf (.int .i64))], [(16, .rows sEv), (17, .cells [(.int .u8), (.int .u8), (.int .u8), (.int .u8), (.int .u8), (.int .u8)]), (18, .cells [(.int .i64), (.int .u32), .str, (.int .u8), (.int .u8), (.int .u8), (.int .u8), (.int .u8), (.int .u8), (.int .u32), (.int .i64), (.int .i64), (.int .u8), (.int .u8), (.int .u8), (.int .u8), (.int .u8), (.int .u8), (.int .i64)])], 19, 43⟩, 2, ⟨[(3, .leaf (.own 16 sEv)), (12, .leaf (.sl sMc)), (13, .leaf (.int .i64)), (14, .leaf (.int .i64))], [(16, .rows sEv)], 17, 43⟩)]
noncomputable def T_terrierlaw18_Events : List Ent := [E_terrierlaw18_Act_Event]
theorem ok_terrierlaw18_Events : FnX Go.Proofs.Tryz.prog 17 D_terrierlaw18_Events (fun x => terrierlaw18_Events x.1) :=
  FnX.of (coL_ok (es := T_terrierlaw18_Events) (OKs.mem ⟨E_terrierlaw18_Act_Event_ok, trivial⟩)) mix (mkLs_ok (l := L_terrierlaw18_Events) (by kernel_rfl)) (by kernel_rfl) Go.Proofs.Tryz.func17 rfl (by decide) (by decide) (fun x => by kernel_rfl)
noncomputable def E_terrierlaw18_Events : Ent := ⟨17, D_terrierlaw18_Events, fun x => terrierlaw18_Events x.1, ([], ()), false⟩
theorem E_terrierlaw18_Events_ok : E_terrierlaw18_Events.OK Go.Proofs.Tryz.prog := ⟨ok_terrierlaw18_Events, by kernel_rfl⟩
def D_clock_Add : FD := ⟨[(0, .leaf (.int .i64)), (1, .leaf (.int .i64))], [], [(0, .leaf (.int .i64))], []⟩
def L_clock_Add : List (Nat × StD × Nat × StD) := []
noncomputable def T_clock_Add : List Ent := [E_clock_Clamp]
theorem ok_clock_Add : FnX Go.Proofs.Tryz.prog 89 D_clock_Add (fun x => clock_Add x.1 x.2.1) :=
  FnX.of (coL_ok (es := T_clock_Add) (OKs.mem ⟨E_clock_Clamp_ok, trivial⟩)) mix (mkLs_ok (l := L_clock_Add) (by kernel_rfl)) (by kernel_rfl) Go.Proofs.Tryz.func89 rfl (by decide) (by decide) (fun x => by kernel_rfl)
noncomputable def E_clock_Add : Ent := ⟨89, D_clock_Add, fun x => clock_Add x.1 x.2.1, ((0 : Int), ()), false⟩
theorem E_clock_Add_ok : E_clock_Add.OK Go.Proofs.Tryz.prog := ⟨ok_clock_Add, by kernel_rfl⟩
def D_slices_Clone_Case : FD := D_Clone sCa
theorem ok_slices_Clone_Case : FnX Go.Proofs.Tryz.prog 114 D_slices_Clone_Case (fun x => slices_Clone_Case x.1) :=
  X_Clone ⟨_, Go.Proofs.Tryz.func114, by decide, rfl⟩ Go.Proofs.Tryz.gclone114 rfl (by kernel_rfl) (by decide) (by decide) Go.Proofs.Tryz.sizeOf95
noncomputable def E_slices_Clone_Case : Ent := ⟨114, D_slices_Clone_Case, fun x => slices_Clone_Case x.1, ([], ()), false⟩
theorem E_slices_Clone_Case_ok : E_slices_Clone_Case.OK Go.Proofs.Tryz.prog := ⟨ok_slices_Clone_Case, by kernel_rfl⟩
def D_clock_Since : FD := ⟨[(0, .leaf (.int .i64)), (1, .leaf (.int .i64))], [], [(0, .leaf (.int .i64))], []⟩
def L_clock_Since : List (Nat × StD × Nat × StD) := []
noncomputable def T_clock_Since : List Ent := [E_clock_Clamp]
theorem ok_clock_Since : FnX Go.Proofs.Tryz.prog 115 D_clock_Since (fun x => clock_Since x.1 x.2.1) :=
  FnX.of (coL_ok (es := T_clock_Since) (OKs.mem ⟨E_clock_Clamp_ok, trivial⟩)) mix (mkLs_ok (l := L_clock_Since) (by kernel_rfl)) (by kernel_rfl) Go.Proofs.Tryz.func115 rfl (by decide) (by decide) (fun x => by kernel_rfl)
noncomputable def E_clock_Since : Ent := ⟨115, D_clock_Since, fun x => clock_Since x.1 x.2.1, ((0 : Int), ()), false⟩
theorem E_clock_Since_ok : E_clock_Since.OK Go.Proofs.Tryz.prog := ⟨ok_clock_Since, by kernel_rfl⟩
def D_cases_Tick : FD := ⟨[(0, .grp sCf), (1, .leaf (.sl sCa)), (2, .leaf (.int .i64))], [], [(0, .leaf (.own 16 sCa))], [(16, .rows sCa)]⟩
def L_cases_Tick : List (Nat × StD × Nat × StD) := [(3, ⟨[(2, .leaf (.int .i64)), (3, .leaf (.ptr 16 0)), (7, .leaf (.own 17 sCa)), (12, .leaf (.own 17 sCa)), (13, .leaf (.int .i64)), (14, .leaf (.int .i64))], [(16, .grp sCf), (17, .rows sCa)], 18, 43⟩, 0, ⟨[(7, .leaf (.own 16 sCa))], [(16, .rows sCa)], 17, 43⟩)]
noncomputable def T_cases_Tick : List Ent := [E_clock_Clamp, E_clock_Since, E_slices_Clone_Case]
theorem ok_cases_Tick : FnX Go.Proofs.Tryz.prog 90 D_cases_Tick (fun x => cases_Tick x.1 x.2.1 x.2.2.1) :=
  FnX.of (coL_ok (es := T_cases_Tick) (OKs.mem ⟨E_clock_Clamp_ok, E_clock_Since_ok, E_slices_Clone_Case_ok, trivial⟩)) mix (mkLs_ok (l := L_cases_Tick) (by kernel_rfl)) (by kernel_rfl) Go.Proofs.Tryz.func90 rfl (by decide) (by decide) (fun x => by kernel_rfl)
noncomputable def E_cases_Tick : Ent := ⟨90, D_cases_Tick, fun x => cases_Tick x.1 x.2.1 x.2.2.1, ([], ()), false⟩
theorem E_cases_Tick_ok : E_cases_Tick.OK Go.Proofs.Tryz.prog := ⟨ok_cases_Tick, by kernel_rfl⟩
def D_held_find_1 : FD := ⟨[(0, .leaf (.int .i64)), (1, .leaf (.fpt (.sl sHd) 0)), (2, .leaf (.fpt (.int .u32) 0))], [], [(0, .leaf .bool)], []⟩
def L_held_find_1 : List (Nat × StD × Nat × StD) := []
noncomputable def T_held_find_1 : List Ent := []
theorem ok_held_find_1 : FnX Go.Proofs.Tryz.prog 130 D_held_find_1 (fun x => held_find_1 x.1 x.2.1 x.2.2.1) :=
  FnX.of (coL_ok (es := T_held_find_1) (OKs.mem trivial)) mix (mkLs_ok (l := L_held_find_1) (by kernel_rfl)) (by kernel_rfl) Go.Proofs.Tryz.func130 rfl (by decide) (by decide) (fun x => by kernel_rfl)
noncomputable def E_held_find_1 : Ent := ⟨130, D_held_find_1, fun x => held_find_1 x.1 x.2.1 x.2.2.1, (false, ()), false⟩
theorem E_held_find_1_ok : E_held_find_1.OK Go.Proofs.Tryz.prog := ⟨ok_held_find_1, by kernel_rfl⟩
def D_sort_Search : FD := ⟨[(0, .leaf (.int .i64)), (1, .fn 130 [] [(.fpt (.sl sHd) 0), (.fpt (.int .u32) 0)])], [], [(0, .leaf (.int .i64))], []⟩
def L_sort_Search : List (Nat × StD × Nat × StD) := [(2, ⟨[(1, .fn 130 [] [(.fpt (.sl sHd) 0), (.fpt (.int .u32) 0)]), (5, .leaf (.int .i64)), (6, .leaf (.int .i64))], [], 16, 26⟩, 0, ⟨[(5, .leaf (.int .i64))], [], 16, 26⟩)]
noncomputable def T_sort_Search : List Ent := [E_held_find_1]
theorem ok_sort_Search : FnX Go.Proofs.Tryz.prog 129 D_sort_Search (fun x => sort_Search x.1 x.2.1 x.2.2.1) :=
  FnX.of (coL_ok (es := T_sort_Search) (OKs.mem ⟨E_held_find_1_ok, trivial⟩)) mix (mkLs_ok (l := L_sort_Search) (by kernel_rfl)) (by kernel_rfl) Go.Proofs.Tryz.func129 rfl (by decide) (by decide) (fun x => by kernel_rfl)
noncomputable def E_sort_Search : Ent := ⟨129, D_sort_Search, fun x => sort_Search x.1 x.2.1 x.2.2.1, ((0 : Int), ()), false⟩
theorem E_sort_Search_ok : E_sort_Search.OK Go.Proofs.Tryz.prog := ⟨ok_sort_Search, by kernel_rfl⟩
def D_held_find : FD := ⟨[(0, .leaf (.sl sHd)), (1, .leaf (.int .u32))], [], [(0, .leaf (.int .i64)), (1, .leaf .bool)], []⟩
def L_held_find : List (Nat × StD × Nat × StD) := []
noncomputable def T_held_find : List Ent := [E_sort_Search]
theorem ok_held_find : FnX Go.Proofs.Tryz.prog 95 D_held_find (fun x => held_find x.1 x.2.1) :=
  FnX.of (coL_ok (es := T_held_find) (OKs.mem ⟨E_sort_Search_ok, trivial⟩)) mix (mkLs_ok (l := L_held_find) (by kernel_rfl)) (by kernel_rfl) Go.Proofs.Tryz.func95 rfl (by decide) (by decide) (fun x => by kernel_rfl)
noncomputable def E_held_find : Ent := ⟨95, D_held_find, fun x => held_find x.1 x.2.1, ((0 : Int), (false, ())), false⟩
theorem E_held_find_ok : E_held_find.OK Go.Proofs.Tryz.prog := ⟨ok_held_find, by kernel_rfl⟩
def D_held_Get : FD := ⟨[(0, .leaf (.sl sHd)), (1, .leaf (.int .u32))], [], [(0, .grp sHd), (1, .leaf .bool)], []⟩
def L_held_Get : List (Nat × StD × Nat × StD) := []
noncomputable def T_held_Get : List Ent := [E_held_find]
theorem ok_held_Get : FnX Go.Proofs.Tryz.prog 123 D_held_Get (fun x => held_Get x.1 x.2.1) :=
  FnX.of (coL_ok (es := T_held_Get) (OKs.mem ⟨E_held_find_ok, trivial⟩)) mix (mkLs_ok (l := L_held_Get) (by kernel_rfl)) (by kernel_rfl) Go.Proofs.Tryz.func123 rfl (by decide) (by decide) (fun x => by kernel_rfl)
noncomputable def E_held_Get : Ent := ⟨123, D_held_Get, fun x => held_Get x.1 x.2.1, (((0 : Int), ([], ((0 : Int), ((0 : Int), ((0 : Int), ((0 : Int), ((0 : Int), (0 : Int)))))))), (false, ())), false⟩
theorem E_held_Get_ok : E_held_Get.OK Go.Proofs.Tryz.prog := ⟨ok_held_Get, by kernel_rfl⟩
def D_seen_find_1 : FD := ⟨[(0, .leaf (.int .i64)), (1, .leaf (.fpt (.sl sKn) 0)), (2, .leaf (.fpt (.int .u32) 0))], [], [(0, .leaf .bool)], []⟩
def L_seen_find_1 : List (Nat × StD × Nat × StD) := []
noncomputable def T_seen_find_1 : List Ent := []
theorem ok_seen_find_1 : FnX Go.Proofs.Tryz.prog 157 D_seen_find_1 (fun x => seen_find_1 x.1 x.2.1 x.2.2.1) :=
  FnX.of (coL_ok (es := T_seen_find_1) (OKs.mem trivial)) mix (mkLs_ok (l := L_seen_find_1) (by kernel_rfl)) (by kernel_rfl) Go.Proofs.Tryz.func157 rfl (by decide) (by decide) (fun x => by kernel_rfl)
noncomputable def E_seen_find_1 : Ent := ⟨157, D_seen_find_1, fun x => seen_find_1 x.1 x.2.1 x.2.2.1, (false, ()), false⟩
theorem E_seen_find_1_ok : E_seen_find_1.OK Go.Proofs.Tryz.prog := ⟨ok_seen_find_1, by kernel_rfl⟩
def D_sort_Search_v1 : FD := ⟨[(0, .leaf (.int .i64)), (1, .fn 157 [] [(.fpt (.sl sKn) 0), (.fpt (.int .u32) 0)])], [], [(0, .leaf (.int .i64))], []⟩
def L_sort_Search_v1 : List (Nat × StD × Nat × StD) := [(2, ⟨[(1, .fn 157 [] [(.fpt (.sl sKn) 0), (.fpt (.int .u32) 0)]), (5, .leaf (.int .i64)), (6, .leaf (.int .i64))], [], 16, 26⟩, 0, ⟨[(5, .leaf (.int .i64))], [], 16, 26⟩)]
noncomputable def T_sort_Search_v1 : List Ent := [E_seen_find_1]
theorem ok_sort_Search_v1 : FnX Go.Proofs.Tryz.prog 129 D_sort_Search_v1 (fun x => sort_Search_v1 x.1 x.2.1 x.2.2.1) :=
  FnX.of (coL_ok (es := T_sort_Search_v1) (OKs.mem ⟨E_seen_find_1_ok, trivial⟩)) mix (mkLs_ok (l := L_sort_Search_v1) (by kernel_rfl)) (by kernel_rfl) Go.Proofs.Tryz.func129 rfl (by decide) (by decide) (fun x => by kernel_rfl)
noncomputable def E_sort_Search_v1 : Ent := ⟨129, D_sort_Search_v1, fun x => sort_Search_v1 x.1 x.2.1 x.2.2.1, ((0 : Int), ()), false⟩
theorem E_sort_Search_v1_ok : E_sort_Search_v1.OK Go.Proofs.Tryz.prog := ⟨ok_sort_Search_v1, by kernel_rfl⟩
def D_seen_find : FD := ⟨[(0, .leaf (.sl sKn)), (1, .leaf (.int .u32))], [], [(0, .leaf (.int .i64)), (1, .leaf .bool)], []⟩
def L_seen_find : List (Nat × StD × Nat × StD) := []
noncomputable def T_seen_find : List Ent := [E_sort_Search_v1]
theorem ok_seen_find : FnX Go.Proofs.Tryz.prog 136 D_seen_find (fun x => seen_find x.1 x.2.1) :=
  FnX.of (coL_ok (es := T_seen_find) (OKs.mem ⟨E_sort_Search_v1_ok, trivial⟩)) mix (mkLs_ok (l := L_seen_find) (by kernel_rfl)) (by kernel_rfl) Go.Proofs.Tryz.func136 rfl (by decide) (by decide) (fun x => by kernel_rfl)
noncomputable def E_seen_find : Ent := ⟨136, D_seen_find, fun x => seen_find x.1 x.2.1, ((0 : Int), (false, ())), false⟩
theorem E_seen_find_ok : E_seen_find.OK Go.Proofs.Tryz.prog := ⟨ok_seen_find, by kernel_rfl⟩
def D_seen_Of : FD := ⟨[(0, .leaf (.sl sKn)), (1, .leaf (.int .u32))], [], [(0, .leaf (.own 16 sSg))], [(16, .rows sSg)]⟩
def L_seen_Of : List (Nat × StD × Nat × StD) := []
noncomputable def T_seen_Of : List Ent := [E_seen_find]
theorem ok_seen_Of : FnX Go.Proofs.Tryz.prog 143 D_seen_Of (fun x => seen_Of x.1 x.2.1) :=
  FnX.of (coL_ok (es := T_seen_Of) (OKs.mem ⟨E_seen_find_ok, trivial⟩)) mix (mkLs_ok (l := L_seen_Of) (by kernel_rfl)) (by kernel_rfl) Go.Proofs.Tryz.func143 rfl (by decide) (by decide) (fun x => by kernel_rfl)
noncomputable def E_seen_Of : Ent := ⟨143, D_seen_Of, fun x => seen_Of x.1 x.2.1, ([], ()), false⟩
theorem E_seen_Of_ok : E_seen_Of.OK Go.Proofs.Tryz.prog := ⟨ok_seen_Of, by kernel_rfl⟩
def D_clock_Within : FD := ⟨[(0, .leaf (.int .i64)), (1, .leaf (.int .i64)), (2, .leaf (.int .i64))], [], [(0, .leaf .bool)], []⟩
def L_clock_Within : List (Nat × StD × Nat × StD) := []
noncomputable def T_clock_Within : List Ent := [E_clock_Since]
theorem ok_clock_Within : FnX Go.Proofs.Tryz.prog 125 D_clock_Within (fun x => clock_Within x.1 x.2.1 x.2.2.1) :=
  FnX.of (coL_ok (es := T_clock_Within) (OKs.mem ⟨E_clock_Since_ok, trivial⟩)) mix (mkLs_ok (l := L_clock_Within) (by kernel_rfl)) (by kernel_rfl) Go.Proofs.Tryz.func125 rfl (by decide) (by decide) (fun x => by kernel_rfl)
noncomputable def E_clock_Within : Ent := ⟨125, D_clock_Within, fun x => clock_Within x.1 x.2.1 x.2.2.1, (false, ()), false⟩
theorem E_clock_Within_ok : E_clock_Within.OK Go.Proofs.Tryz.prog := ⟨ok_clock_Within, by kernel_rfl⟩
def D_status_fresh : FD := ⟨[(0, .grp sCf), (1, .leaf (.sl sSg)), (2, .leaf (.int .i64))], [], [(0, .leaf (.own 16 sSg))], [(16, .rows sSg)]⟩
def L_status_fresh : List (Nat × StD × Nat × StD) := [(3, ⟨[(2, .leaf (.int .i64)), (3, .leaf (.ptr 16 0)), (7, .leaf (.own 17 sSg)), (19, .leaf (.sl sSg)), (20, .leaf (.int .i64)), (21, .leaf (.int .i64))], [(17, .rows sSg), (16, .grp sCf)], 18, 37⟩, 0, ⟨[(7, .leaf (.own 16 sSg))], [(16, .rows sSg)], 17, 37⟩)]
noncomputable def T_status_fresh : List Ent := [E_clock_Within]
theorem ok_status_fresh : FnX Go.Proofs.Tryz.prog 160 D_status_fresh (fun x => status_fresh x.1 x.2.1 x.2.2.1) :=
  FnX.of (coL_ok (es := T_status_fresh) (OKs.mem ⟨E_clock_Within_ok, trivial⟩)) mix (mkLs_ok (l := L_status_fresh) (by kernel_rfl)) (by kernel_rfl) Go.Proofs.Tryz.func160 rfl (by decide) (by decide) (fun x => by kernel_rfl)
noncomputable def E_status_fresh : Ent := ⟨160, D_status_fresh, fun x => status_fresh x.1 x.2.1 x.2.2.1, ([], ()), false⟩
theorem E_status_fresh_ok : E_status_fresh.OK Go.Proofs.Tryz.prog := ⟨ok_status_fresh, by kernel_rfl⟩
def D_mac_None : FD := ⟨[(0, .grp sMc)], [], [(0, .leaf .bool)], []⟩
def L_mac_None : List (Nat × StD × Nat × StD) := []
noncomputable def T_mac_None : List Ent := []
theorem ok_mac_None : FnX Go.Proofs.Tryz.prog 171 D_mac_None (fun x => mac_None x.1) :=
  FnX.of (coL_ok (es := T_mac_None) (OKs.mem trivial)) mix (mkLs_ok (l := L_mac_None) (by kernel_rfl)) (by kernel_rfl) Go.Proofs.Tryz.func171 rfl (by decide) (by decide) (fun x => by kernel_rfl)
noncomputable def E_mac_None : Ent := ⟨171, D_mac_None, fun x => mac_None x.1, (false, ()), false⟩
theorem E_mac_None_ok : E_mac_None.OK Go.Proofs.Tryz.prog := ⟨ok_mac_None, by kernel_rfl⟩
def D_status_apart : FD := ⟨[(0, .leaf (.sl sSg))], [], [(0, .leaf .bool)], []⟩
def L_status_apart : List (Nat × StD × Nat × StD) := [(3, ⟨[(3, .leaf (.ptr 16 0)), (6, .leaf (.sl sSg)), (7, .leaf (.int .i64)), (8, .leaf (.int .i64))], [(16, .cells [(.int .u8), (.int .u8), (.int .u8), (.int .u8), (.int .u8), (.int .u8)])], 17, 27⟩, 0, ⟨[], [], 16, 27⟩)]
noncomputable def T_status_apart : List Ent := [E_mac_None]
theorem ok_status_apart : FnX Go.Proofs.Tryz.prog 161 D_status_apart (fun x => status_apart x.1) :=
  FnX.of (coL_ok (es := T_status_apart) (OKs.mem ⟨E_mac_None_ok, trivial⟩)) mix (mkLs_ok (l := L_status_apart) (by kernel_rfl)) (by kernel_rfl) Go.Proofs.Tryz.func161 rfl (by decide) (by decide) (fun x => by kernel_rfl)
noncomputable def E_status_apart : Ent := ⟨161, D_status_apart, fun x => status_apart x.1, (false, ()), false⟩
theorem E_status_apart_ok : E_status_apart.OK Go.Proofs.Tryz.prog := ⟨ok_status_apart, by kernel_rfl⟩
def D_status_foreign : FD := ⟨[(0, .grp sHd), (1, .leaf (.sl sSg))], [], [(0, .leaf .bool)], []⟩
def L_status_foreign : List (Nat × StD × Nat × StD) := [(2, ⟨[(2, .leaf (.ptr 16 0)), (7, .leaf (.sl sSg)), (8, .leaf (.int .i64)), (9, .leaf (.int .i64))], [(16, .cells [(.int .u32), .str, (.int .u8), (.int .u8), (.int .u8), (.int .u8), (.int .u8), (.int .u8)])], 17, 31⟩, 0, ⟨[], [], 16, 31⟩)]
noncomputable def T_status_foreign : List Ent := [E_mac_None]
theorem ok_status_foreign : FnX Go.Proofs.Tryz.prog 162 D_status_foreign (fun x => status_foreign x.1 x.2.1) :=
  FnX.of (coL_ok (es := T_status_foreign) (OKs.mem ⟨E_mac_None_ok, trivial⟩)) mix (mkLs_ok (l := L_status_foreign) (by kernel_rfl)) (by kernel_rfl) Go.Proofs.Tryz.func162 rfl (by decide) (by decide) (fun x => by kernel_rfl)
noncomputable def E_status_foreign : Ent := ⟨162, D_status_foreign, fun x => status_foreign x.1 x.2.1, (false, ()), false⟩
theorem E_status_foreign_ok : E_status_foreign.OK Go.Proofs.Tryz.prog := ⟨ok_status_foreign, by kernel_rfl⟩
def D_status_Of : FD := ⟨[(0, .grp sCf), (1, .leaf (.fpt sHd 0)), (2, .leaf (.sl sSg)), (3, .leaf (.int .i64))], [], [(0, .leaf (.int .i64))], []⟩
def L_status_Of : List (Nat × StD × Nat × StD) := []
noncomputable def T_status_Of : List Ent := [E_clock_Within, E_status_foreign, E_status_apart, E_status_fresh]
theorem ok_status_Of : FnX Go.Proofs.Tryz.prog 142 D_status_Of (fun x => status_Of x.1 x.2.1 x.2.2.1 x.2.2.2.1) :=
  FnX.of (coL_ok (es := T_status_Of) (OKs.mem ⟨E_clock_Within_ok, E_status_foreign_ok, E_status_apart_ok, E_status_fresh_ok, trivial⟩)) mix (mkLs_ok (l := L_status_Of) (by kernel_rfl)) (by kernel_rfl) Go.Proofs.Tryz.func142 rfl (by decide) (by decide) (fun x => by kernel_rfl)
noncomputable def E_status_Of : Ent := ⟨142, D_status_Of, fun x => status_Of x.1 x.2.1 x.2.2.1 x.2.2.2.1, ((0 : Int), ()), false⟩
theorem E_status_Of_ok : E_status_Of.OK Go.Proofs.Tryz.prog := ⟨ok_status_Of, by kernel_rfl⟩
def D_status_Of_v1 : FD := ⟨[(0, .grp sCf), (1, .leaf .nilp), (2, .leaf (.sl sSg)), (3, .leaf (.int .i64))], [], [(0, .leaf (.int .i64))], []⟩
def L_status_Of_v1 : List (Nat × StD × Nat × StD) := []
noncomputable def T_status_Of_v1 : List Ent := [E_clock_Within, E_status_foreign, E_status_apart, E_status_fresh]
theorem ok_status_Of_v1 : FnX Go.Proofs.Tryz.prog 142 D_status_Of_v1 (fun x => status_Of_v1 x.1 x.2.1 x.2.2.1) :=
  FnX.of (coL_ok (es := T_status_Of_v1) (OKs.mem ⟨E_clock_Within_ok, E_status_foreign_ok, E_status_apart_ok, E_status_fresh_ok, trivial⟩)) mix (mkLs_ok (l := L_status_Of_v1) (by kernel_rfl)) (by kernel_rfl) Go.Proofs.Tryz.func142 rfl (by decide) (by decide) (fun x => by kernel_rfl)
noncomputable def E_status_Of_v1 : Ent := ⟨142, D_status_Of_v1, fun x => status_Of_v1 x.1 x.2.1 x.2.2.1, ((0 : Int), ()), false⟩
theorem E_status_Of_v1_ok : E_status_Of_v1.OK Go.Proofs.Tryz.prog := ⟨ok_status_Of_v1, by kernel_rfl⟩
def D_ops_Status : FD := ⟨[(0, .grp sCf), (1, .grp sSt), (2, .leaf (.int .u32))], [], [(0, .leaf (.int .i64))], []⟩
def L_ops_Status : List (Nat × StD × Nat × StD) := []
noncomputable def T_ops_Status : List Ent := [E_status_Of_v1, E_status_Of, E_seen_Of, E_held_Get]
theorem ok_ops_Status : FnX Go.Proofs.Tryz.prog 126 D_ops_Status (fun x => ops_Status x.1 x.2.1 x.2.2.1) :=
  FnX.of (coL_ok (es := T_ops_Status) (OKs.mem ⟨E_status_Of_v1_ok, E_status_Of_ok, E_seen_Of_ok, E_held_Get_ok, trivial⟩)) mix (mkLs_ok (l := L_ops_Status) (by kernel_rfl)) (by kernel_rfl) Go.Proofs.Tryz.func126 rfl (by decide) (by decide) (fun x => by kernel_rfl)
noncomputable def E_ops_Status : Ent := ⟨126, D_ops_Status, fun x => ops_Status x.1 x.2.1 x.2.2.1, ((0 : Int), ()), false⟩
theorem E_ops_Status_ok : E_ops_Status.OK Go.Proofs.Tryz.prog := ⟨ok_ops_Status, by kernel_rfl⟩
def D_cases_next : FD := ⟨[(0, .leaf (.sl sCa)), (1, .leaf (.int .u32)), (2, .leaf (.int .i64)), (3, .leaf (.int .i64)), (4, .leaf (.int .i64))], [], [(0, .leaf (.own 16 sCa)), (1, .leaf (.int .i64))], [(16, .rows sCa)]⟩
def L_cases_next : List (Nat × StD × Nat × StD) := []
noncomputable def T_cases_next : List Ent := [E_clock_Clamp, E_cases_Open, E_slices_Clone_Case, E_cases_Find]
theorem ok_cases_next : FnX Go.Proofs.Tryz.prog 108 D_cases_next (fun x => cases_next x.1 x.2.1 x.2.2.1 x.2.2.2.1 x.2.2.2.2.1) :=
  FnX.of (coL_ok (es := T_cases_next) (OKs.mem ⟨E_clock_Clamp_ok, E_cases_Open_ok, E_slices_Clone_Case_ok, E_cases_Find_ok, trivial⟩)) mix (mkLs_ok (l := L_cases_next) (by kernel_rfl)) (by kernel_rfl) Go.Proofs.Tryz.func108 rfl (by decide) (by decide) (fun x => by kernel_rfl)
noncomputable def E_cases_next : Ent := ⟨108, D_cases_next, fun x => cases_next x.1 x.2.1 x.2.2.1 x.2.2.2.1 x.2.2.2.2.1, ((0 : Int), ([], ())), false⟩
theorem E_cases_next_ok : E_cases_next.OK Go.Proofs.Tryz.prog := ⟨ok_cases_next, by kernel_rfl⟩
def D_cases_Cancel : FD := ⟨[(0, .leaf (.sl sCa)), (1, .leaf (.int .u32)), (2, .leaf (.int .i64))], [], [(0, .leaf (.own 16 sCa)), (1, .leaf (.int .i64))], [(16, .rows sCa)]⟩
def L_cases_Cancel : List (Nat × StD × Nat × StD) := []
noncomputable def T_cases_Cancel : List Ent := [E_cases_next, E_cases_Find]
theorem ok_cases_Cancel : FnX Go.Proofs.Tryz.prog 97 D_cases_Cancel (fun x => cases_Cancel x.1 x.2.1 x.2.2.1) :=
  FnX.of (coL_ok (es := T_cases_Cancel) (OKs.mem ⟨E_cases_next_ok, E_cases_Find_ok, trivial⟩)) mix (mkLs_ok (l := L_cases_Cancel) (by kernel_rfl)) (by kernel_rfl) Go.Proofs.Tryz.func97 rfl (by decide) (by decide) (fun x => by kernel_rfl)
noncomputable def E_cases_Cancel : Ent := ⟨97, D_cases_Cancel, fun x => cases_Cancel x.1 x.2.1 x.2.2.1, ((0 : Int), ([], ())), false⟩
theorem E_cases_Cancel_ok : E_cases_Cancel.OK Go.Proofs.Tryz.prog := ⟨ok_cases_Cancel, by kernel_rfl⟩
def D_cases_Done : FD := ⟨[(0, .leaf (.sl sCa)), (1, .leaf (.int .u32)), (2, .leaf (.int .i64))], [], [(0, .leaf (.own 16 sCa)), (1, .leaf (.int .i64))], [(16, .rows sCa)]⟩
def L_cases_Done : List (Nat × StD × Nat × StD) := []
noncomputable def T_cases_Done : List Ent := [E_cases_next]
theorem ok_cases_Done : FnX Go.Proofs.Tryz.prog 128 D_cases_Done (fun x => cases_Done x.1 x.2.1 x.2.2.1) :=
  FnX.of (coL_ok (es := T_cases_Done) (OKs.mem ⟨E_cases_next_ok, trivial⟩)) mix (mkLs_ok (l := L_cases_Done) (by kernel_rfl)) (by kernel_rfl) Go.Proofs.Tryz.func128 rfl (by decide) (by decide) (fun x => by kernel_rfl)
noncomputable def E_cases_Done : Ent := ⟨128, D_cases_Done, fun x => cases_Done x.1 x.2.1 x.2.2.1, ((0 : Int), ([], ())), false⟩
theorem E_cases_Done_ok : E_cases_Done.OK Go.Proofs.Tryz.prog := ⟨ok_cases_Done, by kernel_rfl⟩
def D_held_Take : FD := ⟨[(0, .leaf (.sl sHd)), (1, .leaf (.int .u32))], [], [(0, .leaf (.own 16 sHd)), (1, .leaf (.int .i64))], [(16, .rows sHd)]⟩
def L_held_Take : List (Nat × StD × Nat × StD) := []
noncomputable def T_held_Take : List Ent := [E_held_find]
theorem ok_held_Take : FnX Go.Proofs.Tryz.prog 96 D_held_Take (fun x => held_Take x.1 x.2.1) :=
  FnX.of (coL_ok (es := T_held_Take) (OKs.mem ⟨E_held_find_ok, trivial⟩)) mix (mkLs_ok (l := L_held_Take) (by kernel_rfl)) (by kernel_rfl) Go.Proofs.Tryz.func96 rfl (by decide) (by decide) (fun x => by kernel_rfl)
noncomputable def E_held_Take : Ent := ⟨96, D_held_Take, fun x => held_Take x.1 x.2.1, ((0 : Int), ([], ())), false⟩
theorem E_held_Take_ok : E_held_Take.OK Go.Proofs.Tryz.prog := ⟨ok_held_Take, by kernel_rfl⟩
def D_ops_execute : FD := ⟨[(0, .grp sCf), (1, .grp sSt)], [], [(0, .grp sSt)], []⟩
def L_ops_execute : List (Nat × StD × Nat × StD) := [(2, ⟨[(2, .leaf (.ptr 16 0)), (3, .leaf (.ptr 17 0)), (4, .leaf (.ptr 18 0)), (8, .leaf (.sl sCa)), (9, .leaf (.int .i64)), (10, .leaf (.int .i64))], [(16, .grp sCf), (17, .grp sSt), (18, .grp sSt)], 19, 56⟩, 0, ⟨[(3, .leaf (.ptr 16 0)), (4, .leaf (.ptr 17 0))], [(16, .grp sSt), (17, .grp sSt)], 18, 56⟩)]
noncomputable def T_ops_execute : List Ent := [E_held_Take, E_cases_Done, E_cases_Cancel, E_ops_Status]
theorem ok_ops_execute : FnX Go.Proofs.Tryz.prog 94 D_ops_execute (fun x => ops_execute x.1 x.2.1) :=
  FnX.of (coL_ok (es := T_ops_execute) (OKs.mem ⟨E_held_Take_ok, E_cases_Done_ok, E_cases_Cancel_ok, E_ops_Status_ok, trivial⟩)) mix (mkLs_ok (l := L_ops_execute) (by kernel_rfl)) (by kernel_rfl) Go.Proofs.Tryz.func94 rfl (by decide) (by decide) (fun x => by kernel_rfl)
noncomputable def E_ops_execute : Ent := ⟨94, D_ops_execute, fun x => ops_execute x.1 x.2.1, (((0 : Int), ((0 : Int), ([], ([], ([], ([], [])))))), ()), true⟩
theorem E_ops_execute_ok : E_ops_execute.OK Go.Proofs.Tryz.prog := ⟨ok_ops_execute, by kernel_rfl⟩
def D_cases_quiet_1 : FD := ⟨[(0, .grp sCa), (1, .leaf (.fpt (.int .u32) 0)), (2, .leaf (.fpt (.int .i64) 0)), (3, .leaf (.fpt sCf 0))], [], [(0, .leaf .bool)], []⟩
def L_cases_quiet_1 : List (Nat × StD × Nat × StD) := []
noncomputable def T_cases_quiet_1 : List Ent := [E_clock_Within]
theorem ok_cases_quiet_1 : FnX Go.Proofs.Tryz.prog 164 D_cases_quiet_1 (fun x => cases_quiet_1 x.1 x.2.1 x.2.2.1 x.2.2.2.1) :=
  FnX.of (coL_ok (es := T_cases_quiet_1) (OKs.mem ⟨E_clock_Within_ok, trivial⟩)) mix (mkLs_ok (l := L_cases_quiet_1) (by kernel_rfl)) (by kernel_rfl) Go.Proofs.Tryz.func164 rfl (by decide) (by decide) (fun x => by kernel_rfl)
noncomputable def E_cases_quiet_1 : Ent := ⟨164, D_cases_quiet_1, fun x => cases_quiet_1 x.1 x.2.1 x.2.2.1 x.2.2.2.1, (false, ()), false⟩
theorem E_cases_quiet_1_ok : E_cases_quiet_1.OK Go.Proofs.Tryz.prog := ⟨ok_cases_quiet_1, by kernel_rfl⟩
def D_slices_IndexFunc_v1_w2 : FD := ⟨[(0, .leaf (.sl sCa)), (1, .fn 164 [] [(.fpt (.int .u32) 0), (.fpt (.int .i64) 0), (.fpt sCf 0)])], [], [(0, .leaf (.int .i64))], []⟩
def L_slices_IndexFunc_v1_w2 : List (Nat × StD × Nat × StD) := [(2, ⟨[(0, .leaf (.sl sCa)), (1, .fn 164 [] [(.fpt (.int .u32) 0), (.fpt (.int .i64) 0), (.fpt sCf 0)]), (7, .leaf (.int .i64)), (8, .leaf (.int .i64))], [], 16, 19⟩, 0, ⟨[], [], 16, 19⟩)]
noncomputable def T_slices_IndexFunc_v1_w2 : List Ent := [E_cases_quiet_1]
theorem ok_slices_IndexFunc_v1_w2 : FnX Go.Proofs.Tryz.prog 112 D_slices_IndexFunc_v1_w2 (fun x => slices_IndexFunc_v1_w2 x.1 x.2.1 x.2.2.1 x.2.2.2.1) :=
  FnX.of (coL_ok (es := T_slices_IndexFunc_v1_w2) (OKs.mem ⟨E_cases_quiet_1_ok, trivial⟩)) mix (mkLs_ok (l := L_slices_IndexFunc_v1_w2) (by kernel_rfl)) (by kernel_rfl) Go.Proofs.Tryz.func112 rfl (by decide) (by decide) (fun x => by kernel_rfl)
noncomputable def E_slices_IndexFunc_v1_w2 : Ent := ⟨112, D_slices_IndexFunc_v1_w2, fun x => slices_IndexFunc_v1_w2 x.1 x.2.1 x.2.2.1 x.2.2.2.1, ((0 : Int), ()), false⟩
theorem E_slices_IndexFunc_v1_w2_ok : E_slices_IndexFunc_v1_w2.OK Go.Proofs.Tryz.prog := ⟨ok_slices_IndexFunc_v1_w2, by kernel_rfl⟩
def D_slices_ContainsFunc_w2 : FD := ⟨[(0, .leaf (.sl sCa)), (1, .fn 164 [] [(.fpt (.int .u32) 0), (.fpt (.int .i64) 0), (.fpt sCf 0)])], [], [(0, .leaf .bool)], []⟩
def L_slices_ContainsFunc_w2 : List (Nat × StD × Nat × StD) := []
noncomputable def T_slices_ContainsFunc_w2 : List Ent := [E_slices_IndexFunc_v1_w2]
theorem ok_slices_ContainsFunc_w2 : FnX Go.Proofs.Tryz.prog 163 D_slices_ContainsFunc_w2 (fun x => slices_ContainsFunc_w2 x.1 x.2.1 x.2.2.1 x.2.2.2.1) :=
  FnX.of (coL_ok (es := T_slices_ContainsFunc_w2) (OKs.mem ⟨E_slices_IndexFunc_v1_w2_ok, trivial⟩)) mix (mkLs_ok (l := L_slices_ContainsFunc_w2) (by kernel_rfl)) (by kernel_rfl) Go.Proofs.Tryz.func163 rfl (by decide) (by decide) (fun x => by kernel_rfl)
noncomputable def E_slices_ContainsFunc_w2 : Ent := ⟨163, D_slices_ContainsFunc_w2, fun x => slices_ContainsFunc_w2 x.1 x.2.1 x.2.2.1 x.2.2.2.1, (false, ()), false⟩
theorem E_slices_ContainsFunc_w2_ok : E_slices_ContainsFunc_w2.OK Go.Proofs.Tryz.prog := ⟨ok_slices_ContainsFunc_w2, by kernel_rfl⟩
def D_cases_quiet : FD := ⟨[(0, .grp sCf), (1, .leaf (.sl sCa)), (2, .leaf (.int .u32)), (3, .leaf (.int .i64))], [], [(0, .leaf .bool)], []⟩
def L_cases_quiet : List (Nat × StD × Nat × StD) := []
noncomputable def T_cases_quiet : List Ent := [E_slices_ContainsFunc_w2]
theorem ok_cases_quiet : FnX Go.Proofs.Tryz.prog 144 D_cases_quiet (fun x => cases_quiet x.1 x.2.1 x.2.2.1 x.2.2.2.1) :=
  FnX.of (coL_ok (es := T_cases_quiet) (OKs.mem ⟨E_slices_ContainsFunc_w2_ok, trivial⟩)) mix (mkLs_ok (l := L_cases_quiet) (by kernel_rfl)) (by kernel_rfl) Go.Proofs.Tryz.func144 rfl (by decide) (by decide) (fun x => by kernel_rfl)
noncomputable def E_cases_quiet : Ent := ⟨144, D_cases_quiet, fun x => cases_quiet x.1 x.2.1 x.2.2.1 x.2.2.2.1, (false, ()), false⟩
theorem E_cases_quiet_ok : E_cases_quiet.OK Go.Proofs.Tryz.prog := ⟨ok_cases_quiet, by kernel_rfl⟩
def D_cases_spare : FD := ⟨[(0, .grp sCf), (1, .leaf (.sl sCa)), (2, .leaf (.int .i64))], [], [(0, .leaf (.int .i64))], []⟩
def L_cases_spare : List (Nat × StD × Nat × StD) := [(3, ⟨[(1, .leaf (.sl sCa)), (2, .leaf (.int .i64)), (3, .leaf (.ptr 16 0)), (7, .leaf (.int .i64)), (10, .leaf (.sl sCa)), (11, .leaf (.int .i64)), (12, .leaf (.int .i64))], [(16, .grp sCf)], 17, 47⟩, 0, ⟨[(7, .leaf (.int .i64))], [], 16, 47⟩)]
noncomputable def T_cases_spare : List Ent := [E_clock_Within, E_cases_Open]
theorem ok_cases_spare : FnX Go.Proofs.Tryz.prog 145 D_cases_spare (fun x => cases_spare x.1 x.2.1 x.2.2.1) :=
  FnX.of (coL_ok (es := T_cases_spare) (OKs.mem ⟨E_clock_Within_ok, E_cases_Open_ok, trivial⟩)) mix (mkLs_ok (l := L_cases_spare) (by kernel_rfl)) (by kernel_rfl) Go.Proofs.Tryz.func145 rfl (by decide) (by decide) (fun x => by kernel_rfl)
noncomputable def E_cases_spare : Ent := ⟨145, D_cases_spare, fun x => cases_spare x.1 x.2.1 x.2.2.1, ((0 : Int), ()), false⟩
theorem E_cases_spare_ok : E_cases_spare.OK Go.Proofs.Tryz.prog := ⟨ok_cases_spare, by kernel_rfl⟩
def D_slices_Delete_Case : FD := D_Delete sCa
theorem ok_slices_Delete_Case : FnX Go.Proofs.Tryz.prog 146 D_slices_Delete_Case (fun x => slices_Delete_Case x.1 x.2.1 x.2.2.1) :=
  X_Delete ⟨_, Go.Proofs.Tryz.func146, by decide, rfl⟩ Go.Proofs.Tryz.gdelete146 rfl (by kernel_rfl) (by decide) (by kernel_rfl) (by kernel_rfl) Go.Proofs.Tryz.zeroValue95 Go.Proofs.Tryz.sizeOf95
noncomputable def E_slices_Delete_Case : Ent := ⟨146, D_slices_Delete_Case, fun x => slices_Delete_Case x.1 x.2.1 x.2.2.1, ([], ()), false⟩
theorem E_slices_Delete_Case_ok : E_slices_Delete_Case.OK Go.Proofs.Tryz.prog := ⟨ok_slices_Delete_Case, by kernel_rfl⟩
def D_cases_Raise : FD := ⟨[(0, .grp sCf), (1, .leaf (.sl sCa)), (2, .leaf (.int .u32)), (3, .leaf (.int .i64))], [], [(0, .leaf (.own 16 sCa)), (1, .leaf (.int .i64))], [(16, .rows sCa)]⟩
def L_cases_Raise : List (Nat × StD × Nat × StD) := []
noncomputable def T_cases_Raise : List Ent := [E_clock_Clamp, E_slices_Delete_Case, E_cases_spare, E_slices_Clone_Case, E_cases_quiet, E_cases_Find]
theorem ok_cases_Raise : FnX Go.Proofs.Tryz.prog 127 D_cases_Raise (fun x => cases_Raise x.1 x.2.1 x.2.2.1 x.2.2.2.1) :=
  FnX.of (coL_ok (es := T_cases_Raise) (OKs.mem ⟨E_clock_Clamp_ok, E_slices_Delete_Case_ok, E_cases_spare_ok, E_slices_Clone_Case_ok, E_cases_quiet_ok, E_cases_Find_ok, trivial⟩)) mix (mkLs_ok (l := L_cases_Raise) (by kernel_rfl)) (by kernel_rfl) Go.Proofs.Tryz.func127 rfl (by decide) (by decide) (fun x => by kernel_rfl)
noncomputable def E_cases_Raise : Ent := ⟨127, D_cases_Raise, fun x => cases_Raise x.1 x.2.1 x.2.2.1 x.2.2.2.1, ((0 : Int), ([], ())), false⟩
theorem E_cases_Raise_ok : E_cases_Raise.OK Go.Proofs.Tryz.prog := ⟨ok_cases_Raise, by kernel_rfl⟩
def D_ops_raise : FD := ⟨[(0, .grp sCf), (1, .grp sSt)], [], [(0, .grp sSt)], []⟩
def L_ops_raise : List (Nat × StD × Nat × StD) := [(2, ⟨[(2, .leaf (.ptr 16 0)), (3, .leaf (.ptr 17 0)), (4, .leaf (.ptr 18 0)), (10, .leaf (.sl sHd)), (11, .leaf (.int .i64)), (12, .leaf (.int .i64))], [(16, .grp sCf), (17, .grp sSt), (18, .grp sSt)], 19, 39⟩, 0, ⟨[(3, .leaf (.ptr 16 0)), (4, .leaf (.ptr 17 0))], [(16, .grp sSt), (17, .grp sSt)], 18, 39⟩)]
noncomputable def T_ops_raise : List Ent := [E_cases_Raise, E_ops_Status]
theorem ok_ops_raise : FnX Go.Proofs.Tryz.prog 93 D_ops_raise (fun x => ops_raise x.1 x.2.1) :=
  FnX.of (coL_ok (es := T_ops_raise) (OKs.mem ⟨E_cases_Raise_ok, E_ops_Status_ok, trivial⟩)) mix (mkLs_ok (l := L_ops_raise) (by kernel_rfl)) (by kernel_rfl) Go.Proofs.Tryz.func93 rfl (by decide) (by decide) (fun x => by kernel_rfl)
noncomputable def E_ops_raise : Ent := ⟨93, D_ops_raise, fun x => ops_raise x.1 x.2.1, (((0 : Int), ((0 : Int), ([], ([], ([], ([], [])))))), ()), true⟩
theorem E_ops_raise_ok : E_ops_raise.OK Go.Proofs.Tryz.prog := ⟨ok_ops_raise, by kernel_rfl⟩
def D_seen_Last : FD := ⟨[(0, .leaf (.sl sKn)), (1, .leaf (.int .u32))], [], [(0, .leaf (.int .i64)), (1, .leaf .bool)], []⟩
def L_seen_Last : List (Nat × StD × Nat × StD) := []
noncomputable def T_seen_Last : List Ent := [E_seen_find]
theorem ok_seen_Last : FnX Go.Proofs.Tryz.prog 124 D_seen_Last (fun x => seen_Last x.1 x.2.1) :=
  FnX.of (coL_ok (es := T_seen_Last) (OKs.mem ⟨E_seen_find_ok, trivial⟩)) mix (mkLs_ok (l := L_seen_Last) (by kernel_rfl)) (by kernel_rfl) Go.Proofs.Tryz.func124 rfl (by decide) (by decide) (fun x => by kernel_rfl)
noncomputable def E_seen_Last : Ent := ⟨124, D_seen_Last, fun x => seen_Last x.1 x.2.1, ((0 : Int), (false, ())), false⟩
theorem E_seen_Last_ok : E_seen_Last.OK Go.Proofs.Tryz.prog := ⟨ok_seen_Last, by kernel_rfl⟩
def D_ops_forget_1 : FD := ⟨[(0, .leaf (.int .u32)), (1, .leaf (.ptr 0 0)), (2, .leaf (.ptr 1 0))], [(0, .cells [(.int .i64), (.int .i64), (.sl sHd), (.sl sSw), (.sl sKn), (.sl sPr), (.sl sCa)]), (1, .cells [(.int .i64), (.int .i64), (.int .i64), (.int .i64), (.int .i64), (.int .i64), (.int .i64), (.int .i64), (.int .i64)])], [(0, .leaf .bool)], [(0, .cells [(.int .i64), (.int .i64), (.sl sHd), (.sl sSw), (.sl sKn), (.sl sPr), (.sl sCa)]), (1, .cells [(.int .i64), (.int .i64), (.int .i64), (.int .i64), (.int .i64), (.int .i64), (.int .i64), (.int .i64), (.int .i64)])]⟩
def L_ops_forget_1 : List (Nat × StD × Nat × StD) := []
noncomputable def T_ops_forget_1 : List Ent := [E_clock_Within, E_seen_Last, E_held_Get]
theorem ok_ops_forget_1 : FnX Go.Proofs.Tryz.prog 122 D_ops_forget_1 (fun x => ops_forget_1 x.1 x.2.1 x.2.2.1 x.2.2.2.1 x.2.2.2.2.1 x.2.2.2.2.2.1 x.2.2.2.2.2.2.1 x.2.2.2.2.2.2.2.1 x.2.2.2.2.2.2.2.2.1 x.2.2.2.2.2.2.2.2.2.1 x.2.2.2.2.2.2.2.2.2.2.1 x.2.2.2.2.2.2.2.2.2.2.2.1 x.2.2.2.2.2.2.2.2.2.2.2.2.1 x.2.2.2.2.2.2.2.2.2.2.2.2.2.1 x.2.2.2.2.2.2.2.2.2.2.2.2.2.2.1 x.2.2.2.2.2.2.2.2.2.2.2.2.2.2.2.1 x.2.2.2.2.2.2.2.2.2.2.2.2.2.2.2.2.1) :=
  FnX.of (coL_ok (es := T_ops_forget_1) (OKs.mem ⟨E_clock_Within_ok, E_seen_Last_ok, E_held_Get_ok, trivial⟩)) mix (mkLs_ok (l := L_ops_forget_1) (by kernel_rfl)) (by kernel_rfl) Go.Proofs.Tryz.func122 rfl (by decide) (by decide) (fun x => by kernel_rfl)
noncomputable def E_ops_forget_1 : Ent := ⟨122, D_ops_forget_1, fun x => ops_forget_1 x.1 x.2.1 x.2.2.1 x.2.2.2.1 x.2.2.2.2.1 x.2.2.2.2.2.1 x.2.2.2.2.2.2.1 x.2.2.2.2.2.2.2.1 x.2.2.2.2.2.2.2.2.1 x.2.2.2.2.2.2.2.2.2.1 x.2.2.2.2.2.2.2.2.2.2.1 x.2.2.2.2.2.2.2.2.2.2.2.1 x.2.2.2.2.2.2.2.2.2.2.2.2.1 x.2.2.2.2.2.2.2.2.2.2.2.2.2.1 x.2.2.2.2.2.2.2.2.2.2.2.2.2.2.1 x.2.2.2.2.2.2.2.2.2.2.2.2.2.2.2.1 x.2.2.2.2.2.2.2.2.2.2.2.2.2.2.2.2.1, (false, ((0 : Int), ((0 : Int), ([], ([], ([], ([], ([], ((0 : Int), ((0 : Int), ((0 : Int), ((0 : Int), ((0 : Int), ((0 : Int), ((0 : Int), ((0 : Int), ((0 : Int), ()))))))))))))))))), true⟩
theorem E_ops_forget_1_ok : E_ops_forget_1.OK Go.Proofs.Tryz.prog := ⟨ok_ops_forget_1, by kernel_rfl⟩
def D_seen_Forget : FD := ⟨[(0, .leaf (.sl sKn)), (1, .fn 122 [] [(.ptr 0 0), (.ptr 1 0)])], [(0, .grp sSt), (1, .grp sCf)], [(0, .leaf (.own 16 sKn))], [(0, .grp sSt), (1, .grp sCf), (16, .rows sKn)]⟩
def L_seen_Forget : List (Nat × StD × Nat × StD) := [(3, ⟨[(1, .fn 122 [] [(.ptr 0 0), (.ptr 1 0)]), (5, .leaf (.own 16 sKn)), (8, .leaf (.sl sKn)), (9, .leaf (.int .i64)), (10, .leaf (.int .i64))], [(16, .rows sKn), (0, .cells [(.int .i64), (.int .i64), (.sl sHd), (.sl sSw), (.sl sKn), (.sl sPr), (.sl sCa)]), (1, .cells [(.int .i64), (.int .i64), (.int .i64), (.int .i64), (.int .i64), (.int .i64), (.int .i64), (.int .i64), (.int .i64)])], 17, 24⟩, 0, ⟨[(5, .leaf (.own 16 sKn))], [(0, .cells [(.int .i64), (.int .i64), (.sl sHd), (.sl sSw), (.sl sKn), (.sl sPr), (.sl sCa)]), (1, .cells [(.int .i64), (.int .i64), (.int .i64), (.int .i64), (.int .i64), (.int .i64), (.int .i64), (.int .i64), (.int .i64)]), (16, .rows sKn)], 17, 24⟩)]
noncomputable def T_seen_Forget : List Ent := [E_ops_forget_1]
theorem ok_seen_Forget : FnX Go.Proofs.Tryz.prog 121 D_seen_Forget (fun x => seen_Forget x.1 x.2.1 x.2.2.1) :=
  FnX.of (coL_ok (es := T_seen_Forget) (OKs.mem ⟨E_ops_forget_1_ok, trivial⟩)) mix (mkLs_ok (l := L_seen_Forget) (by kernel_rfl)) (by kernel_rfl) Go.Proofs.Tryz.func121 rfl (by decide) (by decide) (fun x => by kernel_rfl)
noncomputable def E_seen_Forget : Ent := ⟨121, D_seen_Forget, fun x => seen_Forget x.1 x.2.1 x.2.2.1, (((0 : Int), ((0 : Int), ([], ([], ([], ([], [])))))), (((0 : Int), ((0 : Int), ((0 : Int), ((0 : Int), ((0 : Int), ((0 : Int), ((0 : Int), ((0 : Int), (0 : Int))))))))), ([], ()))), true⟩
theorem E_seen_Forget_ok : E_seen_Forget.OK Go.Proofs.Tryz.prog := ⟨ok_seen_Forget, by kernel_rfl⟩
def D_ops_forget : FD := ⟨[(0, .grp sCf), (1, .grp sSt)], [], [(0, .grp sSt)], []⟩
def L_ops_forget : List (Nat × StD × Nat × StD) := []
noncomputable def T_ops_forget : List Ent := [E_seen_Forget]
theorem ok_ops_forget : FnX Go.Proofs.Tryz.prog 92 D_ops_forget (fun x => ops_forget x.1 x.2.1) :=
  FnX.of (coL_ok (es := T_ops_forget) (OKs.mem ⟨E_seen_Forget_ok, trivial⟩)) mix (mkLs_ok (l := L_ops_forget) (by kernel_rfl)) (by kernel_rfl) Go.Proofs.Tryz.func92 rfl (by decide) (by decide) (fun x => by kernel_rfl)
noncomputable def E_ops_forget : Ent := ⟨92, D_ops_forget, fun x => ops_forget x.1 x.2.1, (((0 : Int), ((0 : Int), ([], ([], ([], ([], [])))))), ()), true⟩
theorem E_ops_forget_ok : E_ops_forget.OK Go.Proofs.Tryz.prog := ⟨ok_ops_forget, by kernel_rfl⟩
def D_probe_Late : FD := ⟨[(0, .grp sCf), (1, .leaf (.sl sPr)), (2, .leaf (.int .i64)), (3, .leaf (.int .i64))], [], [(0, .leaf (.own 16 sPr)), (1, .leaf (.sl sPr))], [(16, .rows sPr)]⟩
def L_probe_Late : List (Nat × StD × Nat × StD) := [(3, ⟨[(2, .leaf (.int .i64)), (3, .leaf (.int .i64)), (4, .leaf (.ptr 16 0)), (10, .leaf (.own 17 sPr)), (11, .leaf (.own 18 sPr)), (14, .leaf (.sl sPr)), (15, .leaf (.int .i64)), (16, .leaf (.int .i64))], [(17, .rows sPr), (18, .rows sPr), (16, .grp sCf)], 19, 58⟩, 0, ⟨[(10, .leaf (.own 16 sPr)), (11, .leaf (.own 17 sPr))], [(16, .rows sPr), (17, .rows sPr)], 18, 58⟩)]
noncomputable def T_probe_Late : List Ent := [E_clock_Clamp, E_clock_Since]
theorem ok_probe_Late : FnX Go.Proofs.Tryz.prog 116 D_probe_Late (fun x => probe_Late x.1 x.2.1 x.2.2.1 x.2.2.2.1) :=
  FnX.of (coL_ok (es := T_probe_Late) (OKs.mem ⟨E_clock_Clamp_ok, E_clock_Since_ok, trivial⟩)) mix (mkLs_ok (l := L_probe_Late) (by kernel_rfl)) (by kernel_rfl) Go.Proofs.Tryz.func116 rfl (by decide) (by decide) (fun x => by kernel_rfl)
noncomputable def E_probe_Late : Ent := ⟨116, D_probe_Late, fun x => probe_Late x.1 x.2.1 x.2.2.1 x.2.2.2.1, ([], ([], ())), true⟩
theorem E_probe_Late_ok : E_probe_Late.OK Go.Proofs.Tryz.prog := ⟨ok_probe_Late, by kernel_rfl⟩
def D_probe_Packet : FD := ⟨[(0, .grp sPr)], [], [(0, .grp sPk)], []⟩
def L_probe_Packet : List (Nat × StD × Nat × StD) := []
noncomputable def T_probe_Packet : List Ent := []
theorem ok_probe_Packet : FnX Go.Proofs.Tryz.prog 117 D_probe_Packet (fun x => probe_Packet x.1) :=
  FnX.of (coL_ok (es := T_probe_Packet) (OKs.mem trivial)) mix (mkLs_ok (l := L_probe_Packet) (by kernel_rfl)) (by kernel_rfl) Go.Proofs.Tryz.func117 rfl (by decide) (by decide) (fun x => by kernel_rfl)
noncomputable def E_probe_Packet : Ent := ⟨117, D_probe_Packet, fun x => probe_Packet x.1, ((false, ((0 : Int), ((0 : Int), (((0 : Int), ((0 : Int), ((0 : Int), ((0 : Int), ((0 : Int), (0 : Int)))))), ((0 : Int), (0 : Int)))))), ()), false⟩
theorem E_probe_Packet_ok : E_probe_Packet.OK Go.Proofs.Tryz.prog := ⟨ok_probe_Packet, by kernel_rfl⟩
def D_slices_Clone_Sweep : FD := D_Clone sSw
theorem ok_slices_Clone_Sweep : FnX Go.Proofs.Tryz.prog 100 D_slices_Clone_Sweep (fun x => slices_Clone_Sweep x.1) :=
  X_Clone ⟨_, Go.Proofs.Tryz.func100, by decide, rfl⟩ Go.Proofs.Tryz.gclone100 rfl (by kernel_rfl) (by decide) (by decide) Go.Proofs.Tryz.sizeOf77
noncomputable def E_slices_Clone_Sweep : Ent := ⟨100, D_slices_Clone_Sweep, fun x => slices_Clone_Sweep x.1, ([], ()), false⟩
theorem E_slices_Clone_Sweep_ok : E_slices_Clone_Sweep.OK Go.Proofs.Tryz.prog := ⟨ok_slices_Clone_Sweep, by kernel_rfl⟩
def D_sweep_order_1 : FD := ⟨[(0, .leaf (.int .i64)), (1, .leaf (.int .i64)), (2, .leaf (.fpt (.sl sSw) 0))], [], [(0, .leaf (.int .i64))], []⟩
def L_sweep_order_1 : List (Nat × StD × Nat × StD) := []
noncomputable def T_sweep_order_1 : List Ent := []
theorem ok_sweep_order_1 : FnX Go.Proofs.Tryz.prog 159 D_sweep_order_1 (fun x => sweep_order_1 x.1 x.2.1 x.2.2.1) :=
  FnX.of (coL_ok (es := T_sweep_order_1) (OKs.mem trivial)) mix (mkLs_ok (l := L_sweep_order_1) (by kernel_rfl)) (by kernel_rfl) Go.Proofs.Tryz.func159 rfl (by decide) (by decide) (fun x => by kernel_rfl)
noncomputable def E_sweep_order_1 : Ent := ⟨159, D_sweep_order_1, fun x => sweep_order_1 x.1 x.2.1 x.2.2.1, ((0 : Int), ()), false⟩
theorem E_sweep_order_1_ok : E_sweep_order_1.OK Go.Proofs.Tryz.prog := ⟨ok_sweep_order_1, by kernel_rfl⟩
def D_slices_insertionSortCmpFunc_int_ : FD := ⟨[(0, .leaf (.own 0 (.int .i64))), (1, .leaf (.int .i64)), (2, .leaf (.int .i64)), (3, .fn 159 [] [(.ptr 1 0)])], [(0, .rows (.int .i64)), (1, .cells [(.sl sSw)])], [], [(0, .rows (.int .i64)), (1, .cells [(.sl sSw)])]⟩
def L_slices_insertionSortCmpFunc_int_ : List (Nat × StD × Nat × StD) := [(1, ⟨[(0, .leaf (.own 0 (.int .i64))), (1, .leaf (.int .i64)), (2, .leaf (.int .i64)), (3, .fn 159 [] [(.ptr 1 0)]), (8, .leaf (.int .i64))], [(0, .rows (.int .i64)), (1, .cells [(.sl sSw)])], 16, 53⟩, 0, ⟨[], [(0, .rows (.int .i64)), (1, .cells [(.sl sSw)])], 16, 53⟩), (4, ⟨[(0, .leaf (.own 0 (.int .i64))), (1, .leaf (.int .i64)), (2, .leaf (.int .i64)), (3, .fn 159 [] [(.ptr 1 0)]), (8, .leaf (.int .i64)), (9, .leaf (.int .i64))], [(0, .rows (.int .i64)), (1, .cells [(.sl sSw)])], 16, 53⟩, 2, ⟨[(0, .leaf (.own 0 (.int .i64))), (1, .leaf (.int .i64)), (2, .leaf (.int .i64)), (3, .fn 159 [] [(.ptr 1 0)]), (8, .leaf (.int .i64))], [(0, .rows (.int .i64)), (1, .cells [(.sl sSw)])], 16, 53⟩)]
noncomputable def T_slices_insertionSortCmpFunc_int_ : List Ent := [E_sweep_order_1]
theorem ok_slices_insertionSortCmpFunc_int_ : FnX Go.Proofs.Tryz.prog 173 D_slices_insertionSortCmpFunc_int_ (fun x => slices_insertionSortCmpFunc_int_ x.1 x.2.1 x.2.2.1 x.2.2.2.1) :=
  FnX.of (coL_ok (es := T_slices_insertionSortCmpFunc_int_) (OKs.mem ⟨E_sweep_order_1_ok, trivial⟩)) mix (mkLs_ok (l := L_slices_insertionSortCmpFunc_int_) (by kernel_rfl)) (by kernel_rfl) Go.Proofs.Tryz.func173 rfl (by decide) (by decide) (fun x => by kernel_rfl)
noncomputable def E_slices_insertionSortCmpFunc_int_ : Ent := ⟨173, D_slices_insertionSortCmpFunc_int_, fun x => slices_insertionSortCmpFunc_int_ x.1 x.2.1 x.2.2.1 x.2.2.2.1, ([], ([], ())), true⟩
theorem E_slices_insertionSortCmpFunc_int__ok : E_slices_insertionSortCmpFunc_int_.OK Go.Proofs.Tryz.prog := ⟨ok_slices_insertionSortCmpFunc_int_, by kernel_rfl⟩
def D_slices_symMergeCmpFunc_int__none : FD := ⟨[(0, .leaf (.sl (.int .i64))), (1, .leaf (.int .i64)), (2, .leaf (.int .i64)), (3, .leaf (.int .i64)), (4, .fn 159 [] [(.fpt (.sl sSw) 0)])], [], [], []⟩
theorem ok_slices_symMergeCmpFunc_int__none : FnX Go.Proofs.Tryz.prog 174 D_slices_symMergeCmpFunc_int__none (fun x => slices_symMergeCmpFunc_int__none x.1 x.2.1 x.2.2.1 x.2.2.2.1 x.2.2.2.2.1) := FnX.none ⟨_, Go.Proofs.Tryz.func174, by decide, rfl⟩
noncomputable def E_slices_symMergeCmpFunc_int__none : Ent := ⟨174, D_slices_symMergeCmpFunc_int__none, fun x => slices_symMergeCmpFunc_int__none x.1 x.2.1 x.2.2.1 x.2.2.2.1 x.2.2.2.2.1, (), false⟩
theorem E_slices_symMergeCmpFunc_int__none_ok : E_slices_symMergeCmpFunc_int__none.OK Go.Proofs.Tryz.prog := ⟨ok_slices_symMergeCmpFunc_int__none, by kernel_rfl⟩
def D_slices_stableCmpFunc_int_ : FD := ⟨[(0, .leaf (.own 0 (.int .i64))), (1, .leaf (.int .i64)), (2, .fn 159 [] [(.ptr 1 0)])], [(0, .rows (.int .i64)), (1, .cells [(.sl sSw)])], [], [(0, .rows (.int .i64)), (1, .cells [(.sl sSw)])]⟩
def L_slices_stableCmpFunc_int_ : List (Nat × StD × Nat × StD) := [(2, ⟨[(0, .leaf (.own 0 (.int .i64))), (1, .leaf (.int .i64)), (2, .fn 159 [] [(.ptr 1 0)]), (6, .leaf (.int .i64)), (7, .leaf (.int .i64)), (8, .leaf (.int .i64))], [(0, .rows (.int .i64)), (1, .cells [(.sl sSw)])], 16, 63⟩, 0, ⟨[(0, .leaf (.own 0 (.int .i64))), (1, .leaf (.int .i64)), (2, .fn 159 [] [(.ptr 1 0)]), (6, .leaf (.int .i64)), (7, .leaf (.int .i64))], [(0, .rows (.int .i64)), (1, .cells [(.sl sSw)])], 16, 63⟩), (7, ⟨[(0, .leaf (.own 0 (.int .i64))), (1, .leaf (.int .i64)), (2, .fn 159 [] [(.ptr 1 0)]), (6, .leaf (.int .i64))], [(0, .rows (.int .i64)), (1, .cells [(.sl sSw)])], 16, 63⟩, 2, ⟨[], [(0, .rows (.int .i64)), (1, .cells [(.sl sSw)])], 16, 63⟩), (9, ⟨[(0, .leaf (.own 0 (.int .i64))), (1, .leaf (.int .i64)), (2, .fn 159 [] [(.ptr 1 0)]), (6, .leaf (.int .i64)), (7, .leaf (.int .i64)), (8, .leaf (.int .i64))], [(0, .rows (.int .i64)), (1, .cells [(.sl sSw)])], 16, 63⟩, 4, ⟨[(0, .leaf (.own 0 (.int .i64))), (1, .leaf (.int .i64)), (2, .fn 159 [] [(.ptr 1 0)]), (6, .leaf (.int .i64)), (7, .leaf (.int .i64))], [(0, .rows (.int .i64)), (1, .cells [(.sl sSw)])], 16, 63⟩)]
noncomputable def T_slices_stableCmpFunc_int_ : List Ent := [E_slices_symMergeCmpFunc_int__none, E_slices_insertionSortCmpFunc_int_]
theorem ok_slices_stableCmpFunc_int_ : FnX Go.Proofs.Tryz.prog 170 D_slices_stableCmpFunc_int_ (fun x => slices_stableCmpFunc_int_ x.1 x.2.1 x.2.2.1) :=
  FnX.of (coL_ok (es := T_slices_stableCmpFunc_int_) (OKs.mem ⟨E_slices_symMergeCmpFunc_int__none_ok, E_slices_insertionSortCmpFunc_int__ok, trivial⟩)) mix (mkLs_ok (l := L_slices_stableCmpFunc_int_) (by kernel_rfl)) (by kernel_rfl) Go.Proofs.Tryz.func170 rfl (by decide) (by decide) (fun x => by kernel_rfl)
noncomputable def E_slices_stableCmpFunc_int_ : Ent := ⟨170, D_slices_stableCmpFunc_int_, fun x => slices_stableCmpFunc_int_ x.1 x.2.1 x.2.2.1, ([], ([], ())), true⟩
theorem E_slices_stableCmpFunc_int__ok : E_slices_stableCmpFunc_int_.OK Go.Proofs.Tryz.prog := ⟨ok_slices_stableCmpFunc_int_, by kernel_rfl⟩
def D_slices_SortStableFunc___int_int_ : FD := ⟨[(0, .leaf (.own 0 (.int .i64))), (1, .fn 159 [] [(.ptr 1 0)])], [(0, .rows (.int .i64)), (1, .cells [(.sl sSw)])], [], [(0, .rows (.int .i64)), (1, .cells [(.sl sSw)])]⟩
def L_slices_SortStableFunc___int_int_ : List (Nat × StD × Nat × StD) := []
noncomputable def T_slices_SortStableFunc___int_int_ : List Ent := [E_slices_stableCmpFunc_int_]
theorem ok_slices_SortStableFunc___int_int_ : FnX Go.Proofs.Tryz.prog 158 D_slices_SortStableFunc___int_int_ (fun x => slices_SortStableFunc___int_int_ x.1 x.2.1) :=
  FnX.of (coL_ok (es := T_slices_SortStableFunc___int_int_) (OKs.mem ⟨E_slices_stableCmpFunc_int__ok, trivial⟩)) mix (mkLs_ok (l := L_slices_SortStableFunc___int_int_) (by kernel_rfl)) (by kernel_rfl) Go.Proofs.Tryz.func158 rfl (by decide) (by decide) (fun x => by kernel_rfl)
noncomputable def E_slices_SortStableFunc___int_int_ : Ent := ⟨158, D_slices_SortStableFunc___int_int_, fun x => slices_SortStableFunc___int_int_ x.1 x.2.1, ([], ([], ())), true⟩
theorem E_slices_SortStableFunc___int_int__ok : E_slices_SortStableFunc___int_int_.OK Go.Proofs.Tryz.prog := ⟨ok_slices_SortStableFunc___int_int_, by kernel_rfl⟩
def D_sweep_order : FD := ⟨[(0, .leaf (.sl sSw)), (1, .leaf (.int .i64))], [], [(0, .leaf (.own 16 (.int .i64)))], [(16, .rows (.int .i64))]⟩
def L_sweep_order : List (Nat × StD × Nat × StD) := [(3, ⟨[(1, .leaf (.int .i64)), (2, .leaf (.ptr 16 0)), (5, .leaf (.own 17 (.int .i64))), (8, .leaf (.sl sSw)), (9, .leaf (.int .i64)), (10, .leaf (.int .i64))], [(17, .rows (.int .i64)), (16, .cells [(.sl sSw)])], 18, 28⟩, 0, ⟨[(2, .leaf (.ptr 16 0)), (5, .leaf (.own 17 (.int .i64)))], [(16, .cells [(.sl sSw)]), (17, .rows (.int .i64))], 18, 28⟩)]
noncomputable def T_sweep_order : List Ent := [E_slices_SortStableFunc___int_int_]
theorem ok_sweep_order : FnX Go.Proofs.Tryz.prog 139 D_sweep_order (fun x => sweep_order x.1 x.2.1) :=
  FnX.of (coL_ok (es := T_sweep_order) (OKs.mem ⟨E_slices_SortStableFunc___int_int__ok, trivial⟩)) mix (mkLs_ok (l := L_sweep_order) (by kernel_rfl)) (by kernel_rfl) Go.Proofs.Tryz.func139 rfl (by decide) (by decide) (fun x => by kernel_rfl)
noncomputable def E_sweep_order : Ent := ⟨139, D_sweep_order, fun x => sweep_order x.1 x.2.1, ([], ()), false⟩
theorem E_sweep_order_ok : E_sweep_order.OK Go.Proofs.Tryz.prog := ⟨ok_sweep_order, by kernel_rfl⟩
def D_addr_At : FD := ⟨[(0, .grp sBk), (1, .leaf (.int .i64))], [], [(0, .leaf (.int .u32)), (1, .leaf .bool)], []⟩
def L_addr_At : List (Nat × StD × Nat × StD) := []
noncomputable def T_addr_At : List Ent := [E_addr_Size]
theorem ok_addr_At : FnX Go.Proofs.Tryz.prog 140 D_addr_At (fun x => addr_At x.1 x.2.1) :=
  FnX.of (coL_ok (es := T_addr_At) (OKs.mem ⟨E_addr_Size_ok, trivial⟩)) mix (mkLs_ok (l := L_addr_At) (by kernel_rfl)) (by kernel_rfl) Go.Proofs.Tryz.func140 rfl (by decide) (by decide) (fun x => by kernel_rfl)
noncomputable def E_addr_At : Ent := ⟨140, D_addr_At, fun x => addr_At x.1 x.2.1, ((0 : Int), (false, ())), false⟩
theorem E_addr_At_ok : E_addr_At.OK Go.Proofs.Tryz.prog := ⟨ok_addr_At, by kernel_rfl⟩
def D_sweep_Plan_w1 : FD := ⟨[(0, .grp sCf), (1, .leaf (.sl sSw)), (2, .leaf (.int .i64)), (3, .leaf (.int .i64))], [], [(0, .leaf (.own 16 sSw)), (1, .leaf (.sl (.int .u32)))], [(16, .rows sSw)]⟩
def L_sweep_Plan_w1 : List (Nat × StD × Nat × StD) := [(4, ⟨[(3, .leaf (.int .i64)), (4, .leaf (.ptr 16 0)), (10, .leaf (.own 17 sSw)), (11, .leaf (.own 18 (.int .u32))), (21, .leaf (.own 19 (.int .i64))), (22, .leaf (.int .i64)), (23, .leaf (.int .i64))], [(18, .rows (.int .u32)), (16, .grp sCf), (17, .rows sSw), (19, .rows (.int .i64))], 20, 95⟩, 0, ⟨[(10, .leaf (.own 16 sSw)), (11, .leaf (.own 17 (.int .u32)))], [(16, .rows sSw), (17, .rows (.int .u32))], 18, 95⟩), (7, ⟨[(3, .leaf (.int .i64)), (4, .leaf (.ptr 16 0)), (10, .leaf (.own 17 sSw)), (11, .leaf (.own 18 (.int .u32))), (14, .leaf (.epr 17 sSw 0)), (21, .leaf (.own 19 (.int .i64))), (22, .leaf (.int .i64)), (23, .leaf (.int .i64))], [(16, .grp sCf), (17, .rows sSw), (18, .rows (.int .u32)), (19, .rows (.int .i64))], 20, 95⟩, 2, ⟨[(3, .leaf (.int .i64)), (4, .leaf (.ptr 16 0)), (10, .leaf (.own 17 sSw)), (11, .leaf (.own 18 (.int .u32))), (14, .leaf (.epr 17 sSw 0)), (21, .leaf (.own 19 (.int .i64))), (22, .leaf (.int .i64)), (23, .leaf (.int .i64))], [(16, .grp sCf), (17, .rows sSw), (18, .rows (.int .u32)), (19, .rows (.int .i64))], 20, 95⟩)]
noncomputable def T_sweep_Plan_w1 : List Ent := [E_clock_Add, E_addr_At, E_addr_Size, E_sweep_order, E_slices_Clone_Sweep]
theorem ok_sweep_Plan_w1 : FnX Go.Proofs.Tryz.prog 118 D_sweep_Plan_w1 (fun x => sweep_Plan_w1 x.1 x.2.1 x.2.2.1 x.2.2.2.1) :=
  FnX.of (coL_ok (es := T_sweep_Plan_w1) (OKs.mem ⟨E_clock_Add_ok, E_addr_At_ok, E_addr_Size_ok, E_sweep_order_ok, E_slices_Clone_Sweep_ok, trivial⟩)) mix (mkLs_ok (l := L_sweep_Plan_w1) (by kernel_rfl)) (by kernel_rfl) Go.Proofs.Tryz.func118 rfl (by decide) (by decide) (fun x => by kernel_rfl)
noncomputable def E_sweep_Plan_w1 : Ent := ⟨118, D_sweep_Plan_w1, fun x => sweep_Plan_w1 x.1 x.2.1 x.2.2.1 x.2.2.2.1, ([], ([], ())), true⟩
theorem E_sweep_Plan_w1_ok : E_sweep_Plan_w1.OK Go.Proofs.Tryz.prog := ⟨ok_sweep_Plan_w1, by kernel_rfl⟩
def D_probe_Of : FD := ⟨[(0, .leaf (.int .u32)), (1, .leaf (.int .i64)), (2, .leaf (.int .i64))], [], [(0, .grp sPr)], []⟩
def L_probe_Of : List (Nat × StD × Nat × StD) := []
noncomputable def T_probe_Of : List Ent := [E_clock_Clamp]
theorem ok_probe_Of : FnX Go.Proofs.Tryz.prog 119 D_probe_Of (fun x => probe_Of x.1 x.2.1 x.2.2.1) :=
  FnX.of (coL_ok (es := T_probe_Of) (OKs.mem ⟨E_clock_Clamp_ok, trivial⟩)) mix (mkLs_ok (l := L_probe_Of) (by kernel_rfl)) (by kernel_rfl) Go.Proofs.Tryz.func119 rfl (by decide) (by decide) (fun x => by kernel_rfl)
noncomputable def E_probe_Of : Ent := ⟨119, D_probe_Of, fun x => probe_Of x.1 x.2.1 x.2.2.1, (((0 : Int), ((0 : Int), ((0 : Int), ((0 : Int), (0 : Int))))), ()), false⟩
theorem E_probe_Of_ok : E_probe_Of.OK Go.Proofs.Tryz.prog := ⟨ok_probe_Of, by kernel_rfl⟩
def D_probe_Put_1 : FD := ⟨[(0, .grp sPr), (1, .leaf (.fpt sPr 0))], [], [(0, .leaf .bool)], []⟩
def L_probe_Put_1 : List (Nat × StD × Nat × StD) := []
noncomputable def T_probe_Put_1 : List Ent := []
theorem ok_probe_Put_1 : FnX Go.Proofs.Tryz.prog 141 D_probe_Put_1 (fun x => probe_Put_1 x.1 x.2.1) :=
  FnX.of (coL_ok (es := T_probe_Put_1) (OKs.mem trivial)) mix (mkLs_ok (l := L_probe_Put_1) (by kernel_rfl)) (by kernel_rfl) Go.Proofs.Tryz.func141 rfl (by decide) (by decide) (fun x => by kernel_rfl)
noncomputable def E_probe_Put_1 : Ent := ⟨141, D_probe_Put_1, fun x => probe_Put_1 x.1 x.2.1, (false, ()), false⟩
theorem E_probe_Put_1_ok : E_probe_Put_1.OK Go.Proofs.Tryz.prog := ⟨ok_probe_Put_1, by kernel_rfl⟩
def D_slices_IndexFunc_v2 : FD := ⟨[(0, .leaf (.sl sPr)), (1, .fn 141 [] [(.fpt sPr 0)])], [], [(0, .leaf (.int .i64))], []⟩
def L_slices_IndexFunc_v2 : List (Nat × StD × Nat × StD) := [(2, ⟨[(0, .leaf (.sl sPr)), (1, .fn 141 [] [(.fpt sPr 0)]), (7, .leaf (.int .i64)), (8, .leaf (.int .i64))], [], 16, 19⟩, 0, ⟨[], [], 16, 19⟩)]
noncomputable def T_slices_IndexFunc_v2 : List Ent := [E_probe_Put_1]
theorem ok_slices_IndexFunc_v2 : FnX Go.Proofs.Tryz.prog 111 D_slices_IndexFunc_v2 (fun x => slices_IndexFunc_v2 x.1 x.2.1) :=
  FnX.of (coL_ok (es := T_slices_IndexFunc_v2) (OKs.mem ⟨E_probe_Put_1_ok, trivial⟩)) mix (mkLs_ok (l := L_slices_IndexFunc_v2) (by kernel_rfl)) (by kernel_rfl) Go.Proofs.Tryz.func111 rfl (by decide) (by decide) (fun x => by kernel_rfl)
noncomputable def E_slices_IndexFunc_v2 : Ent := ⟨111, D_slices_IndexFunc_v2, fun x => slices_IndexFunc_v2 x.1 x.2.1, ((0 : Int), ()), false⟩
theorem E_slices_IndexFunc_v2_ok : E_slices_IndexFunc_v2.OK Go.Proofs.Tryz.prog := ⟨ok_slices_IndexFunc_v2, by kernel_rfl⟩
def D_slices_ContainsFunc_v1 : FD := ⟨[(0, .leaf (.sl sPr)), (1, .fn 141 [] [(.fpt sPr 0)])], [], [(0, .leaf .bool)], []⟩
def L_slices_ContainsFunc_v1 : List (Nat × StD × Nat × StD) := []
noncomputable def T_slices_ContainsFunc_v1 : List Ent := [E_slices_IndexFunc_v2]
theorem ok_slices_ContainsFunc_v1 : FnX Go.Proofs.Tryz.prog 82 D_slices_ContainsFunc_v1 (fun x => slices_ContainsFunc_v1 x.1 x.2.1) :=
  FnX.of (coL_ok (es := T_slices_ContainsFunc_v1) (OKs.mem ⟨E_slices_IndexFunc_v2_ok, trivial⟩)) mix (mkLs_ok (l := L_slices_ContainsFunc_v1) (by kernel_rfl)) (by kernel_rfl) Go.Proofs.Tryz.func82 rfl (by decide) (by decide) (fun x => by kernel_rfl)
noncomputable def E_slices_ContainsFunc_v1 : Ent := ⟨82, D_slices_ContainsFunc_v1, fun x => slices_ContainsFunc_v1 x.1 x.2.1, (false, ()), false⟩
theorem E_slices_ContainsFunc_v1_ok : E_slices_ContainsFunc_v1.OK Go.Proofs.Tryz.prog := ⟨ok_slices_ContainsFunc_v1, by kernel_rfl⟩
def D_slices_Clone_Probe : FD := D_Clone sPr
theorem ok_slices_Clone_Probe : FnX Go.Proofs.Tryz.prog 135 D_slices_Clone_Probe (fun x => slices_Clone_Probe x.1) :=
  X_Clone ⟨_, Go.Proofs.Tryz.func135, by decide, rfl⟩ Go.Proofs.Tryz.gclone135 rfl (by kernel_rfl) (by decide) (by decide) Go.Proofs.Tryz.sizeOf90
noncomputable def E_slices_Clone_Probe : Ent := ⟨135, D_slices_Clone_Probe, fun x => slices_Clone_Probe x.1, ([], ()), false⟩
theorem E_slices_Clone_Probe_ok : E_slices_Clone_Probe.OK Go.Proofs.Tryz.prog := ⟨ok_slices_Clone_Probe, by kernel_rfl⟩
def D_probe_Put : FD := ⟨[(0, .leaf (.sl sPr)), (1, .grp sPr)], [], [(0, .leaf (.own 16 sPr)), (1, .leaf (.int .i64))], [(16, .rows sPr)]⟩
def L_probe_Put : List (Nat × StD × Nat × StD) := []
noncomputable def T_probe_Put : List Ent := [E_slices_Clone_Probe, E_slices_ContainsFunc_v1]
theorem ok_probe_Put : FnX Go.Proofs.Tryz.prog 120 D_probe_Put (fun x => probe_Put x.1 x.2.1) :=
  FnX.of (coL_ok (es := T_probe_Put) (OKs.mem ⟨E_slices_Clone_Probe_ok, E_slices_ContainsFunc_v1_ok, trivial⟩)) mix (mkLs_ok (l := L_probe_Put) (by kernel_rfl)) (by kernel_rfl) Go.Proofs.Tryz.func120 rfl (by decide) (by decide) (fun x => by kernel_rfl)
noncomputable def E_probe_Put : Ent := ⟨120, D_probe_Put, fun x => probe_Put x.1 x.2.1, ((0 : Int), ([], ())), false⟩
theorem E_probe_Put_ok : E_probe_Put.OK Go.Proofs.Tryz.prog := ⟨ok_probe_Put, by kernel_rfl⟩
def D_ops_ask : FD := ⟨[(0, .grp sCf), (1, .grp sSt)], [], [(0, .grp sSt), (1, .leaf (.own 16 sPk))], [(16, .rows sPk)]⟩
def L_ops_ask : List (Nat × StD × Nat × StD) := [(4, ⟨[(2, .leaf (.ptr 16 0)), (3, .leaf (.ptr 17 0)), (4, .leaf (.ptr 18 0)), (6, .leaf (.own 19 sPk)), (7, .leaf (.own 20 sPr)), (8, .leaf (.sl sPr)), (30, .leaf (.sl sPr)), (31, .leaf (.int .i64)), (32, .leaf (.int .i64))], [(19, .rows sPk), (16, .grp sCf), (17, .grp sSt), (18, .grp sSt), (20, .rows sPr)], 21, 102⟩, 0, ⟨[(2, .leaf (.ptr 16 0)), (3, .leaf (.ptr 17 0)), (4, .leaf (.ptr 18 0)), (6, .leaf (.own 19 sPk)), (7, .leaf (.own 20 sPr)), (8, .leaf (.sl sPr))], [(16, .grp sCf), (17, .grp sSt), (18, .grp sSt), (19, .rows sPk), (20, .rows sPr)], 21, 102⟩), (13, ⟨[(3, .leaf (.ptr 16 0)), (4, .leaf (.ptr 17 0)), (6, .leaf (.own 18 sPk)), (66, .leaf (.sl (.int .u32))), (67, .leaf (.int .i64)), (68, .leaf (.int .i64))], [(16, .grp sSt), (17, .grp sSt), (18, .rows sPk)], 19, 102⟩, 2, ⟨[(3, .leaf (.ptr 16 0)), (4, .leaf (.ptr 17 0)), (6, .leaf (.own 18 sPk))], [(16, .grp sSt), (17, .grp sSt), (18, .rows sPk)], 19, 102⟩)]
noncomputable def T_ops_ask : List Ent := [E_probe_Put, E_probe_Of, E_sweep_Plan_w1, E_probe_Packet, E_probe_Late]
theorem ok_ops_ask : FnX Go.Proofs.Tryz.prog 91 D_ops_ask (fun x => ops_ask x.1 x.2.1) :=
  FnX.of (coL_ok (es := T_ops_ask) (OKs.mem ⟨E_probe_Put_ok, E_probe_Of_ok, E_sweep_Plan_w1_ok, E_probe_Packet_ok, E_probe_Late_ok, trivial⟩)) mix (mkLs_ok (l := L_ops_ask) (by kernel_rfl)) (by kernel_rfl) Go.Proofs.Tryz.func91 rfl (by decide) (by decide) (fun x => by kernel_rfl)
noncomputable def E_ops_ask : Ent := ⟨91, D_ops_ask, fun x => ops_ask x.1 x.2.1, (((0 : Int), ((0 : Int), ([], ([], ([], ([], [])))))), ([], ())), true⟩
theorem E_ops_ask_ok : E_ops_ask.OK Go.Proofs.Tryz.prog := ⟨ok_ops_ask, by kernel_rfl⟩
def D_ops_tick : FD := ⟨[(0, .grp sCf), (1, .grp sSt)], [], [(0, .grp sSt), (1, .leaf (.own 16 sPk))], [(16, .rows sPk)]⟩
def L_ops_tick : List (Nat × StD × Nat × StD) := []
noncomputable def T_ops_tick : List Ent := [E_ops_ask, E_ops_forget, E_ops_raise, E_ops_execute, E_cases_Tick, E_clock_Add]
theorem ok_ops_tick : FnX Go.Proofs.Tryz.prog 64 D_ops_tick (fun x => ops_tick x.1 x.2.1) :=
  FnX.of (coL_ok (es := T_ops_tick) (OKs.mem ⟨E_ops_ask_ok, E_ops_forget_ok, E_ops_raise_ok, E_ops_execute_ok, E_cases_Tick_ok, E_clock_Add_ok, trivial⟩)) mix (mkLs_ok (l := L_ops_tick) (by kernel_rfl)) (by kernel_rfl) Go.Proofs.Tryz.func64 rfl (by decide) (by decide) (fun x => by kernel_rfl)
noncomputable def E_ops_tick : Ent := ⟨64, D_ops_tick, fun x => ops_tick x.1 x.2.1, (((0 : Int), ((0 : Int), ([], ([], ([], ([], [])))))), ([], ())), true⟩
theorem E_ops_tick_ok : E_ops_tick.OK Go.Proofs.Tryz.prog := ⟨ok_ops_tick, by kernel_rfl⟩
def D_held_Put : FD := ⟨[(0, .leaf (.sl sHd)), (1, .grp sHd)], [], [(0, .leaf (.own 16 sHd)), (1, .leaf (.int .i64))], [(16, .rows sHd)]⟩
def L_held_Put : List (Nat × StD × Nat × StD) := []
noncomputable def T_held_Put : List Ent := [E_held_May, E_held_find]
theorem ok_held_Put : FnX Go.Proofs.Tryz.prog 65 D_held_Put (fun x => held_Put x.1 x.2.1) :=
  FnX.of (coL_ok (es := T_held_Put) (OKs.mem ⟨E_held_May_ok, E_held_find_ok, trivial⟩)) mix (mkLs_ok (l := L_held_Put) (by kernel_rfl)) (by kernel_rfl) Go.Proofs.Tryz.func65 rfl (by decide) (by decide) (fun x => by kernel_rfl)
noncomputable def E_held_Put : Ent := ⟨65, D_held_Put, fun x => held_Put x.1 x.2.1, ((0 : Int), ([], ())), false⟩
theorem E_held_Put_ok : E_held_Put.OK Go.Proofs.Tryz.prog := ⟨ok_held_Put, by kernel_rfl⟩
def D_ops_lay : FD := ⟨[(0, .leaf (.ptr 0 2)), (1, .leaf (.sl sHd)), (2, .leaf (.int .i64))], [(0, .cells [(.int .i64), (.int .i64), (.sl sHd), (.sl sSw), (.sl sKn), (.sl sPr), (.sl sCa)])], [(0, .leaf (.int .i64))], [(0, .cells [(.int .i64), (.int .i64), (.sl sHd), (.sl sSw), (.sl sKn), (.sl sPr), (.sl sCa)])]⟩
def L_ops_lay : List (Nat × StD × Nat × StD) := []
noncomputable def T_ops_lay : List Ent := []
theorem ok_ops_lay : FnX Go.Proofs.Tryz.prog 66 D_ops_lay (fun x => ops_lay x.1 x.2.1 x.2.2.1 x.2.2.2.1 x.2.2.2.2.1 x.2.2.2.2.2.1 x.2.2.2.2.2.2.1 x.2.2.2.2.2.2.2.1 x.2.2.2.2.2.2.2.2.1) :=
  FnX.of (coL_ok (es := T_ops_lay) (OKs.mem trivial)) mix (mkLs_ok (l := L_ops_lay) (by kernel_rfl)) (by kernel_rfl) Go.Proofs.Tryz.func66 rfl (by decide) (by decide) (fun x => by kernel_rfl)
noncomputable def E_ops_lay : Ent := ⟨66, D_ops_lay, fun x => ops_lay x.1 x.2.1 x.2.2.1 x.2.2.2.1 x.2.2.2.2.1 x.2.2.2.2.2.1 x.2.2.2.2.2.2.1 x.2.2.2.2.2.2.2.1 x.2.2.2.2.2.2.2.2.1, ((0 : Int), ((0 : Int), ((0 : Int), ([], ([], ([], ([], ([], ())))))))), true⟩
theorem E_ops_lay_ok : E_ops_lay.OK Go.Proofs.Tryz.prog := ⟨ok_ops_lay, by kernel_rfl⟩
def D_ops_drop : FD := ⟨[(0, .grp sSt), (1, .leaf (.int .u32))], [], [(0, .grp sSt), (1, .leaf (.int .i64))], []⟩
def L_ops_drop : List (Nat × StD × Nat × StD) := []
noncomputable def T_ops_drop : List Ent := [E_cases_Cancel, E_held_Take]
theorem ok_ops_drop : FnX Go.Proofs.Tryz.prog 67 D_ops_drop (fun x => ops_drop x.1 x.2.1) :=
  FnX.of (coL_ok (es := T_ops_drop) (OKs.mem ⟨E_cases_Cancel_ok, E_held_Take_ok, trivial⟩)) mix (mkLs_ok (l := L_ops_drop) (by kernel_rfl)) (by kernel_rfl) Go.Proofs.Tryz.func67 rfl (by decide) (by decide) (fun x => by kernel_rfl)
noncomputable def E_ops_drop : Ent := ⟨67, D_ops_drop, fun x => ops_drop x.1 x.2.1, (((0 : Int), ((0 : Int), ([], ([], ([], ([], [])))))), ((0 : Int), ())), true⟩
theorem E_ops_drop_ok : E_ops_drop.OK Go.Proofs.Tryz.prog := ⟨ok_ops_drop, by kernel_rfl⟩
def D_sweep_Put_1 : FD := ⟨[(0, .grp sSw), (1, .leaf (.fpt sBk 0))], [], [(0, .leaf .bool)], []⟩
def L_sweep_Put_1 : List (Nat × StD × Nat × StD) := []
noncomputable def T_sweep_Put_1 : List Ent := [E_addr_Overlap]
theorem ok_sweep_Put_1 : FnX Go.Proofs.Tryz.prog 99 D_sweep_Put_1 (fun x => sweep_Put_1 x.1 x.2.1) :=
  FnX.of (coL_ok (es := T_sweep_Put_1) (OKs.mem ⟨E_addr_Overlap_ok, trivial⟩)) mix (mkLs_ok (l := L_sweep_Put_1) (by kernel_rfl)) (by kernel_rfl) Go.Proofs.Tryz.func99 rfl (by decide) (by decide) (fun x => by kernel_rfl)
noncomputable def E_sweep_Put_1 : Ent := ⟨99, D_sweep_Put_1, fun x => sweep_Put_1 x.1 x.2.1, (false, ()), false⟩
theorem E_sweep_Put_1_ok : E_sweep_Put_1.OK Go.Proofs.Tryz.prog := ⟨ok_sweep_Put_1, by kernel_rfl⟩
def D_slices_IndexFunc_w1 : FD := ⟨[(0, .leaf (.sl sSw)), (1, .fn 99 [] [(.fpt sBk 0)])], [], [(0, .leaf (.int .i64))], []⟩
def L_slices_IndexFunc_w1 : List (Nat × StD × Nat × StD) := [(2, ⟨[(0, .leaf (.sl sSw)), (1, .fn 99 [] [(.fpt sBk 0)]), (7, .leaf (.int .i64)), (8, .leaf (.int .i64))], [], 16, 19⟩, 0, ⟨[], [], 16, 19⟩)]
noncomputable def T_slices_IndexFunc_w1 : List Ent := [E_sweep_Put_1]
theorem ok_slices_IndexFunc_w1 : FnX Go.Proofs.Tryz.prog 103 D_slices_IndexFunc_w1 (fun x => slices_IndexFunc_w1 x.1 x.2.1) :=
  FnX.of (coL_ok (es := T_slices_IndexFunc_w1) (OKs.mem ⟨E_sweep_Put_1_ok, trivial⟩)) mix (mkLs_ok (l := L_slices_IndexFunc_w1) (by kernel_rfl)) (by kernel_rfl) Go.Proofs.Tryz.func103 rfl (by decide) (by decide) (fun x => by kernel_rfl)
noncomputable def E_slices_IndexFunc_w1 : Ent := ⟨103, D_slices_IndexFunc_w1, fun x => slices_IndexFunc_w1 x.1 x.2.1, ((0 : Int), ()), false⟩
theorem E_slices_IndexFunc_w1_ok : E_slices_IndexFunc_w1.OK Go.Proofs.Tryz.prog := ⟨ok_slices_IndexFunc_w1, by kernel_rfl⟩
def D_slices_ContainsFunc_w1 : FD := ⟨[(0, .leaf (.sl sSw)), (1, .fn 99 [] [(.fpt sBk 0)])], [], [(0, .leaf .bool)], []⟩
def L_slices_ContainsFunc_w1 : List (Nat × StD × Nat × StD) := []
noncomputable def T_slices_ContainsFunc_w1 : List Ent := [E_slices_IndexFunc_w1]
theorem ok_slices_ContainsFunc_w1 : FnX Go.Proofs.Tryz.prog 98 D_slices_ContainsFunc_w1 (fun x => slices_ContainsFunc_w1 x.1 x.2.1) :=
  FnX.of (coL_ok (es := T_slices_ContainsFunc_w1) (OKs.mem ⟨E_slices_IndexFunc_w1_ok, trivial⟩)) mix (mkLs_ok (l := L_slices_ContainsFunc_w1) (by kernel_rfl)) (by kernel_rfl) Go.Proofs.Tryz.func98 rfl (by decide) (by decide) (fun x => by kernel_rfl)
noncomputable def E_slices_ContainsFunc_w1 : Ent := ⟨98, D_slices_ContainsFunc_w1, fun x => slices_ContainsFunc_w1 x.1 x.2.1, (false, ()), false⟩
theorem E_slices_ContainsFunc_w1_ok : E_slices_ContainsFunc_w1.OK Go.Proofs.Tryz.prog := ⟨ok_slices_ContainsFunc_w1, by kernel_rfl⟩
end Go.Tr
namespace Go.Proofs
open Go Go.Shelf Go.RowKit Go.Lib Go.Sort
theorem walk_sweep_Put_2 (x y : ((Int × Int) × Int × Int)) (W : World) : Calls Go.Proofs.Tryz.prog 102 #[.agg #[.int .u32 x.1.1, .int .i64 x.1.2, .int .i64 x.2.1, .int .i64 x.2.2], .agg #[.int .u32 y.1.1, .int .i64 y.1.2, .int .i64 y.2.1, .int .i64 y.2.2]] W fun en w' => ∃ c, Go.Tr.sweep_Put_2 x y = some (c, ()) ∧ en = .returned (.int .i64 c) ∧ ∃ q os', w' = grow (W.drewN q) os' := by
  go_enter Go.Proofs.Tryz.func102, Go.Proofs.Tryz.ntmps102
  go_wp2
  go_ret
  refine ⟨_, rfl, ?_, 0, _, by rw [alloc_eq_grow, alloc_eq_grow, grow_grow]; rfl⟩
  simp only [IntWalk.i64_left]
  rfl
end Go.Proofs
namespace Go.Tr
open Go
set_option linter.unusedVariables false
set_option maxRecDepth 100000
def D_slices_SortFunc_sweep_Put_2 : FD := D_Sort sSw 102
theorem ok_slices_SortFunc_sweep_Put_2 : FnX Go.Proofs.Tryz.prog 101 D_slices_SortFunc_sweep_Put_2 (fun x => slices_SortFunc_sweep_Put_2 x.1) :=
  X_Sort (e := sSw) ⟨_, Go.Proofs.Tryz.func101, by decide, rfl⟩ Go.Proofs.Tryz.gsort101 rfl (by decide) Go.Proofs.Tryz.isAgg77 Go.Proofs.Tryz.sizeOf77 (Go.Proofs.enters_of Go.Proofs.Tryz.func102 (by kernel_rfl) rfl) (by decide) Go.Proofs.walk_sweep_Put_2 (fun x y => ⟨_, rfl⟩)
noncomputable def E_slices_SortFunc_sweep_Put_2 : Ent := ⟨101, D_slices_SortFunc_sweep_Put_2, fun x => slices_SortFunc_sweep_Put_2 x.1, ([], ()), false⟩
theorem E_slices_SortFunc_sweep_Put_2_ok : E_slices_SortFunc_sweep_Put_2.OK Go.Proofs.Tryz.prog := ⟨ok_slices_SortFunc_sweep_Put_2, by kernel_rfl⟩
def D_sweep_Put : FD := ⟨[(0, .leaf (.sl sSw)), (1, .grp sBk), (2, .leaf (.int .i64))], [], [(0, .leaf (.own 16 sSw)), (1, .leaf (.int .i64))], [(16, .rows sSw)]⟩
def L_sweep_Put : List (Nat × StD × Nat × StD) := []
noncomputable def T_sweep_Put : List Ent := [E_slices_SortFunc_sweep_Put_2, E_clock_Clamp, E_slices_Clone_Sweep, E_slices_ContainsFunc_w1, E_addr_Size, E_addr_Right]
theorem ok_sweep_Put : FnX Go.Proofs.Tryz.prog 68 D_sweep_Put (fun x => sweep_Put x.1 x.2.1 x.2.2.1) :=
  FnX.of (coL_ok (es := T_sweep_Put) (OKs.mem ⟨E_slices_SortFunc_sweep_Put_2_ok, E_clock_Clamp_ok, E_slices_Clone_Sweep_ok, E_slices_ContainsFunc_w1_ok, E_addr_Size_ok, E_addr_Right_ok, trivial⟩)) mix (mkLs_ok (l := L_sweep_Put) (by kernel_rfl)) (by kernel_rfl) Go.Proofs.Tryz.func68 rfl (by decide) (by decide) (fun x => by kernel_rfl)
noncomputable def E_sweep_Put : Ent := ⟨68, D_sweep_Put, fun x => sweep_Put x.1 x.2.1 x.2.2.1, ((0 : Int), ([], ())), false⟩
theorem E_sweep_Put_ok : E_sweep_Put.OK Go.Proofs.Tryz.prog := ⟨ok_sweep_Put, by kernel_rfl⟩
def D_ops_lay_v1 : FD := ⟨[(0, .leaf (.ptr 0 3)), (1, .leaf (.sl sSw)), (2, .leaf (.int .i64))], [(0, .cells [(.int .i64), (.int .i64), (.sl sHd), (.sl sSw), (.sl sKn), (.sl sPr), (.sl sCa)])], [(0, .leaf (.int .i64))], [(0, .cells [(.int .i64), (.int .i64), (.sl sHd), (.sl sSw), (.sl sKn), (.sl sPr), (.sl sCa)])]⟩
def L_ops_lay_v1 : List (Nat × StD × Nat × StD) := []
noncomputable def T_ops_lay_v1 : List Ent := []
theorem ok_ops_lay_v1 : FnX Go.Proofs.Tryz.prog 69 D_ops_lay_v1 (fun x => ops_lay_v1 x.1 x.2.1 x.2.2.1 x.2.2.2.1 x.2.2.2.2.1 x.2.2.2.2.2.1 x.2.2.2.2.2.2.1 x.2.2.2.2.2.2.2.1 x.2.2.2.2.2.2.2.2.1) :=
  FnX.of (coL_ok (es := T_ops_lay_v1) (OKs.mem trivial)) mix (mkLs_ok (l := L_ops_lay_v1) (by kernel_rfl)) (by kernel_rfl) Go.Proofs.Tryz.func69 rfl (by decide) (by decide) (fun x => by kernel_rfl)
noncomputable def E_ops_lay_v1 : Ent := ⟨69, D_ops_lay_v1, fun x => ops_lay_v1 x.1 x.2.1 x.2.2.1 x.2.2.2.1 x.2.2.2.2.1 x.2.2.2.2.2.1 x.2.2.2.2.2.2.1 x.2.2.2.2.2.2.2.1 x.2.2.2.2.2.2.2.2.1, ((0 : Int), ((0 : Int), ((0 : Int), ([], ([], ([], ([], ([], ())))))))), true⟩
theorem E_ops_lay_v1_ok : E_ops_lay_v1.OK Go.Proofs.Tryz.prog := ⟨ok_ops_lay_v1, by kernel_rfl⟩
def D_sweep_Take_1 : FD := ⟨[(0, .grp sSw), (1, .leaf (.fpt sBk 0))], [], [(0, .leaf .bool)], []⟩
def L_sweep_Take_1 : List (Nat × StD × Nat × StD) := []
noncomputable def T_sweep_Take_1 : List Ent := []
theorem ok_sweep_Take_1 : FnX Go.Proofs.Tryz.prog 104 D_sweep_Take_1 (fun x => sweep_Take_1 x.1 x.2.1) :=
  FnX.of (coL_ok (es := T_sweep_Take_1) (OKs.mem trivial)) mix (mkLs_ok (l := L_sweep_Take_1) (by kernel_rfl)) (by kernel_rfl) Go.Proofs.Tryz.func104 rfl (by decide) (by decide) (fun x => by kernel_rfl)
noncomputable def E_sweep_Take_1 : Ent := ⟨104, D_sweep_Take_1, fun x => sweep_Take_1 x.1 x.2.1, (false, ()), false⟩
theorem E_sweep_Take_1_ok : E_sweep_Take_1.OK Go.Proofs.Tryz.prog := ⟨ok_sweep_Take_1, by kernel_rfl⟩
def D_slices_IndexFunc_v1_w1 : FD := ⟨[(0, .leaf (.sl sSw)), (1, .fn 104 [] [(.fpt sBk 0)])], [], [(0, .leaf (.int .i64))], []⟩
def L_slices_IndexFunc_v1_w1 : List (Nat × StD × Nat × StD) := [(2, ⟨[(0, .leaf (.sl sSw)), (1, .fn 104 [] [(.fpt sBk 0)]), (7, .leaf (.int .i64)), (8, .leaf (.int .i64))], [], 16, 19⟩, 0, ⟨[], [], 16, 19⟩)]
noncomputable def T_slices_IndexFunc_v1_w1 : List Ent := [E_sweep_Take_1]
theorem ok_slices_IndexFunc_v1_w1 : FnX Go.Proofs.Tryz.prog 103 D_slices_IndexFunc_v1_w1 (fun x => slices_IndexFunc_v1_w1 x.1 x.2.1) :=
  FnX.of (coL_ok (es := T_slices_IndexFunc_v1_w1) (OKs.mem ⟨E_sweep_Take_1_ok, trivial⟩)) mix (mkLs_ok (l := L_slices_IndexFunc_v1_w1) (by kernel_rfl)) (by kernel_rfl) Go.Proofs.Tryz.func103 rfl (by decide) (by decide) (fun x => by kernel_rfl)
noncomputable def E_slices_IndexFunc_v1_w1 : Ent := ⟨103, D_slices_IndexFunc_v1_w1, fun x => slices_IndexFunc_v1_w1 x.1 x.2.1, ((0 : Int), ()), false⟩
theorem E_slices_IndexFunc_v1_w1_ok : E_slices_IndexFunc_v1_w1.OK Go.Proofs.Tryz.prog := ⟨ok_slices_IndexFunc_v1_w1, by kernel_rfl⟩
def D_slices_Delete_Sweep : FD := D_Delete sSw
theorem ok_slices_Delete_Sweep : FnX Go.Proofs.Tryz.prog 105 D_slices_Delete_Sweep (fun x => slices_Delete_Sweep x.1 x.2.1 x.2.2.1) :=
  X_Delete ⟨_, Go.Proofs.Tryz.func105, by decide, rfl⟩ Go.Proofs.Tryz.gdelete105 rfl (by kernel_rfl) (by decide) (by kernel_rfl) (by kernel_rfl) Go.Proofs.Tryz.zeroValue77 Go.Proofs.Tryz.sizeOf77
noncomputable def E_slices_Delete_Sweep : Ent := ⟨105, D_slices_Delete_Sweep, fun x => slices_Delete_Sweep x.1 x.2.1 x.2.2.1, ([], ()), false⟩
theorem E_slices_Delete_Sweep_ok : E_slices_Delete_Sweep.OK Go.Proofs.Tryz.prog := ⟨ok_slices_Delete_Sweep, by kernel_rfl⟩
def D_sweep_Take : FD := ⟨[(0, .leaf (.sl sSw)), (1, .grp sBk)], [], [(0, .leaf (.own 16 sSw)), (1, .leaf (.int .i64))], [(16, .rows sSw)]⟩
def L_sweep_Take : List (Nat × StD × Nat × StD) := []
noncomputable def T_sweep_Take : List Ent := [E_slices_Delete_Sweep, E_slices_Clone_Sweep, E_slices_IndexFunc_v1_w1]
theorem ok_sweep_Take : FnX Go.Proofs.Tryz.prog 70 D_sweep_Take (fun x => sweep_Take x.1 x.2.1) :=
  FnX.of (coL_ok (es := T_sweep_Take) (OKs.mem ⟨E_slices_Delete_Sweep_ok, E_slices_Clone_Sweep_ok, E_slices_IndexFunc_v1_w1_ok, trivial⟩)) mix (mkLs_ok (l := L_sweep_Take) (by kernel_rfl)) (by kernel_rfl) Go.Proofs.Tryz.func70 rfl (by decide) (by decide) (fun x => by kernel_rfl)
noncomputable def E_sweep_Take : Ent := ⟨70, D_sweep_Take, fun x => sweep_Take x.1 x.2.1, ((0 : Int), ([], ())), false⟩
theorem E_sweep_Take_ok : E_sweep_Take.OK Go.Proofs.Tryz.prog := ⟨ok_sweep_Take, by kernel_rfl⟩
def D_ops_answered_1 : FD := ⟨[(0, .grp sPr), (1, .leaf (.fpt (.int .u32) 0))], [], [(0, .leaf .bool)], []⟩
def L_ops_answered_1 : List (Nat × StD × Nat × StD) := []
noncomputable def T_ops_answered_1 : List Ent := []
theorem ok_ops_answered_1 : FnX Go.Proofs.Tryz.prog 133 D_ops_answered_1 (fun x => ops_answered_1 x.1 x.2.1) :=
  FnX.of (coL_ok (es := T_ops_answered_1) (OKs.mem trivial)) mix (mkLs_ok (l := L_ops_answered_1) (by kernel_rfl)) (by kernel_rfl) Go.Proofs.Tryz.func133 rfl (by decide) (by decide) (fun x => by kernel_rfl)
noncomputable def E_ops_answered_1 : Ent := ⟨133, D_ops_answered_1, fun x => ops_answered_1 x.1 x.2.1, (false, ()), false⟩
theorem E_ops_answered_1_ok : E_ops_answered_1.OK Go.Proofs.Tryz.prog := ⟨ok_ops_answered_1, by kernel_rfl⟩
def D_slices_IndexFunc_v5 : FD := ⟨[(0, .leaf (.sl sPr)), (1, .fn 133 [] [(.fpt (.int .u32) 0)])], [], [(0, .leaf (.int .i64))], []⟩
def L_slices_IndexFunc_v5 : List (Nat × StD × Nat × StD) := [(2, ⟨[(0, .leaf (.sl sPr)), (1, .fn 133 [] [(.fpt (.int .u32) 0)]), (7, .leaf (.int .i64)), (8, .leaf (.int .i64))], [], 16, 19⟩, 0, ⟨[], [], 16, 19⟩)]
noncomputable def T_slices_IndexFunc_v5 : List Ent := [E_ops_answered_1]
theorem ok_slices_IndexFunc_v5 : FnX Go.Proofs.Tryz.prog 111 D_slices_IndexFunc_v5 (fun x => slices_IndexFunc_v5 x.1 x.2.1) :=
  FnX.of (coL_ok (es := T_slices_IndexFunc_v5) (OKs.mem ⟨E_ops_answered_1_ok, trivial⟩)) mix (mkLs_ok (l := L_slices_IndexFunc_v5) (by kernel_rfl)) (by kernel_rfl) Go.Proofs.Tryz.func111 rfl (by decide) (by decide) (fun x => by kernel_rfl)
noncomputable def E_slices_IndexFunc_v5 : Ent := ⟨111, D_slices_IndexFunc_v5, fun x => slices_IndexFunc_v5 x.1 x.2.1, ((0 : Int), ()), false⟩
theorem E_slices_IndexFunc_v5_ok : E_slices_IndexFunc_v5.OK Go.Proofs.Tryz.prog := ⟨ok_slices_IndexFunc_v5, by kernel_rfl⟩
def D_slices_Delete_Probe : FD := D_Delete sPr
theorem ok_slices_Delete_Probe : FnX Go.Proofs.Tryz.prog 134 D_slices_Delete_Probe (fun x => slices_Delete_Probe x.1 x.2.1 x.2.2.1) :=
  X_Delete ⟨_, Go.Proofs.Tryz.func134, by decide, rfl⟩ Go.Proofs.Tryz.gdelete134 rfl (by kernel_rfl) (by decide) (by kernel_rfl) (by kernel_rfl) Go.Proofs.Tryz.zeroValue90 Go.Proofs.Tryz.sizeOf90
noncomputable def E_slices_Delete_Probe : Ent := ⟨134, D_slices_Delete_Probe, fun x => slices_Delete_Probe x.1 x.2.1 x.2.2.1, ([], ()), false⟩
theorem E_slices_Delete_Probe_ok : E_slices_Delete_Probe.OK Go.Proofs.Tryz.prog := ⟨ok_slices_Delete_Probe, by kernel_rfl⟩
def D_ops_answered : FD := ⟨[(0, .grp sSt), (1, .leaf (.int .u32))], [], [(0, .grp sSt), (1, .leaf (.int .i64))], []⟩
def L_ops_answered : List (Nat × StD × Nat × StD) := []
noncomputable def T_ops_answered : List Ent := [E_slices_Delete_Probe, E_slices_Clone_Probe, E_slices_IndexFunc_v5]
theorem ok_ops_answered : FnX Go.Proofs.Tryz.prog 106 D_ops_answered (fun x => ops_answered x.1 x.2.1) :=
  FnX.of (coL_ok (es := T_ops_answered) (OKs.mem ⟨E_slices_Delete_Probe_ok, E_slices_Clone_Probe_ok, E_slices_IndexFunc_v5_ok, trivial⟩)) mix (mkLs_ok (l := L_ops_answered) (by kernel_rfl)) (by kernel_rfl) Go.Proofs.Tryz.func106 rfl (by decide) (by decide) (fun x => by kernel_rfl)
noncomputable def E_ops_answered : Ent := ⟨106, D_ops_answered, fun x => ops_answered x.1 x.2.1, (((0 : Int), ((0 : Int), ([], ([], ([], ([], [])))))), ((0 : Int), ())), true⟩
theorem E_ops_answered_ok : E_ops_answered.OK Go.Proofs.Tryz.prog := ⟨ok_ops_answered, by kernel_rfl⟩
def D_seen_Keep : FD := ⟨[(0, .leaf (.sl sSg)), (1, .grp sSg)], [], [(0, .leaf (.sl sSg))], []⟩
def L_seen_Keep : List (Nat × StD × Nat × StD) := []
noncomputable def T_seen_Keep : List Ent := []
theorem ok_seen_Keep : FnX Go.Proofs.Tryz.prog 137 D_seen_Keep (fun x => seen_Keep x.1 x.2.1) :=
  FnX.of (coL_ok (es := T_seen_Keep) (OKs.mem trivial)) mix (mkLs_ok (l := L_seen_Keep) (by kernel_rfl)) (by kernel_rfl) Go.Proofs.Tryz.func137 rfl (by decide) (by decide) (fun x => by kernel_rfl)
noncomputable def E_seen_Keep : Ent := ⟨137, D_seen_Keep, fun x => seen_Keep x.1 x.2.1, ([], ()), true⟩
theorem E_seen_Keep_ok : E_seen_Keep.OK Go.Proofs.Tryz.prog := ⟨ok_seen_Keep, by kernel_rfl⟩
def D_seen_Put : FD := ⟨[(0, .leaf (.sl sKn)), (1, .leaf (.int .u32)), (2, .grp sSg)], [], [(0, .leaf (.own 16 sKn)), (1, .leaf (.int .i64))], [(16, .rows sKn)]⟩
def L_seen_Put : List (Nat × StD × Nat × StD) := []
noncomputable def T_seen_Put : List Ent := [E_seen_Keep, E_seen_Last, E_seen_find]
theorem ok_seen_Put : FnX Go.Proofs.Tryz.prog 107 D_seen_Put (fun x => seen_Put x.1 x.2.1 x.2.2.1) :=
  FnX.of (coL_ok (es := T_seen_Put) (OKs.mem ⟨E_seen_Keep_ok, E_seen_Last_ok, E_seen_find_ok, trivial⟩)) mix (mkLs_ok (l := L_seen_Put) (by kernel_rfl)) (by kernel_rfl) Go.Proofs.Tryz.func107 rfl (by decide) (by decide) (fun x => by kernel_rfl)
noncomputable def E_seen_Put : Ent := ⟨107, D_seen_Put, fun x => seen_Put x.1 x.2.1 x.2.2.1, ((0 : Int), ([], ())), true⟩
theorem E_seen_Put_ok : E_seen_Put.OK Go.Proofs.Tryz.prog := ⟨ok_seen_Put, by kernel_rfl⟩
def D_ops_saw : FD := ⟨[(0, .grp sSt), (1, .grp sEv)], [], [(0, .grp sSt), (1, .leaf (.int .i64))], []⟩
def L_ops_saw : List (Nat × StD × Nat × StD) := []
noncomputable def T_ops_saw : List Ent := [E_cases_Cancel, E_seen_Put, E_ops_answered]
theorem ok_ops_saw : FnX Go.Proofs.Tryz.prog 71 D_ops_saw (fun x => ops_saw x.1 x.2.1) :=
  FnX.of (coL_ok (es := T_ops_saw) (OKs.mem ⟨E_cases_Cancel_ok, E_seen_Put_ok, E_ops_answered_ok, trivial⟩)) mix (mkLs_ok (l := L_ops_saw) (by kernel_rfl)) (by kernel_rfl) Go.Proofs.Tryz.func71 rfl (by decide) (by decide) (fun x => by kernel_rfl)
noncomputable def E_ops_saw : Ent := ⟨71, D_ops_saw, fun x => ops_saw x.1 x.2.1, (((0 : Int), ((0 : Int), ([], ([], ([], ([], [])))))), ((0 : Int), ())), true⟩
theorem E_ops_saw_ok : E_ops_saw.OK Go.Proofs.Tryz.prog := ⟨ok_ops_saw, by kernel_rfl⟩
def D_cases_Approve : FD := ⟨[(0, .leaf (.sl sCa)), (1, .leaf (.int .u32)), (2, .leaf (.int .i64))], [], [(0, .leaf (.own 16 sCa)), (1, .leaf (.int .i64))], [(16, .rows sCa)]⟩
def L_cases_Approve : List (Nat × StD × Nat × StD) := []
noncomputable def T_cases_Approve : List Ent := [E_cases_next]
theorem ok_cases_Approve : FnX Go.Proofs.Tryz.prog 72 D_cases_Approve (fun x => cases_Approve x.1 x.2.1 x.2.2.1) :=
  FnX.of (coL_ok (es := T_cases_Approve) (OKs.mem ⟨E_cases_next_ok, trivial⟩)) mix (mkLs_ok (l := L_cases_Approve) (by kernel_rfl)) (by kernel_rfl) Go.Proofs.Tryz.func72 rfl (by decide) (by decide) (fun x => by kernel_rfl)
noncomputable def E_cases_Approve : Ent := ⟨72, D_cases_Approve, fun x => cases_Approve x.1 x.2.1 x.2.2.1, ((0 : Int), ([], ())), false⟩
theorem E_cases_Approve_ok : E_cases_Approve.OK Go.Proofs.Tryz.prog := ⟨ok_cases_Approve, by kernel_rfl⟩
def D_ops_lay_v2 : FD := ⟨[(0, .leaf (.ptr 0 6)), (1, .leaf (.sl sCa)), (2, .leaf (.int .i64))], [(0, .cells [(.int .i64), (.int .i64), (.sl sHd), (.sl sSw), (.sl sKn), (.sl sPr), (.sl sCa)])], [(0, .leaf (.int .i64))], [(0, .cells [(.int .i64), (.int .i64), (.sl sHd), (.sl sSw), (.sl sKn), (.sl sPr), (.sl sCa)])]⟩
def L_ops_lay_v2 : List (Nat × StD × Nat × StD) := []
noncomputable def T_ops_lay_v2 : List Ent := []
theorem ok_ops_lay_v2 : FnX Go.Proofs.Tryz.prog 73 D_ops_lay_v2 (fun x => ops_lay_v2 x.1 x.2.1 x.2.2.1 x.2.2.2.1 x.2.2.2.2.1 x.2.2.2.2.2.1 x.2.2.2.2.2.2.1 x.2.2.2.2.2.2.2.1 x.2.2.2.2.2.2.2.2.1) :=
  FnX.of (coL_ok (es := T_ops_lay_v2) (OKs.mem trivial)) mix (mkLs_ok (l := L_ops_lay_v2) (by kernel_rfl)) (by kernel_rfl) Go.Proofs.Tryz.func73 rfl (by decide) (by decide) (fun x => by kernel_rfl)
noncomputable def E_ops_lay_v2 : Ent := ⟨73, D_ops_lay_v2, fun x => ops_lay_v2 x.1 x.2.1 x.2.2.1 x.2.2.2.1 x.2.2.2.2.1 x.2.2.2.2.2.1 x.2.2.2.2.2.2.1 x.2.2.2.2.2.2.2.1 x.2.2.2.2.2.2.2.2.1, ((0 : Int), ((0 : Int), ((0 : Int), ([], ([], ([], ([], ([], ())))))))), true⟩
theorem E_ops_lay_v2_ok : E_ops_lay_v2.OK Go.Proofs.Tryz.prog := ⟨ok_ops_lay_v2, by kernel_rfl⟩
def D_cases_Reject : FD := ⟨[(0, .leaf (.sl sCa)), (1, .leaf (.int .u32)), (2, .leaf (.int .i64))], [], [(0, .leaf (.own 16 sCa)), (1, .leaf (.int .i64))], [(16, .rows sCa)]⟩
def L_cases_Reject : List (Nat × StD × Nat × StD) := []
noncomputable def T_cases_Reject : List Ent := [E_cases_next]
theorem ok_cases_Reject : FnX Go.Proofs.Tryz.prog 74 D_cases_Reject (fun x => cases_Reject x.1 x.2.1 x.2.2.1) :=
  FnX.of (coL_ok (es := T_cases_Reject) (OKs.mem ⟨E_cases_next_ok, trivial⟩)) mix (mkLs_ok (l := L_cases_Reject) (by kernel_rfl)) (by kernel_rfl) Go.Proofs.Tryz.func74 rfl (by decide) (by decide) (fun x => by kernel_rfl)
noncomputable def E_cases_Reject : Ent := ⟨74, D_cases_Reject, fun x => cases_Reject x.1 x.2.1 x.2.2.1, ((0 : Int), ([], ())), false⟩
theorem E_cases_Reject_ok : E_cases_Reject.OK Go.Proofs.Tryz.prog := ⟨ok_cases_Reject, by kernel_rfl⟩
def D_ops_Do : FD := ⟨[(0, .grp sCf), (1, .grp sSt), (2, .grp sEv)], [], [(0, .grp sSt), (1, .leaf (.own 16 sPk)), (2, .leaf (.int .i64))], [(16, .rows sPk)]⟩
def L_ops_Do : List (Nat × StD × Nat × StD) := []
noncomputable def T_ops_Do : List Ent := [E_cases_Reject, E_ops_lay_v2, E_cases_Approve, E_ops_saw, E_sweep_Take, E_ops_lay_v1, E_sweep_Put, E_ops_drop, E_ops_lay, E_held_Put, E_ops_tick]
theorem ok_ops_Do : FnX Go.Proofs.Tryz.prog 18 D_ops_Do (fun x => ops_Do x.1 x.2.1 x.2.2.1) :=
  FnX.of (coL_ok (es := T_ops_Do) (OKs.mem ⟨E_cases_Reject_ok, E_ops_lay_v2_ok, E_cases_Approve_ok, E_ops_saw_ok, E_sweep_Take_ok, E_ops_lay_v1_ok, E_sweep_Put_ok, E_ops_drop_ok, E_ops_lay_ok, E_held_Put_ok, E_ops_tick_ok, trivial⟩)) mix (mkLs_ok (l := L_ops_Do) (by kernel_rfl)) (by kernel_rfl) Go.Proofs.Tryz.func18 rfl (by decide) (by decide) (fun x => by kernel_rfl)
noncomputable def E_ops_Do : Ent := ⟨18, D_ops_Do, fun x => ops_Do x.1 x.2.1 x.2.2.1, (((0 : Int), ((0 : Int), ([], ([], ([], ([], [])))))), ((0 : Int), ([], ()))), true⟩
theorem E_ops_Do_ok : E_ops_Do.OK Go.Proofs.Tryz.prog := ⟨ok_ops_Do, by kernel_rfl⟩
def D_terrierlaw18_Some : FD := ⟨[(0, .grp sCf), (1, .leaf (.sl sMc))], [], [(0, .grp sSt)], []⟩
def L_terrierlaw18_Some : List (Nat × StD × Nat × StD) := [(3, ⟨[(2, .leaf (.ptr 16 0)), (4, .leaf (.ptr 17 0)), (5, .leaf (.ptr 18 0)), (9, .leaf (.own 19 sEv)), (10, .leaf (.int .i64)), (11, .leaf (.int .i64))], [(16, .grp sCf), (17, .grp sSt), (18, .grp sSt), (19, .rows sEv)], 20, 25⟩, 0, ⟨[(4, .leaf (.ptr 16 0)), (5, .leaf (.ptr 17 0))], [(16, .grp sSt), (17, .grp sSt)], 18, 25⟩)]
noncomputable def T_terrierlaw18_Some : List Ent := [E_ops_Do, E_terrierlaw18_Events]
theorem ok_terrierlaw18_Some : FnX Go.Proofs.Tryz.prog 7 D_terrierlaw18_Some (fun x => terrierlaw18_Some x.1 x.2.1) :=
  FnX.of (coL_ok (es := T_terrierlaw18_Some) (OKs.mem ⟨E_ops_Do_ok, E_terrierlaw18_Events_ok, trivial⟩)) mix (mkLs_ok (l := L_terrierlaw18_Some) (by kernel_rfl)) (by kernel_rfl) Go.Proofs.Tryz.func7 rfl (by decide) (by decide) (fun x => by kernel_rfl)
noncomputable def E_terrierlaw18_Some : Ent := ⟨7, D_terrierlaw18_Some, fun x => terrierlaw18_Some x.1 x.2.1, (((0 : Int), ((0 : Int), ([], ([], ([], ([], [])))))), ()), true⟩
theorem E_terrierlaw18_Some_ok : E_terrierlaw18_Some.OK Go.Proofs.Tryz.prog := ⟨ok_terrierlaw18_Some, by kernel_rfl⟩
def D_terrierlaw18_Same : FD := ⟨[(0, .grp sSt), (1, .grp sSt)], [], [(0, .leaf .bool)], []⟩
def L_terrierlaw18_Same : List (Nat × StD × Nat × StD) := [(5, ⟨[(2, .leaf (.ptr 16 0)), (3, .leaf (.ptr 17 0)), (5, .leaf .bool), (71, .leaf (.int .i64)), (72, .leaf (.int .i64))], [(16, .grp sSt), (17, .grp sSt)], 18, 227⟩, 0, ⟨[(2, .leaf (.ptr 16 0)), (3, .leaf (.ptr 17 0)), (5, .leaf .bool)], [(16, .grp sSt), (17, .grp sSt)], 18, 227⟩), (10, ⟨[(2, .leaf (.ptr 16 0)), (3, .leaf (.ptr 17 0)), (5, .leaf .bool), (92, .leaf (.int .i64)), (93, .leaf (.int .i64))], [(16, .grp sSt), (17, .grp sSt)], 18, 227⟩, 2, ⟨[(2, .leaf (.ptr 16 0)), (3, .leaf (.ptr 17 0)), (5, .leaf .bool)], [(16, .grp sSt), (17, .grp sSt)], 18, 227⟩), (15, ⟨[(2, .leaf (.ptr 16 0)), (3, .leaf (.ptr 17 0)), (5, .leaf .bool), (113, .leaf (.int .i64)), (114, .leaf (.int .i64))], [(16, .grp sSt), (17, .grp sSt)], 18, 227⟩, 4, ⟨[(2, .leaf (.ptr 16 0)), (3, .leaf (.ptr 17 0)), (5, .leaf .bool)], [(16, .grp sSt), (17, .grp sSt)], 18, 227⟩), (20, ⟨[(2, .leaf (.ptr 16 0)), (3, .leaf (.ptr 17 0)), (5, .leaf .bool), (134, .leaf (.int .i64)), (135, .leaf (.int .i64))], [(16, .grp sSt), (17, .grp sSt)], 18, 227⟩, 6, ⟨[(2, .leaf (.ptr 16 0)), (3, .leaf (.ptr 17 0)), (5, .leaf .bool)], [(16, .grp sSt), (17, .grp sSt)], 18, 227⟩), (25, ⟨[(2, .leaf (.ptr 16 0)), (3, .leaf (.ptr 17 0)), (5, .leaf .bool), (155, .leaf (.int .i64)), (156, .leaf (.int .i64))], [(16, .grp sSt), (17, .grp sSt)], 18, 227⟩, 8, ⟨[(5, .leaf .bool)], [], 16, 227⟩), (29, ⟨[(2, .leaf (.ptr 16 0)), (3, .leaf (.ptr 17 0)), (5, .leaf .bool), (10, .leaf (.int .i64)), (11, .leaf (.int .i64)), (155, .leaf (.int .i64)), (156, .leaf (.int .i64))], [(16, .grp sSt), (17, .grp sSt)], 18, 227⟩, 10, ⟨[(2, .leaf (.ptr 16 0)), (3, .leaf (.ptr 17 0)), (5, .leaf .bool), (155, .leaf (.int .i64)), (156, .leaf (.int .i64))], [(16, .grp sSt), (17, .grp sSt)], 18, 227⟩)]
noncomputable def T_terrierlaw18_Same : List Ent := []
theorem ok_terrierlaw18_Same : FnX Go.Proofs.Tryz.prog 12 D_terrierlaw18_Same (fun x => terrierlaw18_Same x.1 x.2.1) :=
  FnX.of (coL_ok (es := T_terrierlaw18_Same) (OKs.mem trivial)) mix (mkLs_ok (l := L_terrierlaw18_Same) (by kernel_rfl)) (by kernel_rfl) Go.Proofs.Tryz.func12 rfl (by decide) (by decide) (fun x => by kernel_rfl)
noncomputable def E_terrierlaw18_Same : Ent := ⟨12, D_terrierlaw18_Same, fun x => terrierlaw18_Same x.1 x.2.1, (false, ()), false⟩
theorem E_terrierlaw18_Same_ok : E_terrierlaw18_Same.OK Go.Proofs.Tryz.prog := ⟨ok_terrierlaw18_Same, by kernel_rfl⟩
def D_terrierlaw19_CodecTwo : FD := ⟨[(0, .grp (.pair (.int .u8) (.pair (.int .u8) (.pair (.int .u8) sMc)))), (1, .leaf (.sl sMc)), (2, .leaf (.sl sMc))], [], [(0, .leaf .bool)], []⟩
def L_terrierlaw19_CodecTwo : List (Nat × StD × Nat × StD) := []
noncomputable def T_terrierlaw19_CodecTwo : List Ent := [E_terrierlaw18_Same, E_codec_State, E_terrierlaw18_Some, E_terrierlaw10_Choice_Config, E_terrierlaw19_awake]
theorem ok_terrierlaw19_CodecTwo : FnX Go.Proofs.Tryz.prog 5 D_terrierlaw19_CodecTwo (fun x => terrierlaw19_CodecTwo x.1 x.2.1 x.2.2.1) :=
  FnX.of (coL_ok (es := T_terrierlaw19_CodecTwo) (OKs.mem ⟨E_terrierlaw18_Same_ok, E_codec_State_ok, E_terrierlaw18_Some_ok, E_terrierlaw10_Choice_Config_ok, E_terrierlaw19_awake_ok, trivial⟩)) mix (mkLs_ok (l := L_terrierlaw19_CodecTwo) (by kernel_rfl)) (by kernel_rfl) Go.Proofs.Tryz.func5 rfl (by decide) (by decide) (fun x => by kernel_rfl)
end Go.Tr
