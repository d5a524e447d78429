/- The Go functions come to these Lean functions: printed by a program of this session's. Conditions: none. -/
import Derived.Test.YtfaaeeabiikhbaaDoorBE
import Derived.Test.YtfaaeeabiikhbaaDoorSlD
import Derived.Test.YtfaaeeabiikhbaaDoorSlX
import Derived.KernelRfl
import Derived.Test.YtfaaeeabiikhbaaDoorProg
namespace Go.Tr
open Go
set_option linter.unusedVariables false
set_option maxRecDepth 100000
theorem mix : Go.Proofs.Tryd.prog.follows .mixedOrders = true := by rfl
def D_script_near : FD := ⟨[(0, .leaf (.int .u8))], [], [(0, .leaf (.int .u32))], []⟩
def L_script_near : List (Nat × StD × Nat × StD) := []
noncomputable def T_script_near : List Ent := []
theorem ok_script_near : FnX Go.Proofs.Tryd.prog 28 D_script_near (fun x => script_near x.1) :=
  FnX.of (coL_ok (es := T_script_near) (OKs.mem trivial)) mix (mkLs_ok (l := L_script_near) (by kernel_rfl)) (by kernel_rfl) Go.Proofs.Tryd.func28 rfl (by decide) (by decide) (fun x => by kernel_rfl)
noncomputable def E_script_near : Ent := ⟨28, D_script_near, fun x => script_near x.1, ((0 : Int), ()), false⟩
theorem E_script_near_ok : E_script_near.OK Go.Proofs.Tryd.prog := ⟨ok_script_near, by kernel_rfl⟩
def D_script_station : FD := ⟨[(0, .leaf (.int .u8))], [], [(0, .grp sMc)], []⟩
def L_script_station : List (Nat × StD × Nat × StD) := []
noncomputable def T_script_station : List Ent := []
theorem ok_script_station : FnX Go.Proofs.Tryd.prog 29 D_script_station (fun x => script_station x.1) :=
  FnX.of (coL_ok (es := T_script_station) (OKs.mem trivial)) mix (mkLs_ok (l := L_script_station) (by kernel_rfl)) (by kernel_rfl) Go.Proofs.Tryd.func29 rfl (by decide) (by decide) (fun x => by kernel_rfl)
noncomputable def E_script_station : Ent := ⟨29, D_script_station, fun x => script_station x.1, (((0 : Int), ((0 : Int), ((0 : Int), ((0 : Int), ((0 : Int), (0 : Int)))))), ()), false⟩
theorem E_script_station_ok : E_script_station.OK Go.Proofs.Tryd.prog := ⟨ok_script_station, by kernel_rfl⟩
def D_script_event : FD := ⟨[(0, .leaf (.int .u8)), (1, .leaf (.int .u8)), (2, .leaf (.int .u8))], [], [(0, .grp sEv)], []⟩
def L_script_event : List (Nat × StD × Nat × StD) := []
noncomputable def T_script_event : List Ent := [E_script_station, E_script_near]
theorem ok_script_event : FnX Go.Proofs.Tryd.prog 15 D_script_event (fun x => script_event x.1 x.2.1 x.2.2.1) :=
  FnX.of (coL_ok (es := T_script_event) (OKs.mem ⟨E_script_station_ok, E_script_near_ok, trivial⟩)) mix (mkLs_ok (l := L_script_event) (by kernel_rfl)) (by kernel_rfl) Go.Proofs.Tryd.func15 rfl (by decide) (by decide) (fun x => by kernel_rfl)
noncomputable def E_script_event : Ent := ⟨15, D_script_event, fun x => script_event x.1 x.2.1 x.2.2.1, (((0 : Int), (((0 : Int), ([], ((0 : Int), ((0 : Int), ((0 : Int), ((0 : Int), ((0 : Int), (0 : Int)))))))), (((0 : Int), (0 : Int)), ((0 : Int), (((0 : Int), ((0 : Int), ((0 : Int), ((0 : Int), ((0 : Int), (0 : Int)))))), (0 : Int)))))), ()), false⟩
theorem E_script_event_ok : E_script_event.OK Go.Proofs.Tryd.prog := ⟨ok_script_event, by kernel_rfl⟩
def D_command_word : FD := ⟨[(0, .leaf (.int .i64))], [], [(0, .leaf .str)], []⟩
def L_command_word : List (Nat × StD × Nat × StD) := []
noncomputable def T_command_word : List Ent := []
theorem ok_command_word : FnX Go.Proofs.Tryd.prog 19 D_command_word (fun x => command_word x.1) :=
  FnX.of (coL_ok (es := T_command_word) (OKs.mem trivial)) mix (mkLs_ok (l := L_command_word) (by kernel_rfl)) (by kernel_rfl) Go.Proofs.Tryd.func19 rfl (by decide) (by decide) (fun x => by kernel_rfl)
noncomputable def E_command_word : Ent := ⟨19, D_command_word, fun x => command_word x.1, ([], ()), false⟩
theorem E_command_word_ok : E_command_word.OK Go.Proofs.Tryd.prog := ⟨ok_command_word, by kernel_rfl⟩
noncomputable def E_strconv_Itoa : Ent := ⟨8, D_strconv_Itoa, fun x => strconv_Itoa x.1, ([], ()), false⟩
theorem E_strconv_Itoa_ok : E_strconv_Itoa.OK Go.Proofs.Tryd.prog := ⟨x_strconv_Itoa, by kernel_rfl⟩
noncomputable def E_strings_Join : Ent := ⟨41, D_strings_Join, fun x => strings_Join x.1 x.2.1, ([], ()), false⟩
theorem E_strings_Join_ok : E_strings_Join.OK Go.Proofs.Tryd.prog := ⟨x_strings_Join, by kernel_rfl⟩
def D_addr_Text : FD := ⟨[(0, .leaf (.int .u32))], [], [(0, .leaf .str)], []⟩
def L_addr_Text : List (Nat × StD × Nat × StD) := [(3, ⟨[(0, .leaf (.int .u32)), (3, .leaf (.own 16 .str)), (4, .leaf (.int .i64))], [(16, .rows .str)], 17, 21⟩, 0, ⟨[(3, .leaf (.own 16 .str))], [(16, .rows .str)], 17, 21⟩)]
noncomputable def T_addr_Text : List Ent := [E_strings_Join, E_strconv_Itoa]
theorem ok_addr_Text : FnX Go.Proofs.Tryd.prog 31 D_addr_Text (fun x => addr_Text x.1) :=
  FnX.of (coL_ok (es := T_addr_Text) (OKs.mem ⟨E_strings_Join_ok, E_strconv_Itoa_ok, trivial⟩)) mix (mkLs_ok (l := L_addr_Text) (by kernel_rfl)) (by kernel_rfl) Go.Proofs.Tryd.func31 rfl (by decide) (by decide) (fun x => by kernel_rfl)
noncomputable def E_addr_Text : Ent := ⟨31, D_addr_Text, fun x => addr_Text x.1, ([], ()), false⟩
theorem E_addr_Text_ok : E_addr_Text.OK Go.Proofs.Tryd.prog := ⟨ok_addr_Text, by kernel_rfl⟩
def D_addr_BlockText : FD := ⟨[(0, .grp sBk)], [], [(0, .leaf .str)], []⟩
def L_addr_BlockText : List (Nat × StD × Nat × StD) := []
noncomputable def T_addr_BlockText : List Ent := [E_strconv_Itoa, E_addr_Text]
theorem ok_addr_BlockText : FnX Go.Proofs.Tryd.prog 30 D_addr_BlockText (fun x => addr_BlockText x.1) :=
  FnX.of (coL_ok (es := T_addr_BlockText) (OKs.mem ⟨E_strconv_Itoa_ok, E_addr_Text_ok, trivial⟩)) mix (mkLs_ok (l := L_addr_BlockText) (by kernel_rfl)) (by kernel_rfl) Go.Proofs.Tryd.func30 rfl (by decide) (by decide) (fun x => by kernel_rfl)
noncomputable def E_addr_BlockText : Ent := ⟨30, D_addr_BlockText, fun x => addr_BlockText x.1, ([], ()), false⟩
theorem E_addr_BlockText_ok : E_addr_BlockText.OK Go.Proofs.Tryd.prog := ⟨ok_addr_BlockText, by kernel_rfl⟩
def D_mac_None : FD := ⟨[(0, .grp sMc)], [], [(0, .leaf .bool)], []⟩
def L_mac_None : List (Nat × StD × Nat × StD) := []
noncomputable def T_mac_None : List Ent := []
theorem ok_mac_None : FnX Go.Proofs.Tryd.prog 26 D_mac_None (fun x => mac_None x.1) :=
  FnX.of (coL_ok (es := T_mac_None) (OKs.mem trivial)) mix (mkLs_ok (l := L_mac_None) (by kernel_rfl)) (by kernel_rfl) Go.Proofs.Tryd.func26 rfl (by decide) (by decide) (fun x => by kernel_rfl)
noncomputable def E_mac_None : Ent := ⟨26, D_mac_None, fun x => mac_None x.1, (false, ()), false⟩
theorem E_mac_None_ok : E_mac_None.OK Go.Proofs.Tryd.prog := ⟨ok_mac_None, by kernel_rfl⟩
def D_mac_Text : FD := ⟨[(0, .grp sMc)], [], [(0, .leaf .str)], []⟩
def L_mac_Text : List (Nat × StD × Nat × StD) := [(3, ⟨[(3, .leaf (.own 16 (.int .u8))), (7, .grp sMc), (8, .leaf (.int .i64))], [(16, .rows (.int .u8))], 17, 29⟩, 0, ⟨[(3, .leaf (.own 16 (.int .u8)))], [(16, .rows (.int .u8))], 17, 29⟩)]
noncomputable def T_mac_Text : List Ent := []
theorem ok_mac_Text : FnX Go.Proofs.Tryd.prog 32 D_mac_Text (fun x => mac_Text x.1) :=
  FnX.of (coL_ok (es := T_mac_Text) (OKs.mem trivial)) mix (mkLs_ok (l := L_mac_Text) (by kernel_rfl)) (by kernel_rfl) Go.Proofs.Tryd.func32 rfl (by decide) (by decide) (fun x => by kernel_rfl)
noncomputable def E_mac_Text : Ent := ⟨32, D_mac_Text, fun x => mac_Text x.1, ([], ()), false⟩
theorem E_mac_Text_ok : E_mac_Text.OK Go.Proofs.Tryd.prog := ⟨ok_mac_Text, by kernel_rfl⟩
def D_command_Text : FD := ⟨[(0, .grp sEv)], [], [(0, .leaf .str)], []⟩
def L_command_Text : List (Nat × StD × Nat × StD) := []
noncomputable def T_command_Text : List Ent := [E_mac_Text, E_mac_None, E_addr_Text, E_addr_BlockText, E_command_word]
theorem ok_command_Text : FnX Go.Proofs.Tryd.prog 16 D_command_Text (fun x => command_Text x.1) :=
  FnX.of (coL_ok (es := T_command_Text) (OKs.mem ⟨E_mac_Text_ok, E_mac_None_ok, E_addr_Text_ok, E_addr_BlockText_ok, E_command_word_ok, trivial⟩)) mix (mkLs_ok (l := L_command_Text) (by kernel_rfl)) (by kernel_rfl) Go.Proofs.Tryd.func16 rfl (by decide) (by decide) (fun x => by kernel_rfl)
noncomputable def E_command_Text : Ent := ⟨16, D_command_Text, fun x => command_Text x.1, ([], ()), false⟩
theorem E_command_Text_ok : E_command_Text.OK Go.Proofs.Tryd.prog := ⟨ok_command_Text, by kernel_rfl⟩
def D_script_one : FD := ⟨[(0, .leaf (.sl (.int .u8)))], [], [(0, .grp sAct)], []⟩
def L_script_one : List (Nat × StD × Nat × StD) := []
noncomputable def T_script_one : List Ent := [E_command_Text, E_script_event]
theorem ok_script_one : FnX Go.Proofs.Tryd.prog 7 D_script_one (fun x => script_one x.1) :=
  FnX.of (coL_ok (es := T_script_one) (OKs.mem ⟨E_command_Text_ok, E_script_event_ok, trivial⟩)) mix (mkLs_ok (l := L_script_one) (by kernel_rfl)) (by kernel_rfl) Go.Proofs.Tryd.func7 rfl (by decide) (by decide) (fun x => by kernel_rfl)
noncomputable def E_script_one : Ent := ⟨7, D_script_one, fun x => script_one x.1, (((0 : Int), (((0 : Int), (((0 : Int), ([], ((0 : Int), ((0 : Int), ((0 : Int), ((0 : Int), ((0 : Int), (0 : Int)))))))), (((0 : Int), (0 : Int)), ((0 : Int), (((0 : Int), ((0 : Int), ((0 : Int), ((0 : Int), ((0 : Int), (0 : Int)))))), (0 : Int)))))), ([], ((0 : Int), (0 : Int))))), ()), false⟩
theorem E_script_one_ok : E_script_one.OK Go.Proofs.Tryd.prog := ⟨ok_script_one, by kernel_rfl⟩
def D_script_Acts : FD := ⟨[(0, .leaf (.sl (.int .u8)))], [], [(0, .leaf (.own 16 sAct))], [(16, .rows sAct)]⟩
def L_script_Acts : List (Nat × StD × Nat × StD) := [(2, ⟨[(0, .leaf (.sl (.int .u8))), (3, .leaf (.own 16 sAct))], [(16, .rows sAct)], 17, 16⟩, 0, ⟨[(3, .leaf (.own 16 sAct))], [(16, .rows sAct)], 17, 16⟩)]
noncomputable def T_script_Acts : List Ent := [E_script_one]
theorem ok_script_Acts : FnX Go.Proofs.Tryd.prog 5 D_script_Acts (fun x => script_Acts x.1) :=
  FnX.of (coL_ok (es := T_script_Acts) (OKs.mem ⟨E_script_one_ok, trivial⟩)) mix (mkLs_ok (l := L_script_Acts) (by kernel_rfl)) (by kernel_rfl) Go.Proofs.Tryd.func5 rfl (by decide) (by decide) (fun x => by kernel_rfl)
noncomputable def E_script_Acts : Ent := ⟨5, D_script_Acts, fun x => script_Acts x.1, ([], ()), false⟩
theorem E_script_Acts_ok : E_script_Acts.OK Go.Proofs.Tryd.prog := ⟨ok_script_Acts, by kernel_rfl⟩
def D_terrierlaw22_awake : FD := ⟨[], [], [(0, .leaf .bool)], []⟩
def L_terrierlaw22_awake : List (Nat × StD × Nat × StD) := []
noncomputable def T_terrierlaw22_awake : List Ent := [E_script_Acts]
theorem ok_terrierlaw22_awake : FnX Go.Proofs.Tryd.prog 4 D_terrierlaw22_awake (fun x => terrierlaw22_awake) :=
  FnX.of (coL_ok (es := T_terrierlaw22_awake) (OKs.mem ⟨E_script_Acts_ok, trivial⟩)) mix (mkLs_ok (l := L_terrierlaw22_awake) (by kernel_rfl)) (by kernel_rfl) Go.Proofs.Tryd.func4 rfl (by decide) (by decide) (fun x => by kernel_rfl)
noncomputable def E_terrierlaw22_awake : Ent := ⟨4, D_terrierlaw22_awake, fun x => terrierlaw22_awake, (false, ()), false⟩
theorem E_terrierlaw22_awake_ok : E_terrierlaw22_awake.OK Go.Proofs.Tryd.prog := ⟨ok_terrierlaw22_awake, by kernel_rfl⟩
noncomputable def E_strings_Split : Ent := ⟨9, D_strings_Split, fun x => strings_Split x.1 x.2.1, ([], ()), true⟩
theorem E_strings_Split_ok : E_strings_Split.OK Go.Proofs.Tryd.prog := ⟨x_strings_Split, by kernel_rfl⟩
def D_command_what : FD := ⟨[(0, .leaf .str)], [], [(0, .leaf (.int .i64)), (1, .leaf .bool)], []⟩
def L_command_what : List (Nat × StD × Nat × StD) := [(2, ⟨[(0, .leaf .str), (5, .leaf (.int .i64))], [], 16, 18⟩, 0, ⟨[], [], 16, 18⟩)]
noncomputable def T_command_what : List Ent := [E_command_word]
theorem ok_command_what : FnX Go.Proofs.Tryd.prog 10 D_command_what (fun x => command_what x.1) :=
  FnX.of (coL_ok (es := T_command_what) (OKs.mem ⟨E_command_word_ok, trivial⟩)) mix (mkLs_ok (l := L_command_what) (by kernel_rfl)) (by kernel_rfl) Go.Proofs.Tryd.func10 rfl (by decide) (by decide) (fun x => by kernel_rfl)
noncomputable def E_command_what : Ent := ⟨10, D_command_what, fun x => command_what x.1, ((0 : Int), (false, ())), false⟩
theorem E_command_what_ok : E_command_what.OK Go.Proofs.Tryd.prog := ⟨ok_command_what, by kernel_rfl⟩
noncomputable def E_strconv_Quote : Ent := ⟨20, D_strconv_Quote, fun x => strconv_Quote x.1, ([], ()), false⟩
theorem E_strconv_Quote_ok : E_strconv_Quote.OK Go.Proofs.Tryd.prog := ⟨x_strconv_Quote, by kernel_rfl⟩
def D_command_fault : FD := ⟨[(0, .leaf (.int .i64)), (1, .leaf .str), (2, .leaf (.int .i64))], [], [(0, .leaf .err)], []⟩
def L_command_fault : List (Nat × StD × Nat × StD) := []
noncomputable def T_command_fault : List Ent := [E_strconv_Quote]
theorem ok_command_fault : FnX Go.Proofs.Tryd.prog 11 D_command_fault (fun x => command_fault x.1 x.2.1 x.2.2.1) :=
  FnX.of (coL_ok (es := T_command_fault) (OKs.mem ⟨E_strconv_Quote_ok, trivial⟩)) mix (mkLs_ok (l := L_command_fault) (by kernel_rfl)) (by kernel_rfl) Go.Proofs.Tryd.func11 rfl (by decide) (by decide) (fun x => by kernel_rfl)
noncomputable def E_command_fault : Ent := ⟨11, D_command_fault, fun x => command_fault x.1 x.2.1 x.2.2.1, (TErr.nil, ()), true⟩
theorem E_command_fault_ok : E_command_fault.OK Go.Proofs.Tryd.prog := ⟨ok_command_fault, by kernel_rfl⟩
noncomputable def E_strings_Cut : Ent := ⟨21, D_strings_Cut, fun x => strings_Cut x.1 x.2.1, ([], ([], (false, ()))), false⟩
theorem E_strings_Cut_ok : E_strings_Cut.OK Go.Proofs.Tryd.prog := ⟨x_strings_Cut, by kernel_rfl⟩
def D_addr_number : FD := ⟨[(0, .leaf .str), (1, .leaf (.int .i64))], [], [(0, .leaf (.int .i64)), (1, .leaf .bool)], []⟩
def L_addr_number : List (Nat × StD × Nat × StD) := [(5, ⟨[(0, .leaf .str), (1, .leaf (.int .i64)), (6, .leaf (.int .i64)), (26, .leaf (.int .i64)), (27, .leaf (.int .i64))], [], 16, 53⟩, 0, ⟨[(1, .leaf (.int .i64)), (6, .leaf (.int .i64))], [], 16, 53⟩)]
noncomputable def T_addr_number : List Ent := []
theorem ok_addr_number : FnX Go.Proofs.Tryd.prog 22 D_addr_number (fun x => addr_number x.1 x.2.1) :=
  FnX.of (coL_ok (es := T_addr_number) (OKs.mem trivial)) mix (mkLs_ok (l := L_addr_number) (by kernel_rfl)) (by kernel_rfl) Go.Proofs.Tryd.func22 rfl (by decide) (by decide) (fun x => by kernel_rfl)
noncomputable def E_addr_number : Ent := ⟨22, D_addr_number, fun x => addr_number x.1 x.2.1, ((0 : Int), (false, ())), false⟩
theorem E_addr_number_ok : E_addr_number.OK Go.Proofs.Tryd.prog := ⟨ok_addr_number, by kernel_rfl⟩
def D_addr_Parse : FD := ⟨[(0, .leaf .str)], [], [(0, .leaf (.int .u32)), (1, .leaf .bool)], []⟩
def L_addr_Parse : List (Nat × StD × Nat × StD) := [(6, ⟨[(5, .leaf (.int .u32)), (15, .leaf (.sl .str)), (16, .leaf (.int .i64)), (17, .leaf (.int .i64))], [], 16, 35⟩, 0, ⟨[(5, .leaf (.int .u32))], [], 16, 35⟩)]
noncomputable def T_addr_Parse : List Ent := [E_addr_number, E_strings_Split]
theorem ok_addr_Parse : FnX Go.Proofs.Tryd.prog 13 D_addr_Parse (fun x => addr_Parse x.1) :=
  FnX.of (coL_ok (es := T_addr_Parse) (OKs.mem ⟨E_addr_number_ok, E_strings_Split_ok, trivial⟩)) mix (mkLs_ok (l := L_addr_Parse) (by kernel_rfl)) (by kernel_rfl) Go.Proofs.Tryd.func13 rfl (by decide) (by decide) (fun x => by kernel_rfl)
noncomputable def E_addr_Parse : Ent := ⟨13, D_addr_Parse, fun x => addr_Parse x.1, ((0 : Int), (false, ())), false⟩
theorem E_addr_Parse_ok : E_addr_Parse.OK Go.Proofs.Tryd.prog := ⟨ok_addr_Parse, by kernel_rfl⟩
def D_addr_mask : FD := ⟨[(0, .leaf (.int .i64))], [], [(0, .leaf (.int .u32))], []⟩
def L_addr_mask : List (Nat × StD × Nat × StD) := []
noncomputable def T_addr_mask : List Ent := []
theorem ok_addr_mask : FnX Go.Proofs.Tryd.prog 39 D_addr_mask (fun x => addr_mask x.1) :=
  FnX.of (coL_ok (es := T_addr_mask) (OKs.mem trivial)) mix (mkLs_ok (l := L_addr_mask) (by kernel_rfl)) (by kernel_rfl) Go.Proofs.Tryd.func39 rfl (by decide) (by decide) (fun x => by kernel_rfl)
noncomputable def E_addr_mask : Ent := ⟨39, D_addr_mask, fun x => addr_mask x.1, ((0 : Int), ()), false⟩
theorem E_addr_mask_ok : E_addr_mask.OK Go.Proofs.Tryd.prog := ⟨ok_addr_mask, by kernel_rfl⟩
def D_addr_Right : FD := ⟨[(0, .grp sBk)], [], [(0, .leaf .bool)], []⟩
def L_addr_Right : List (Nat × StD × Nat × StD) := []
noncomputable def T_addr_Right : List Ent := [E_addr_mask]
theorem ok_addr_Right : FnX Go.Proofs.Tryd.prog 23 D_addr_Right (fun x => addr_Right x.1) :=
  FnX.of (coL_ok (es := T_addr_Right) (OKs.mem ⟨E_addr_mask_ok, trivial⟩)) mix (mkLs_ok (l := L_addr_Right) (by kernel_rfl)) (by kernel_rfl) Go.Proofs.Tryd.func23 rfl (by decide) (by decide) (fun x => by kernel_rfl)
noncomputable def E_addr_Right : Ent := ⟨23, D_addr_Right, fun x => addr_Right x.1, (false, ()), false⟩
theorem E_addr_Right_ok : E_addr_Right.OK Go.Proofs.Tryd.prog := ⟨ok_addr_Right, by kernel_rfl⟩
def D_addr_ParseBlock : FD := ⟨[(0, .leaf .str)], [], [(0, .grp sBk), (1, .leaf .bool)], []⟩
def L_addr_ParseBlock : List (Nat × StD × Nat × StD) := []
noncomputable def T_addr_ParseBlock : List Ent := [E_addr_Right, E_addr_number, E_addr_Parse, E_strings_Cut]
theorem ok_addr_ParseBlock : FnX Go.Proofs.Tryd.prog 12 D_addr_ParseBlock (fun x => addr_ParseBlock x.1) :=
  FnX.of (coL_ok (es := T_addr_ParseBlock) (OKs.mem ⟨E_addr_Right_ok, E_addr_number_ok, E_addr_Parse_ok, E_strings_Cut_ok, trivial⟩)) mix (mkLs_ok (l := L_addr_ParseBlock) (by kernel_rfl)) (by kernel_rfl) Go.Proofs.Tryd.func12 rfl (by decide) (by decide) (fun x => by kernel_rfl)
noncomputable def E_addr_ParseBlock : Ent := ⟨12, D_addr_ParseBlock, fun x => addr_ParseBlock x.1, (((0 : Int), (0 : Int)), (false, ())), false⟩
theorem E_addr_ParseBlock_ok : E_addr_ParseBlock.OK Go.Proofs.Tryd.prog := ⟨ok_addr_ParseBlock, by kernel_rfl⟩
def D_held_May : FD := ⟨[(0, .leaf .str)], [], [(0, .leaf .bool)], []⟩
def L_held_May : List (Nat × StD × Nat × StD) := [(2, ⟨[(0, .leaf .str), (6, .leaf (.int .i64)), (7, .leaf (.int .i64))], [], 16, 35⟩, 0, ⟨[(0, .leaf .str)], [], 16, 35⟩)]
noncomputable def T_held_May : List Ent := []
theorem ok_held_May : FnX Go.Proofs.Tryd.prog 24 D_held_May (fun x => held_May x.1) :=
  FnX.of (coL_ok (es := T_held_May) (OKs.mem trivial)) mix (mkLs_ok (l := L_held_May) (by kernel_rfl)) (by kernel_rfl) Go.Proofs.Tryd.func24 rfl (by decide) (by decide) (fun x => by kernel_rfl)
noncomputable def E_held_May : Ent := ⟨24, D_held_May, fun x => held_May x.1, (false, ()), false⟩
theorem E_held_May_ok : E_held_May.OK Go.Proofs.Tryd.prog := ⟨ok_held_May, by kernel_rfl⟩
def D_mac_digit : FD := ⟨[(0, .leaf (.int .u8))], [], [(0, .leaf (.int .u8)), (1, .leaf .bool)], []⟩
def L_mac_digit : List (Nat × StD × Nat × StD) := []
noncomputable def T_mac_digit : List Ent := []
theorem ok_mac_digit : FnX Go.Proofs.Tryd.prog 40 D_mac_digit (fun x => mac_digit x.1) :=
  FnX.of (coL_ok (es := T_mac_digit) (OKs.mem trivial)) mix (mkLs_ok (l := L_mac_digit) (by kernel_rfl)) (by kernel_rfl) Go.Proofs.Tryd.func40 rfl (by decide) (by decide) (fun x => by kernel_rfl)
noncomputable def E_mac_digit : Ent := ⟨40, D_mac_digit, fun x => mac_digit x.1, ((0 : Int), (false, ())), false⟩
theorem E_mac_digit_ok : E_mac_digit.OK Go.Proofs.Tryd.prog := ⟨ok_mac_digit, by kernel_rfl⟩
def D_mac_Parse : FD := ⟨[(0, .leaf .str)], [], [(0, .grp sMc), (1, .leaf .bool)], []⟩
def L_mac_Parse : List (Nat × StD × Nat × StD) := [(5, ⟨[(0, .leaf .str), (2, .leaf (.ptr 16 0)), (4, .leaf (.ptr 17 0)), (24, .leaf (.int .i64))], [(16, .cells [(.int .u8), (.int .u8), (.int .u8), (.int .u8), (.int .u8), (.int .u8)]), (17, .cells [(.int .u8), (.int .u8), (.int .u8), (.int .u8), (.int .u8), (.int .u8)])], 18, 73⟩, 0, ⟨[(2, .leaf (.ptr 16 0)), (4, .leaf (.ptr 17 0))], [(16, .cells [(.int .u8), (.int .u8), (.int .u8), (.int .u8), (.int .u8), (.int .u8)]), (17, .cells [(.int .u8), (.int .u8), (.int .u8), (.int .u8), (.int .u8), (.int .u8)])], 18, 73⟩)]
noncomputable def T_mac_Parse : List Ent := [E_mac_digit]
theorem ok_mac_Parse : FnX Go.Proofs.Tryd.prog 25 D_mac_Parse (fun x => mac_Parse x.1) :=
  FnX.of (coL_ok (es := T_mac_Parse) (OKs.mem ⟨E_mac_digit_ok, trivial⟩)) mix (mkLs_ok (l := L_mac_Parse) (by kernel_rfl)) (by kernel_rfl) Go.Proofs.Tryd.func25 rfl (by decide) (by decide) (fun x => by kernel_rfl)
noncomputable def E_mac_Parse : Ent := ⟨25, D_mac_Parse, fun x => mac_Parse x.1, (((0 : Int), ((0 : Int), ((0 : Int), ((0 : Int), ((0 : Int), (0 : Int)))))), (false, ())), false⟩
theorem E_mac_Parse_ok : E_mac_Parse.OK Go.Proofs.Tryd.prog := ⟨ok_mac_Parse, by kernel_rfl⟩
def D_mac_Group : FD := ⟨[(0, .grp sMc)], [], [(0, .leaf .bool)], []⟩
def L_mac_Group : List (Nat × StD × Nat × StD) := []
noncomputable def T_mac_Group : List Ent := []
theorem ok_mac_Group : FnX Go.Proofs.Tryd.prog 27 D_mac_Group (fun x => mac_Group x.1) :=
  FnX.of (coL_ok (es := T_mac_Group) (OKs.mem trivial)) mix (mkLs_ok (l := L_mac_Group) (by kernel_rfl)) (by kernel_rfl) Go.Proofs.Tryd.func27 rfl (by decide) (by decide) (fun x => by kernel_rfl)
noncomputable def E_mac_Group : Ent := ⟨27, D_mac_Group, fun x => mac_Group x.1, (false, ()), false⟩
theorem E_mac_Group_ok : E_mac_Group.OK Go.Proofs.Tryd.prog := ⟨ok_mac_Group, by kernel_rfl⟩
def D_command_hold : FD := ⟨[(0, .grp sEv), (1, .leaf (.sl .str))], [], [(0, .grp sEv), (1, .leaf .err)], []⟩
def L_command_hold : List (Nat × StD × Nat × StD) := []
noncomputable def T_command_hold : List Ent := [E_mac_Group, E_mac_None, E_mac_Parse, E_command_fault, E_held_May]
theorem ok_command_hold : FnX Go.Proofs.Tryd.prog 14 D_command_hold (fun x => command_hold x.1 x.2.1) :=
  FnX.of (coL_ok (es := T_command_hold) (OKs.mem ⟨E_mac_Group_ok, E_mac_None_ok, E_mac_Parse_ok, E_command_fault_ok, E_held_May_ok, trivial⟩)) mix (mkLs_ok (l := L_command_hold) (by kernel_rfl)) (by kernel_rfl) Go.Proofs.Tryd.func14 rfl (by decide) (by decide) (fun x => by kernel_rfl)
noncomputable def E_command_hold : Ent := ⟨14, D_command_hold, fun x => command_hold x.1 x.2.1, (((0 : Int), (((0 : Int), ([], ((0 : Int), ((0 : Int), ((0 : Int), ((0 : Int), ((0 : Int), (0 : Int)))))))), (((0 : Int), (0 : Int)), ((0 : Int), (((0 : Int), ((0 : Int), ((0 : Int), ((0 : Int), ((0 : Int), (0 : Int)))))), (0 : Int)))))), (TErr.nil, ())), true⟩
theorem E_command_hold_ok : E_command_hold.OK Go.Proofs.Tryd.prog := ⟨ok_command_hold, by kernel_rfl⟩
def D_command_Parse : FD := ⟨[(0, .leaf .str)], [], [(0, .grp sEv), (1, .leaf .err)], []⟩
def L_command_Parse : List (Nat × StD × Nat × StD) := []
noncomputable def T_command_Parse : List Ent := [E_command_hold, E_addr_Parse, E_addr_ParseBlock, E_command_fault, E_command_what, E_strings_Split, E_strconv_Itoa]
theorem ok_command_Parse : FnX Go.Proofs.Tryd.prog 6 D_command_Parse (fun x => command_Parse x.1) :=
  FnX.of (coL_ok (es := T_command_Parse) (OKs.mem ⟨E_command_hold_ok, E_addr_Parse_ok, E_addr_ParseBlock_ok, E_command_fault_ok, E_command_what_ok, E_strings_Split_ok, E_strconv_Itoa_ok, trivial⟩)) mix (mkLs_ok (l := L_command_Parse) (by kernel_rfl)) (by kernel_rfl) Go.Proofs.Tryd.func6 rfl (by decide) (by decide) (fun x => by kernel_rfl)
noncomputable def E_command_Parse : Ent := ⟨6, D_command_Parse, fun x => command_Parse x.1, (((0 : Int), (((0 : Int), ([], ((0 : Int), ((0 : Int), ((0 : Int), ((0 : Int), ((0 : Int), (0 : Int)))))))), (((0 : Int), (0 : Int)), ((0 : Int), (((0 : Int), ((0 : Int), ((0 : Int), ((0 : Int), ((0 : Int), (0 : Int)))))), (0 : Int)))))), (TErr.nil, ())), true⟩
theorem E_command_Parse_ok : E_command_Parse.OK Go.Proofs.Tryd.prog := ⟨ok_command_Parse, by kernel_rfl⟩
def D_terrierlaw22_ScriptLines : FD := ⟨[(0, .leaf (.int .u8)), (1, .leaf (.int .u8)), (2, .leaf (.int .u8))], [], [(0, .leaf .bool)], []⟩
def L_terrierlaw22_ScriptLines : List (Nat × StD × Nat × StD) := []
noncomputable def T_terrierlaw22_ScriptLines : List Ent := [E_command_Parse, E_script_Acts, E_terrierlaw22_awake]
theorem ok_terrierlaw22_ScriptLines : FnX Go.Proofs.Tryd.prog 3 D_terrierlaw22_ScriptLines (fun x => terrierlaw22_ScriptLines x.1 x.2.1 x.2.2.1) :=
  FnX.of (coL_ok (es := T_terrierlaw22_ScriptLines) (OKs.mem ⟨E_command_Parse_ok, E_script_Acts_ok, E_terrierlaw22_awake_ok, trivial⟩)) mix (mkLs_ok (l := L_terrierlaw22_ScriptLines) (by kernel_rfl)) (by kernel_rfl) Go.Proofs.Tryd.func3 rfl (by decide) (by decide) (fun x => by kernel_rfl)
end Go.Tr
