/- The Go functions come to these Lean functions: printed by a program of this session's. Conditions: none. -/
import Derived.Test.YtfaaeeabiikhbaaGreatDoorBE
import Derived.Test.YtfaaeeabiikhbaaGreatDoorCmcD
import Derived.Test.YtfaaeeabiikhbaaGreatDoorCmcX
import Derived.KernelRfl
import Derived.Test.YtfaaeeabiikhbaaGreatDoorProg
namespace Go.Tr
open Go
set_option linter.unusedVariables false
set_option maxRecDepth 100000
theorem mix : Go.Proofs.Tryz.prog.follows .mixedOrders = true := by rfl
noncomputable def E_strconv_Itoa : Ent := ⟨38, D_strconv_Itoa, fun x => strconv_Itoa x.1, ([], ()), false⟩
theorem E_strconv_Itoa_ok : E_strconv_Itoa.OK Go.Proofs.Tryz.prog := ⟨x_strconv_Itoa, by kernel_rfl⟩
noncomputable def E_strings_Split : Ent := ⟨39, D_strings_Split, fun x => strings_Split x.1 x.2.1, ([], ()), true⟩
theorem E_strings_Split_ok : E_strings_Split.OK Go.Proofs.Tryz.prog := ⟨x_strings_Split, by kernel_rfl⟩
def D_command_word : FD := ⟨[(0, .leaf (.int .i64))], [], [(0, .leaf .str)], []⟩
def L_command_word : List (Nat × StD × Nat × StD) := []
noncomputable def T_command_word : List Ent := []
theorem ok_command_word : FnX Go.Proofs.Tryz.prog 51 D_command_word (fun x => command_word x.1) :=
  FnX.of (coL_ok (es := T_command_word) (OKs.mem trivial)) mix (mkLs_ok (l := L_command_word) (by kernel_rfl)) (by kernel_rfl) Go.Proofs.Tryz.func51 rfl (by decide) (by decide) (fun x => by kernel_rfl)
noncomputable def E_command_word : Ent := ⟨51, D_command_word, fun x => command_word x.1, ([], ()), false⟩
theorem E_command_word_ok : E_command_word.OK Go.Proofs.Tryz.prog := ⟨ok_command_word, by kernel_rfl⟩
def D_command_what : FD := ⟨[(0, .leaf .str)], [], [(0, .leaf (.int .i64)), (1, .leaf .bool)], []⟩
def L_command_what : List (Nat × StD × Nat × StD) := [(2, ⟨[(0, .leaf .str), (5, .leaf (.int .i64))], [], 16, 18⟩, 0, ⟨[], [], 16, 18⟩)]
noncomputable def T_command_what : List Ent := [E_command_word]
theorem ok_command_what : FnX Go.Proofs.Tryz.prog 40 D_command_what (fun x => command_what x.1) :=
  FnX.of (coL_ok (es := T_command_what) (OKs.mem ⟨E_command_word_ok, trivial⟩)) mix (mkLs_ok (l := L_command_what) (by kernel_rfl)) (by kernel_rfl) Go.Proofs.Tryz.func40 rfl (by decide) (by decide) (fun x => by kernel_rfl)
noncomputable def E_command_what : Ent := ⟨40, D_command_what, fun x => command_what x.1, ((0 : Int), (false, ())), false⟩
theorem E_command_what_ok : E_command_what.OK Go.Proofs.Tryz.prog := ⟨ok_command_what, by kernel_rfl⟩
noncomputable def E_strconv_Quote : Ent := ⟨55, D_strconv_Quote, fun x => strconv_Quote x.1, ([], ()), false⟩
theorem E_strconv_Quote_ok : E_strconv_Quote.OK Go.Proofs.Tryz.prog := ⟨x_strconv_Quote, by kernel_rfl⟩
def D_command_fault : FD := ⟨[(0, .leaf (.int .i64)), (1, .leaf .str), (2, .leaf (.int .i64))], [], [(0, .leaf .err)], []⟩
def L_command_fault : List (Nat × StD × Nat × StD) := []
noncomputable def T_command_fault : List Ent := [E_strconv_Quote]
theorem ok_command_fault : FnX Go.Proofs.Tryz.prog 41 D_command_fault (fun x => command_fault x.1 x.2.1 x.2.2.1) :=
  FnX.of (coL_ok (es := T_command_fault) (OKs.mem ⟨E_strconv_Quote_ok, trivial⟩)) mix (mkLs_ok (l := L_command_fault) (by kernel_rfl)) (by kernel_rfl) Go.Proofs.Tryz.func41 rfl (by decide) (by decide) (fun x => by kernel_rfl)
noncomputable def E_command_fault : Ent := ⟨41, D_command_fault, fun x => command_fault x.1 x.2.1 x.2.2.1, (TErr.nil, ()), true⟩
theorem E_command_fault_ok : E_command_fault.OK Go.Proofs.Tryz.prog := ⟨ok_command_fault, by kernel_rfl⟩
noncomputable def E_strings_Cut : Ent := ⟨63, D_strings_Cut, fun x => strings_Cut x.1 x.2.1, ([], ([], (false, ()))), false⟩
theorem E_strings_Cut_ok : E_strings_Cut.OK Go.Proofs.Tryz.prog := ⟨x_strings_Cut, by kernel_rfl⟩
def D_addr_number : FD := ⟨[(0, .leaf .str), (1, .leaf (.int .i64))], [], [(0, .leaf (.int .i64)), (1, .leaf .bool)], []⟩
def L_addr_number : List (Nat × StD × Nat × StD) := [(5, ⟨[(0, .leaf .str), (1, .leaf (.int .i64)), (6, .leaf (.int .i64)), (26, .leaf (.int .i64)), (27, .leaf (.int .i64))], [], 16, 53⟩, 0, ⟨[(1, .leaf (.int .i64)), (6, .leaf (.int .i64))], [], 16, 53⟩)]
noncomputable def T_addr_number : List Ent := []
theorem ok_addr_number : FnX Go.Proofs.Tryz.prog 64 D_addr_number (fun x => addr_number x.1 x.2.1) :=
  FnX.of (coL_ok (es := T_addr_number) (OKs.mem trivial)) mix (mkLs_ok (l := L_addr_number) (by kernel_rfl)) (by kernel_rfl) Go.Proofs.Tryz.func64 rfl (by decide) (by decide) (fun x => by kernel_rfl)
noncomputable def E_addr_number : Ent := ⟨64, D_addr_number, fun x => addr_number x.1 x.2.1, ((0 : Int), (false, ())), false⟩
theorem E_addr_number_ok : E_addr_number.OK Go.Proofs.Tryz.prog := ⟨ok_addr_number, by kernel_rfl⟩
def D_addr_Parse : FD := ⟨[(0, .leaf .str)], [], [(0, .leaf (.int .u32)), (1, .leaf .bool)], []⟩
def L_addr_Parse : List (Nat × StD × Nat × StD) := [(6, ⟨[(5, .leaf (.int .u32)), (15, .leaf (.sl .str)), (16, .leaf (.int .i64)), (17, .leaf (.int .i64))], [], 16, 35⟩, 0, ⟨[(5, .leaf (.int .u32))], [], 16, 35⟩)]
noncomputable def T_addr_Parse : List Ent := [E_addr_number, E_strings_Split]
theorem ok_addr_Parse : FnX Go.Proofs.Tryz.prog 43 D_addr_Parse (fun x => addr_Parse x.1) :=
  FnX.of (coL_ok (es := T_addr_Parse) (OKs.mem ⟨E_addr_number_ok, E_strings_Split_ok, trivial⟩)) mix (mkLs_ok (l := L_addr_Parse) (by kernel_rfl)) (by kernel_rfl) Go.Proofs.Tryz.func43 rfl (by decide) (by decide) (fun x => by kernel_rfl)
noncomputable def E_addr_Parse : Ent := ⟨43, D_addr_Parse, fun x => addr_Parse x.1, ((0 : Int), (false, ())), false⟩
theorem E_addr_Parse_ok : E_addr_Parse.OK Go.Proofs.Tryz.prog := ⟨ok_addr_Parse, by kernel_rfl⟩
def D_addr_mask : FD := ⟨[(0, .leaf (.int .i64))], [], [(0, .leaf (.int .u32))], []⟩
def L_addr_mask : List (Nat × StD × Nat × StD) := []
noncomputable def T_addr_mask : List Ent := []
theorem ok_addr_mask : FnX Go.Proofs.Tryz.prog 84 D_addr_mask (fun x => addr_mask x.1) :=
  FnX.of (coL_ok (es := T_addr_mask) (OKs.mem trivial)) mix (mkLs_ok (l := L_addr_mask) (by kernel_rfl)) (by kernel_rfl) Go.Proofs.Tryz.func84 rfl (by decide) (by decide) (fun x => by kernel_rfl)
noncomputable def E_addr_mask : Ent := ⟨84, D_addr_mask, fun x => addr_mask x.1, ((0 : Int), ()), false⟩
theorem E_addr_mask_ok : E_addr_mask.OK Go.Proofs.Tryz.prog := ⟨ok_addr_mask, by kernel_rfl⟩
def D_addr_Right : FD := ⟨[(0, .grp sBk)], [], [(0, .leaf .bool)], []⟩
def L_addr_Right : List (Nat × StD × Nat × StD) := []
noncomputable def T_addr_Right : List Ent := [E_addr_mask]
theorem ok_addr_Right : FnX Go.Proofs.Tryz.prog 65 D_addr_Right (fun x => addr_Right x.1) :=
  FnX.of (coL_ok (es := T_addr_Right) (OKs.mem ⟨E_addr_mask_ok, trivial⟩)) mix (mkLs_ok (l := L_addr_Right) (by kernel_rfl)) (by kernel_rfl) Go.Proofs.Tryz.func65 rfl (by decide) (by decide) (fun x => by kernel_rfl)
noncomputable def E_addr_Right : Ent := ⟨65, D_addr_Right, fun x => addr_Right x.1, (false, ()), false⟩
theorem E_addr_Right_ok : E_addr_Right.OK Go.Proofs.Tryz.prog := ⟨ok_addr_Right, by kernel_rfl⟩
def D_addr_ParseBlock : FD := ⟨[(0, .leaf .str)], [], [(0, .grp sBk), (1, .leaf .bool)], []⟩
def L_addr_ParseBlock : List (Nat × StD × Nat × StD) := []
noncomputable def T_addr_ParseBlock : List Ent := [E_addr_Right, E_addr_number, E_addr_Parse, E_strings_Cut]
theorem ok_addr_ParseBlock : FnX Go.Proofs.Tryz.prog 42 D_addr_ParseBlock (fun x => addr_ParseBlock x.1) :=
  FnX.of (coL_ok (es := T_addr_ParseBlock) (OKs.mem ⟨E_addr_Right_ok, E_addr_number_ok, E_addr_Parse_ok, E_strings_Cut_ok, trivial⟩)) mix (mkLs_ok (l := L_addr_ParseBlock) (by kernel_rfl)) (by kernel_rfl) Go.Proofs.Tryz.func42 rfl (by decide) (by decide) (fun x => by kernel_rfl)
noncomputable def E_addr_ParseBlock : Ent := ⟨42, D_addr_ParseBlock, fun x => addr_ParseBlock x.1, (((0 : Int), (0 : Int)), (false, ())), false⟩
theorem E_addr_ParseBlock_ok : E_addr_ParseBlock.OK Go.Proofs.Tryz.prog := ⟨ok_addr_ParseBlock, by kernel_rfl⟩
def D_held_May : FD := ⟨[(0, .leaf .str)], [], [(0, .leaf .bool)], []⟩
def L_held_May : List (Nat × StD × Nat × StD) := [(2, ⟨[(0, .leaf .str), (6, .leaf (.int .i64)), (7, .leaf (.int .i64))], [], 16, 35⟩, 0, ⟨[(0, .leaf .str)], [], 16, 35⟩)]
noncomputable def T_held_May : List Ent := []
theorem ok_held_May : FnX Go.Proofs.Tryz.prog 46 D_held_May (fun x => held_May x.1) :=
  FnX.of (coL_ok (es := T_held_May) (OKs.mem trivial)) mix (mkLs_ok (l := L_held_May) (by kernel_rfl)) (by kernel_rfl) Go.Proofs.Tryz.func46 rfl (by decide) (by decide) (fun x => by kernel_rfl)
noncomputable def E_held_May : Ent := ⟨46, D_held_May, fun x => held_May x.1, (false, ()), false⟩
theorem E_held_May_ok : E_held_May.OK Go.Proofs.Tryz.prog := ⟨ok_held_May, by kernel_rfl⟩
def D_mac_digit : FD := ⟨[(0, .leaf (.int .u8))], [], [(0, .leaf (.int .u8)), (1, .leaf .bool)], []⟩
def L_mac_digit : List (Nat × StD × Nat × StD) := []
noncomputable def T_mac_digit : List Ent := []
theorem ok_mac_digit : FnX Go.Proofs.Tryz.prog 66 D_mac_digit (fun x => mac_digit x.1) :=
  FnX.of (coL_ok (es := T_mac_digit) (OKs.mem trivial)) mix (mkLs_ok (l := L_mac_digit) (by kernel_rfl)) (by kernel_rfl) Go.Proofs.Tryz.func66 rfl (by decide) (by decide) (fun x => by kernel_rfl)
noncomputable def E_mac_digit : Ent := ⟨66, D_mac_digit, fun x => mac_digit x.1, ((0 : Int), (false, ())), false⟩
theorem E_mac_digit_ok : E_mac_digit.OK Go.Proofs.Tryz.prog := ⟨ok_mac_digit, by kernel_rfl⟩
def D_mac_Parse : FD := ⟨[(0, .leaf .str)], [], [(0, .grp sMc), (1, .leaf .bool)], []⟩
def L_mac_Parse : List (Nat × StD × Nat × StD) := [(5, ⟨[(0, .leaf .str), (2, .leaf (.ptr 16 0)), (4, .leaf (.ptr 17 0)), (24, .leaf (.int .i64))], [(16, .cells [(.int .u8), (.int .u8), (.int .u8), (.int .u8), (.int .u8), (.int .u8)]), (17, .cells [(.int .u8), (.int .u8), (.int .u8), (.int .u8), (.int .u8), (.int .u8)])], 18, 73⟩, 0, ⟨[(2, .leaf (.ptr 16 0)), (4, .leaf (.ptr 17 0))], [(16, .cells [(.int .u8), (.int .u8), (.int .u8), (.int .u8), (.int .u8), (.int .u8)]), (17, .cells [(.int .u8), (.int .u8), (.int .u8), (.int .u8), (.int .u8), (.int .u8)])], 18, 73⟩)]
noncomputable def T_mac_Parse : List Ent := [E_mac_digit]
theorem ok_mac_Parse : FnX Go.Proofs.Tryz.prog 47 D_mac_Parse (fun x => mac_Parse x.1) :=
  FnX.of (coL_ok (es := T_mac_Parse) (OKs.mem ⟨E_mac_digit_ok, trivial⟩)) mix (mkLs_ok (l := L_mac_Parse) (by kernel_rfl)) (by kernel_rfl) Go.Proofs.Tryz.func47 rfl (by decide) (by decide) (fun x => by kernel_rfl)
noncomputable def E_mac_Parse : Ent := ⟨47, D_mac_Parse, fun x => mac_Parse x.1, (((0 : Int), ((0 : Int), ((0 : Int), ((0 : Int), ((0 : Int), (0 : Int)))))), (false, ())), false⟩
theorem E_mac_Parse_ok : E_mac_Parse.OK Go.Proofs.Tryz.prog := ⟨ok_mac_Parse, by kernel_rfl⟩
def D_mac_None : FD := ⟨[(0, .grp sMc)], [], [(0, .leaf .bool)], []⟩
def L_mac_None : List (Nat × StD × Nat × StD) := []
noncomputable def T_mac_None : List Ent := []
theorem ok_mac_None : FnX Go.Proofs.Tryz.prog 34 D_mac_None (fun x => mac_None x.1) :=
  FnX.of (coL_ok (es := T_mac_None) (OKs.mem trivial)) mix (mkLs_ok (l := L_mac_None) (by kernel_rfl)) (by kernel_rfl) Go.Proofs.Tryz.func34 rfl (by decide) (by decide) (fun x => by kernel_rfl)
noncomputable def E_mac_None : Ent := ⟨34, D_mac_None, fun x => mac_None x.1, (false, ()), false⟩
theorem E_mac_None_ok : E_mac_None.OK Go.Proofs.Tryz.prog := ⟨ok_mac_None, by kernel_rfl⟩
def D_mac_Group : FD := ⟨[(0, .grp sMc)], [], [(0, .leaf .bool)], []⟩
def L_mac_Group : List (Nat × StD × Nat × StD) := []
noncomputable def T_mac_Group : List Ent := []
theorem ok_mac_Group : FnX Go.Proofs.Tryz.prog 35 D_mac_Group (fun x => mac_Group x.1) :=
  FnX.of (coL_ok (es := T_mac_Group) (OKs.mem trivial)) mix (mkLs_ok (l := L_mac_Group) (by kernel_rfl)) (by kernel_rfl) Go.Proofs.Tryz.func35 rfl (by decide) (by decide) (fun x => by kernel_rfl)
noncomputable def E_mac_Group : Ent := ⟨35, D_mac_Group, fun x => mac_Group x.1, (false, ()), false⟩
theorem E_mac_Group_ok : E_mac_Group.OK Go.Proofs.Tryz.prog := ⟨ok_mac_Group, by kernel_rfl⟩
def D_command_hold : FD := ⟨[(0, .grp sEv), (1, .leaf (.sl .str))], [], [(0, .grp sEv), (1, .leaf .err)], []⟩
def L_command_hold : List (Nat × StD × Nat × StD) := []
noncomputable def T_command_hold : List Ent := [E_mac_Group, E_mac_None, E_mac_Parse, E_command_fault, E_held_May]
theorem ok_command_hold : FnX Go.Proofs.Tryz.prog 44 D_command_hold (fun x => command_hold x.1 x.2.1) :=
  FnX.of (coL_ok (es := T_command_hold) (OKs.mem ⟨E_mac_Group_ok, E_mac_None_ok, E_mac_Parse_ok, E_command_fault_ok, E_held_May_ok, trivial⟩)) mix (mkLs_ok (l := L_command_hold) (by kernel_rfl)) (by kernel_rfl) Go.Proofs.Tryz.func44 rfl (by decide) (by decide) (fun x => by kernel_rfl)
noncomputable def E_command_hold : Ent := ⟨44, D_command_hold, fun x => command_hold x.1 x.2.1, (((0 : Int), (((0 : Int), ([], ((0 : Int), ((0 : Int), ((0 : Int), ((0 : Int), ((0 : Int), (0 : Int)))))))), (((0 : Int), (0 : Int)), ((0 : Int), (((0 : Int), ((0 : Int), ((0 : Int), ((0 : Int), ((0 : Int), (0 : Int)))))), (0 : Int)))))), (TErr.nil, ())), true⟩
theorem E_command_hold_ok : E_command_hold.OK Go.Proofs.Tryz.prog := ⟨ok_command_hold, by kernel_rfl⟩
def D_command_Parse : FD := ⟨[(0, .leaf .str)], [], [(0, .grp sEv), (1, .leaf .err)], []⟩
def L_command_Parse : List (Nat × StD × Nat × StD) := []
noncomputable def T_command_Parse : List Ent := [E_command_hold, E_addr_Parse, E_addr_ParseBlock, E_command_fault, E_command_what, E_strings_Split, E_strconv_Itoa]
theorem ok_command_Parse : FnX Go.Proofs.Tryz.prog 15 D_command_Parse (fun x => command_Parse x.1) :=
  FnX.of (coL_ok (es := T_command_Parse) (OKs.mem ⟨E_command_hold_ok, E_addr_Parse_ok, E_addr_ParseBlock_ok, E_command_fault_ok, E_command_what_ok, E_strings_Split_ok, E_strconv_Itoa_ok, trivial⟩)) mix (mkLs_ok (l := L_command_Parse) (by kernel_rfl)) (by kernel_rfl) Go.Proofs.Tryz.func15 rfl (by decide) (by decide) (fun x => by kernel_rfl)
noncomputable def E_command_Parse : Ent := ⟨15, D_command_Parse, fun x => command_Parse x.1, (((0 : Int), (((0 : Int), ([], ((0 : Int), ((0 : Int), ((0 : Int), ((0 : Int), ((0 : Int), (0 : Int)))))))), (((0 : Int), (0 : Int)), ((0 : Int), (((0 : Int), ((0 : Int), ((0 : Int), ((0 : Int), ((0 : Int), (0 : Int)))))), (0 : Int)))))), (TErr.nil, ())), true⟩
theorem E_command_Parse_ok : E_command_Parse.OK Go.Proofs.Tryz.prog := ⟨ok_command_Parse, by kernel_rfl⟩
noncomputable def E_command_Where : Ent := ⟨17, D_command_Where, fun x => command_Where x.1, ((0 : Int), ((0 : Int), (false, ()))), false⟩
theorem E_command_Where_ok : E_command_Where.OK Go.Proofs.Tryz.prog := ⟨x_command_Where, by kernel_rfl⟩
noncomputable def E_strings_Join : Ent := ⟨60, D_strings_Join, fun x => strings_Join x.1 x.2.1, ([], ()), false⟩
theorem E_strings_Join_ok : E_strings_Join.OK Go.Proofs.Tryz.prog := ⟨x_strings_Join, by kernel_rfl⟩
def D_addr_Text : FD := ⟨[(0, .leaf (.int .u32))], [], [(0, .leaf .str)], []⟩
def L_addr_Text : List (Nat × StD × Nat × StD) := [(3, ⟨[(0, .leaf (.int .u32)), (3, .leaf (.own 16 .str)), (4, .leaf (.int .i64))], [(16, .rows .str)], 17, 21⟩, 0, ⟨[(3, .leaf (.own 16 .str))], [(16, .rows .str)], 17, 21⟩)]
noncomputable def T_addr_Text : List Ent := [E_strings_Join, E_strconv_Itoa]
theorem ok_addr_Text : FnX Go.Proofs.Tryz.prog 31 D_addr_Text (fun x => addr_Text x.1) :=
  FnX.of (coL_ok (es := T_addr_Text) (OKs.mem ⟨E_strings_Join_ok, E_strconv_Itoa_ok, trivial⟩)) mix (mkLs_ok (l := L_addr_Text) (by kernel_rfl)) (by kernel_rfl) Go.Proofs.Tryz.func31 rfl (by decide) (by decide) (fun x => by kernel_rfl)
noncomputable def E_addr_Text : Ent := ⟨31, D_addr_Text, fun x => addr_Text x.1, ([], ()), false⟩
theorem E_addr_Text_ok : E_addr_Text.OK Go.Proofs.Tryz.prog := ⟨ok_addr_Text, by kernel_rfl⟩
def D_addr_BlockText : FD := ⟨[(0, .grp sBk)], [], [(0, .leaf .str)], []⟩
def L_addr_BlockText : List (Nat × StD × Nat × StD) := []
noncomputable def T_addr_BlockText : List Ent := [E_strconv_Itoa, E_addr_Text]
theorem ok_addr_BlockText : FnX Go.Proofs.Tryz.prog 37 D_addr_BlockText (fun x => addr_BlockText x.1) :=
  FnX.of (coL_ok (es := T_addr_BlockText) (OKs.mem ⟨E_strconv_Itoa_ok, E_addr_Text_ok, trivial⟩)) mix (mkLs_ok (l := L_addr_BlockText) (by kernel_rfl)) (by kernel_rfl) Go.Proofs.Tryz.func37 rfl (by decide) (by decide) (fun x => by kernel_rfl)
noncomputable def E_addr_BlockText : Ent := ⟨37, D_addr_BlockText, fun x => addr_BlockText x.1, ([], ()), false⟩
theorem E_addr_BlockText_ok : E_addr_BlockText.OK Go.Proofs.Tryz.prog := ⟨ok_addr_BlockText, by kernel_rfl⟩
def D_mac_Text : FD := ⟨[(0, .grp sMc)], [], [(0, .leaf .str)], []⟩
def L_mac_Text : List (Nat × StD × Nat × StD) := [(3, ⟨[(3, .leaf (.own 16 (.int .u8))), (7, .grp sMc), (8, .leaf (.int .i64))], [(16, .rows (.int .u8))], 17, 29⟩, 0, ⟨[(3, .leaf (.own 16 (.int .u8)))], [(16, .rows (.int .u8))], 17, 29⟩)]
noncomputable def T_mac_Text : List Ent := []
theorem ok_mac_Text : FnX Go.Proofs.Tryz.prog 32 D_mac_Text (fun x => mac_Text x.1) :=
  FnX.of (coL_ok (es := T_mac_Text) (OKs.mem trivial)) mix (mkLs_ok (l := L_mac_Text) (by kernel_rfl)) (by kernel_rfl) Go.Proofs.Tryz.func32 rfl (by decide) (by decide) (fun x => by kernel_rfl)
noncomputable def E_mac_Text : Ent := ⟨32, D_mac_Text, fun x => mac_Text x.1, ([], ()), false⟩
theorem E_mac_Text_ok : E_mac_Text.OK Go.Proofs.Tryz.prog := ⟨ok_mac_Text, by kernel_rfl⟩
def D_command_Text : FD := ⟨[(0, .grp sEv)], [], [(0, .leaf .str)], []⟩
def L_command_Text : List (Nat × StD × Nat × StD) := []
noncomputable def T_command_Text : List Ent := [E_mac_Text, E_mac_None, E_addr_Text, E_addr_BlockText, E_command_word]
theorem ok_command_Text : FnX Go.Proofs.Tryz.prog 20 D_command_Text (fun x => command_Text x.1) :=
  FnX.of (coL_ok (es := T_command_Text) (OKs.mem ⟨E_mac_Text_ok, E_mac_None_ok, E_addr_Text_ok, E_addr_BlockText_ok, E_command_word_ok, trivial⟩)) mix (mkLs_ok (l := L_command_Text) (by kernel_rfl)) (by kernel_rfl) Go.Proofs.Tryz.func20 rfl (by decide) (by decide) (fun x => by kernel_rfl)
noncomputable def E_command_Text : Ent := ⟨20, D_command_Text, fun x => command_Text x.1, ([], ()), false⟩
theorem E_command_Text_ok : E_command_Text.OK Go.Proofs.Tryz.prog := ⟨ok_command_Text, by kernel_rfl⟩
def D_terrierlaw17_awake : FD := ⟨[], [], [(0, .leaf .bool)], []⟩
def L_terrierlaw17_awake : List (Nat × StD × Nat × StD) := []
noncomputable def T_terrierlaw17_awake : List Ent := [E_command_Text, E_command_Where, E_command_Parse]
theorem ok_terrierlaw17_awake : FnX Go.Proofs.Tryz.prog 12 D_terrierlaw17_awake (fun x => terrierlaw17_awake) :=
  FnX.of (coL_ok (es := T_terrierlaw17_awake) (OKs.mem ⟨E_command_Text_ok, E_command_Where_ok, E_command_Parse_ok, trivial⟩)) mix (mkLs_ok (l := L_terrierlaw17_awake) (by kernel_rfl)) (by kernel_rfl) Go.Proofs.Tryz.func12 rfl (by decide) (by decide) (fun x => by kernel_rfl)
noncomputable def E_terrierlaw17_awake : Ent := ⟨12, D_terrierlaw17_awake, fun x => terrierlaw17_awake, (false, ()), false⟩
theorem E_terrierlaw17_awake_ok : E_terrierlaw17_awake.OK Go.Proofs.Tryz.prog := ⟨ok_terrierlaw17_awake, by kernel_rfl⟩
def D_terrierlaw01_Block : FD := ⟨[(0, .leaf (.int .u32)), (1, .leaf (.int .u8))], [], [(0, .grp sBk)], []⟩
def L_terrierlaw01_Block : List (Nat × StD × Nat × StD) := []
noncomputable def T_terrierlaw01_Block : List Ent := []
theorem ok_terrierlaw01_Block : FnX Go.Proofs.Tryz.prog 49 D_terrierlaw01_Block (fun x => terrierlaw01_Block x.1 x.2.1) :=
  FnX.of (coL_ok (es := T_terrierlaw01_Block) (OKs.mem trivial)) mix (mkLs_ok (l := L_terrierlaw01_Block) (by kernel_rfl)) (by kernel_rfl) Go.Proofs.Tryz.func49 rfl (by decide) (by decide) (fun x => by kernel_rfl)
noncomputable def E_terrierlaw01_Block : Ent := ⟨49, D_terrierlaw01_Block, fun x => terrierlaw01_Block x.1 x.2.1, (((0 : Int), (0 : Int)), ()), false⟩
theorem E_terrierlaw01_Block_ok : E_terrierlaw01_Block.OK Go.Proofs.Tryz.prog := ⟨ok_terrierlaw01_Block, by kernel_rfl⟩
def D_terrierlaw11_Station : FD := ⟨[(0, .leaf (.int .u8))], [], [(0, .grp sMc)], []⟩
def L_terrierlaw11_Station : List (Nat × StD × Nat × StD) := []
noncomputable def T_terrierlaw11_Station : List Ent := []
theorem ok_terrierlaw11_Station : FnX Go.Proofs.Tryz.prog 50 D_terrierlaw11_Station (fun x => terrierlaw11_Station x.1) :=
  FnX.of (coL_ok (es := T_terrierlaw11_Station) (OKs.mem trivial)) mix (mkLs_ok (l := L_terrierlaw11_Station) (by kernel_rfl)) (by kernel_rfl) Go.Proofs.Tryz.func50 rfl (by decide) (by decide) (fun x => by kernel_rfl)
noncomputable def E_terrierlaw11_Station : Ent := ⟨50, D_terrierlaw11_Station, fun x => terrierlaw11_Station x.1, (((0 : Int), ((0 : Int), ((0 : Int), ((0 : Int), ((0 : Int), (0 : Int)))))), ()), false⟩
theorem E_terrierlaw11_Station_ok : E_terrierlaw11_Station.OK Go.Proofs.Tryz.prog := ⟨ok_terrierlaw11_Station, by kernel_rfl⟩
def D_terrierlaw17_Say_Event : FD := ⟨[(0, .grp (.pair (.int .u8) (.pair (.int .u32) (.pair (.int .u8) (.pair (.int .u8) (.pair (.int .u8) (.pair (.int .u8) .str)))))))], [], [(0, .grp sEv)], []⟩
def L_terrierlaw17_Say_Event : List (Nat × StD × Nat × StD) := []
noncomputable def T_terrierlaw17_Say_Event : List Ent := [E_terrierlaw11_Station, E_terrierlaw01_Block]
theorem ok_terrierlaw17_Say_Event : FnX Go.Proofs.Tryz.prog 19 D_terrierlaw17_Say_Event (fun x => terrierlaw17_Say_Event x.1) :=
  FnX.of (coL_ok (es := T_terrierlaw17_Say_Event) (OKs.mem ⟨E_terrierlaw11_Station_ok, E_terrierlaw01_Block_ok, trivial⟩)) mix (mkLs_ok (l := L_terrierlaw17_Say_Event) (by kernel_rfl)) (by kernel_rfl) Go.Proofs.Tryz.func19 rfl (by decide) (by decide) (fun x => by kernel_rfl)
noncomputable def E_terrierlaw17_Say_Event : Ent := ⟨19, D_terrierlaw17_Say_Event, fun x => terrierlaw17_Say_Event x.1, (((0 : Int), (((0 : Int), ([], ((0 : Int), ((0 : Int), ((0 : Int), ((0 : Int), ((0 : Int), (0 : Int)))))))), (((0 : Int), (0 : Int)), ((0 : Int), (((0 : Int), ((0 : Int), ((0 : Int), ((0 : Int), ((0 : Int), (0 : Int)))))), (0 : Int)))))), ()), false⟩
theorem E_terrierlaw17_Say_Event_ok : E_terrierlaw17_Say_Event.OK Go.Proofs.Tryz.prog := ⟨ok_terrierlaw17_Say_Event, by kernel_rfl⟩
def D_terrierlaw17_words : FD := ⟨[], [], [(0, .leaf (.own 16 .str))], [(16, .rows .str)]⟩
def L_terrierlaw17_words : List (Nat × StD × Nat × StD) := []
noncomputable def T_terrierlaw17_words : List Ent := []
theorem ok_terrierlaw17_words : FnX Go.Proofs.Tryz.prog 18 D_terrierlaw17_words (fun x => terrierlaw17_words) :=
  FnX.of (coL_ok (es := T_terrierlaw17_words) (OKs.mem trivial)) mix (mkLs_ok (l := L_terrierlaw17_words) (by kernel_rfl)) (by kernel_rfl) Go.Proofs.Tryz.func18 rfl (by decide) (by decide) (fun x => by kernel_rfl)
noncomputable def E_terrierlaw17_words : Ent := ⟨18, D_terrierlaw17_words, fun x => terrierlaw17_words, ([], ()), false⟩
theorem E_terrierlaw17_words_ok : E_terrierlaw17_words.OK Go.Proofs.Tryz.prog := ⟨ok_terrierlaw17_words, by kernel_rfl⟩
def D_terrierlaw17_Say_split : FD := ⟨[(0, .grp (.pair (.int .u8) (.pair (.int .u32) (.pair (.int .u8) (.pair (.int .u8) (.pair (.int .u8) (.pair (.int .u8) .str)))))))], [], [(0, .leaf (.sl .str))], []⟩
def L_terrierlaw17_Say_split : List (Nat × StD × Nat × StD) := []
noncomputable def T_terrierlaw17_Say_split : List Ent := [E_mac_Text, E_mac_None, E_addr_BlockText, E_addr_Text, E_terrierlaw17_words, E_terrierlaw17_Say_Event]
theorem ok_terrierlaw17_Say_split : FnX Go.Proofs.Tryz.prog 14 D_terrierlaw17_Say_split (fun x => terrierlaw17_Say_split x.1) :=
  FnX.of (coL_ok (es := T_terrierlaw17_Say_split) (OKs.mem ⟨E_mac_Text_ok, E_mac_None_ok, E_addr_BlockText_ok, E_addr_Text_ok, E_terrierlaw17_words_ok, E_terrierlaw17_Say_Event_ok, trivial⟩)) mix (mkLs_ok (l := L_terrierlaw17_Say_split) (by kernel_rfl)) (by kernel_rfl) Go.Proofs.Tryz.func14 rfl (by decide) (by decide) (fun x => by kernel_rfl)
noncomputable def E_terrierlaw17_Say_split : Ent := ⟨14, D_terrierlaw17_Say_split, fun x => terrierlaw17_Say_split x.1, ([], ()), true⟩
theorem E_terrierlaw17_Say_split_ok : E_terrierlaw17_Say_split.OK Go.Proofs.Tryz.prog := ⟨ok_terrierlaw17_Say_split, by kernel_rfl⟩
def D_terrierlaw17_line : FD := ⟨[(0, .leaf (.sl .str))], [], [(0, .leaf .str)], []⟩
def L_terrierlaw17_line : List (Nat × StD × Nat × StD) := [(3, ⟨[(3, .leaf .str), (6, .leaf (.sl .str)), (7, .leaf (.int .i64)), (8, .leaf (.int .i64))], [], 16, 22⟩, 0, ⟨[(3, .leaf .str)], [], 16, 22⟩)]
noncomputable def T_terrierlaw17_line : List Ent := []
theorem ok_terrierlaw17_line : FnX Go.Proofs.Tryz.prog 13 D_terrierlaw17_line (fun x => terrierlaw17_line x.1) :=
  FnX.of (coL_ok (es := T_terrierlaw17_line) (OKs.mem trivial)) mix (mkLs_ok (l := L_terrierlaw17_line) (by kernel_rfl)) (by kernel_rfl) Go.Proofs.Tryz.func13 rfl (by decide) (by decide) (fun x => by kernel_rfl)
noncomputable def E_terrierlaw17_line : Ent := ⟨13, D_terrierlaw17_line, fun x => terrierlaw17_line x.1, ([], ()), false⟩
theorem E_terrierlaw17_line_ok : E_terrierlaw17_line.OK Go.Proofs.Tryz.prog := ⟨ok_terrierlaw17_line, by kernel_rfl⟩
def D_terrierlaw17_cut : FD := ⟨[(0, .leaf .str)], [], [(0, .leaf (.own 16 .str))], [(16, .rows .str)]⟩
def L_terrierlaw17_cut : List (Nat × StD × Nat × StD) := [(3, ⟨[(0, .leaf .str), (3, .leaf (.own 16 .str)), (4, .leaf (.int .i64))], [(16, .rows .str)], 17, 37⟩, 0, ⟨[(3, .leaf (.own 16 .str))], [(16, .rows .str)], 17, 37⟩)]
noncomputable def T_terrierlaw17_cut : List Ent := []
theorem ok_terrierlaw17_cut : FnX Go.Proofs.Tryz.prog 45 D_terrierlaw17_cut (fun x => terrierlaw17_cut x.1) :=
  FnX.of (coL_ok (es := T_terrierlaw17_cut) (OKs.mem trivial)) mix (mkLs_ok (l := L_terrierlaw17_cut) (by kernel_rfl)) (by kernel_rfl) Go.Proofs.Tryz.func45 rfl (by decide) (by decide) (fun x => by kernel_rfl)
noncomputable def E_terrierlaw17_cut : Ent := ⟨45, D_terrierlaw17_cut, fun x => terrierlaw17_cut x.1, ([], ()), false⟩
theorem E_terrierlaw17_cut_ok : E_terrierlaw17_cut.OK Go.Proofs.Tryz.prog := ⟨ok_terrierlaw17_cut, by kernel_rfl⟩
def D_terrierlaw17_parse : FD := ⟨[(0, .leaf .str)], [], [(0, .grp sEv), (1, .leaf (.int .i64)), (2, .leaf (.int .i64))], []⟩
def L_terrierlaw17_parse : List (Nat × StD × Nat × StD) := [(6, ⟨[(2, .leaf (.ptr 16 0)), (5, .leaf (.own 17 .str)), (6, .leaf (.ptr 18 0)), (24, .leaf (.own 19 .str)), (25, .leaf (.int .i64)), (26, .leaf (.int .i64))], [(16, .cells [(.int .i64), (.int .u32), .str, (.int .u8), (.int .u8), (.int .u8), (.int .u8), (.int .u8), (.int .u8), (.int .u32), (.int .i64), (.int .i64), (.int .u8), (.int .u8), (.int .u8), (.int .u8), (.int .u8), (.int .u8), (.int .i64)]), (17, .rows .str), (18, .cells [(.int .i64), (.int .u32), .str, (.int .u8), (.int .u8), (.int .u8), (.int .u8), (.int .u8), (.int .u8), (.int .u32), (.int .i64), (.int .i64), (.int .u8), (.int .u8), (.int .u8), (.int .u8), (.int .u8), (.int .u8), (.int .i64)]), (19, .rows .str)], 20, 137⟩, 0, ⟨[(2, .leaf (.ptr 16 0)), (5, .leaf (.own 17 .str)), (6, .leaf (.ptr 18 0))], [(16, .cells [(.int .i64), (.int .u32), .str, (.int .u8), (.int .u8), (.int .u8), (.int .u8), (.int .u8), (.int .u8), (.int .u32), (.int .i64), (.int .i64), (.int .u8), (.int .u8), (.int .u8), (.int .u8), (.int .u8), (.int .u8), (.int .i64)]), (17, .rows .str), (18, .cells [(.int .i64), (.int .u32), .str, (.int .u8), (.int .u8), (.int .u8), (.int .u8), (.int .u8), (.int .u8), (.int .u32), (.int .i64), (.int .i64), (.int .u8), (.int .u8), (.int .u8), (.int .u8), (.int .u8), (.int .u8), (.int .i64)])], 19, 137⟩)]
noncomputable def T_terrierlaw17_parse : List Ent := [E_mac_Group, E_mac_None, E_mac_Parse, E_held_May, E_addr_Parse, E_addr_ParseBlock, E_terrierlaw17_words, E_terrierlaw17_cut]
theorem ok_terrierlaw17_parse : FnX Go.Proofs.Tryz.prog 16 D_terrierlaw17_parse (fun x => terrierlaw17_parse x.1) :=
  FnX.of (coL_ok (es := T_terrierlaw17_parse) (OKs.mem ⟨E_mac_Group_ok, E_mac_None_ok, E_mac_Parse_ok, E_held_May_ok, E_addr_Parse_ok, E_addr_ParseBlock_ok, E_terrierlaw17_words_ok, E_terrierlaw17_cut_ok, trivial⟩)) mix (mkLs_ok (l := L_terrierlaw17_parse) (by kernel_rfl)) (by kernel_rfl) Go.Proofs.Tryz.func16 rfl (by decide) (by decide) (fun x => by kernel_rfl)
noncomputable def E_terrierlaw17_parse : Ent := ⟨16, D_terrierlaw17_parse, fun x => terrierlaw17_parse x.1, (((0 : Int), (((0 : Int), ([], ((0 : Int), ((0 : Int), ((0 : Int), ((0 : Int), ((0 : Int), (0 : Int)))))))), (((0 : Int), (0 : Int)), ((0 : Int), (((0 : Int), ((0 : Int), ((0 : Int), ((0 : Int), ((0 : Int), (0 : Int)))))), (0 : Int)))))), ((0 : Int), ((0 : Int), ()))), false⟩
theorem E_terrierlaw17_parse_ok : E_terrierlaw17_parse.OK Go.Proofs.Tryz.prog := ⟨ok_terrierlaw17_parse, by kernel_rfl⟩
def D_terrierlaw17_CommandParse : FD := ⟨[(0, .grp (.pair (.int .u8) (.pair (.int .u32) (.pair (.int .u8) (.pair (.int .u8) (.pair (.int .u8) (.pair (.int .u8) .str))))))), (1, .leaf .str), (2, .leaf .str)], [], [(0, .leaf .bool)], []⟩
def L_terrierlaw17_CommandParse : List (Nat × StD × Nat × StD) := [(4, ⟨[(28, .leaf (.own 16 .str)), (29, .leaf (.int .i64)), (30, .leaf (.int .i64))], [(16, .rows .str)], 17, 91⟩, 0, ⟨[], [], 16, 91⟩)]
noncomputable def T_terrierlaw17_CommandParse : List Ent := [E_command_Where, E_terrierlaw17_parse, E_command_Parse, E_terrierlaw17_line, E_terrierlaw17_Say_split, E_terrierlaw17_awake]
theorem ok_terrierlaw17_CommandParse : FnX Go.Proofs.Tryz.prog 3 D_terrierlaw17_CommandParse (fun x => terrierlaw17_CommandParse x.1 x.2.1 x.2.2.1) :=
  FnX.of (coL_ok (es := T_terrierlaw17_CommandParse) (OKs.mem ⟨E_command_Where_ok, E_terrierlaw17_parse_ok, E_command_Parse_ok, E_terrierlaw17_line_ok, E_terrierlaw17_Say_split_ok, E_terrierlaw17_awake_ok, trivial⟩)) mix (mkLs_ok (l := L_terrierlaw17_CommandParse) (by kernel_rfl)) (by kernel_rfl) Go.Proofs.Tryz.func3 rfl (by decide) (by decide) (fun x => by kernel_rfl)
end Go.Tr
