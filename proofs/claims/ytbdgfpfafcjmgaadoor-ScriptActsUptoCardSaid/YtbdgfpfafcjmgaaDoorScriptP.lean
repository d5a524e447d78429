/- The Go functions come to these Lean functions: printed by a program of this session's. Conditions: none. -/
import Derived.Test.YtbdgfpfafcjmgaaDoorUF
import Derived.Test.YtbdgfpfafcjmgaaDoorScriptD
import Derived.Test.YtbdgfpfafcjmgaaDoorScriptX
import Derived.KernelRfl
import Derived.Test.YtbdgfpfafcjmgaaDoorProg
namespace Go.Tr
open Go
set_option linter.unusedVariables false
set_option maxRecDepth 100000
theorem mix : Go.Proofs.Tryd.prog.follows .mixedOrders = true := by rfl

def D_script_near : FD := ⟨[(0, .leaf (.int .u8))], [], [(0, .leaf (.int .u32))], []⟩
def L_script_near : List (Nat × StD × Nat × StD) := []
noncomputable def T_script_near : List Ent := []
theorem ok_script_near : FnX Go.Proofs.Tryd.prog 19 D_script_near (fun x => script_near x.1) :=
  FnX.of (coL_ok (es := T_script_near) (OKs.mem trivial)) mix (mkLs_ok (l := L_script_near) (by kernel_rfl)) (by kernel_rfl) Go.Proofs.Tryd.func19 rfl (by decide) (by decide) (fun x => by kernel_rfl)
noncomputable def E_script_near : Ent := ⟨19, D_script_near, fun x => script_near x.1, ((0 : Int), ()), false⟩
theorem E_script_near_ok : E_script_near.OK Go.Proofs.Tryd.prog := ⟨ok_script_near, by kernel_rfl⟩

def D_script_station : FD := ⟨[(0, .leaf (.int .u8))], [], [(0, .grp (.pair (.int .u8) (.pair (.int .u8) (.pair (.int .u8) (.pair (.int .u8) (.pair (.int .u8) (.int .u8)))))))], []⟩
def L_script_station : List (Nat × StD × Nat × StD) := []
noncomputable def T_script_station : List Ent := []
theorem ok_script_station : FnX Go.Proofs.Tryd.prog 20 D_script_station (fun x => script_station x.1) :=
  FnX.of (coL_ok (es := T_script_station) (OKs.mem trivial)) mix (mkLs_ok (l := L_script_station) (by kernel_rfl)) (by kernel_rfl) Go.Proofs.Tryd.func20 rfl (by decide) (by decide) (fun x => by kernel_rfl)
noncomputable def E_script_station : Ent := ⟨20, D_script_station, fun x => script_station x.1, (((0 : Int), ((0 : Int), ((0 : Int), ((0 : Int), ((0 : Int), (0 : Int)))))), ()), false⟩
theorem E_script_station_ok : E_script_station.OK Go.Proofs.Tryd.prog := ⟨ok_script_station, by kernel_rfl⟩

def D_script_event : FD := ⟨[(0, .leaf (.int .u8)), (1, .leaf (.int .u8)), (2, .leaf (.int .u8))], [], [(0, .grp (.pair (.int .i64) (.pair (.pair (.int .u32) (.pair .str (.pair (.int .u8) (.pair (.int .u8) (.pair (.int .u8) (.pair (.int .u8) (.pair (.int .u8) (.int .u8)))))))) (.pair (.pair (.int .u32) (.int .i64)) (.pair (.int .i64) (.pair (.pair (.int .u8) (.pair (.int .u8) (.pair (.int .u8) (.pair (.int .u8) (.pair (.int .u8) (.int .u8)))))) (.int .i64)))))))], []⟩
def L_script_event : List (Nat × StD × Nat × StD) := []
noncomputable def T_script_event : List Ent := [E_script_station, E_script_near]
theorem ok_script_event : FnX Go.Proofs.Tryd.prog 13 D_script_event (fun x => script_event x.1 x.2.1 x.2.2.1) :=
  FnX.of (coL_ok (es := T_script_event) (OKs.mem ⟨E_script_station_ok, E_script_near_ok, trivial⟩)) mix (mkLs_ok (l := L_script_event) (by kernel_rfl)) (by kernel_rfl) Go.Proofs.Tryd.func13 rfl (by decide) (by decide) (fun x => by kernel_rfl)
noncomputable def E_script_event : Ent := ⟨13, D_script_event, fun x => script_event x.1 x.2.1 x.2.2.1, (((0 : Int), (((0 : Int), ([], ((0 : Int), ((0 : Int), ((0 : Int), ((0 : Int), ((0 : Int), (0 : Int)))))))), (((0 : Int), (0 : Int)), ((0 : Int), (((0 : Int), ((0 : Int), ((0 : Int), ((0 : Int), ((0 : Int), (0 : Int)))))), (0 : Int)))))), ()), false⟩
theorem E_script_event_ok : E_script_event.OK Go.Proofs.Tryd.prog := ⟨ok_script_event, by kernel_rfl⟩

def D_command_word : FD := ⟨[(0, .leaf (.int .i64))], [], [(0, .leaf .str)], []⟩
def L_command_word : List (Nat × StD × Nat × StD) := []
noncomputable def T_command_word : List Ent := []
theorem ok_command_word : FnX Go.Proofs.Tryd.prog 14 D_command_word (fun x => command_word x.1) :=
  FnX.of (coL_ok (es := T_command_word) (OKs.mem trivial)) mix (mkLs_ok (l := L_command_word) (by kernel_rfl)) (by kernel_rfl) Go.Proofs.Tryd.func14 rfl (by decide) (by decide) (fun x => by kernel_rfl)
noncomputable def E_command_word : Ent := ⟨14, D_command_word, fun x => command_word x.1, ([], ()), false⟩
theorem E_command_word_ok : E_command_word.OK Go.Proofs.Tryd.prog := ⟨ok_command_word, by kernel_rfl⟩

noncomputable def E_strconv_Itoa : Ent := ⟨21, D_strconv_Itoa, fun x => strconv_Itoa x.1, ([], ()), false⟩
theorem E_strconv_Itoa_ok : E_strconv_Itoa.OK Go.Proofs.Tryd.prog := ⟨x_strconv_Itoa, by kernel_rfl⟩

noncomputable def E_strings_Join : Ent := ⟨22, D_strings_Join, fun x => strings_Join x.1 x.2.1, ([], ()), false⟩
theorem E_strings_Join_ok : E_strings_Join.OK Go.Proofs.Tryd.prog := ⟨x_strings_Join, by kernel_rfl⟩

def D_addr_Text : FD := ⟨[(0, .leaf (.int .u32))], [], [(0, .leaf .str)], []⟩
def L_addr_Text : List (Nat × StD × Nat × StD) := [(3, ⟨[(0, .leaf (.int .u32)), (3, .leaf (.own 16 .str)), (4, .leaf (.int .i64))], [(16, .rows .str)], 17, 21⟩, 0, ⟨[(3, .leaf (.own 16 .str))], [(16, .rows .str)], 17, 21⟩)]
noncomputable def T_addr_Text : List Ent := [E_strings_Join, E_strconv_Itoa]
theorem ok_addr_Text : FnX Go.Proofs.Tryd.prog 16 D_addr_Text (fun x => addr_Text x.1) :=
  FnX.of (coL_ok (es := T_addr_Text) (OKs.mem ⟨E_strings_Join_ok, E_strconv_Itoa_ok, trivial⟩)) mix (mkLs_ok (l := L_addr_Text) (by kernel_rfl)) (by kernel_rfl) Go.Proofs.Tryd.func16 rfl (by decide) (by decide) (fun x => by kernel_rfl)
noncomputable def E_addr_Text : Ent := ⟨16, D_addr_Text, fun x => addr_Text x.1, ([], ()), false⟩
theorem E_addr_Text_ok : E_addr_Text.OK Go.Proofs.Tryd.prog := ⟨ok_addr_Text, by kernel_rfl⟩

def D_addr_BlockText : FD := ⟨[(0, .grp (.pair (.int .u32) (.int .i64)))], [], [(0, .leaf .str)], []⟩
def L_addr_BlockText : List (Nat × StD × Nat × StD) := []
noncomputable def T_addr_BlockText : List Ent := [E_strconv_Itoa, E_addr_Text]
theorem ok_addr_BlockText : FnX Go.Proofs.Tryd.prog 15 D_addr_BlockText (fun x => addr_BlockText x.1) :=
  FnX.of (coL_ok (es := T_addr_BlockText) (OKs.mem ⟨E_strconv_Itoa_ok, E_addr_Text_ok, trivial⟩)) mix (mkLs_ok (l := L_addr_BlockText) (by kernel_rfl)) (by kernel_rfl) Go.Proofs.Tryd.func15 rfl (by decide) (by decide) (fun x => by kernel_rfl)
noncomputable def E_addr_BlockText : Ent := ⟨15, D_addr_BlockText, fun x => addr_BlockText x.1, ([], ()), false⟩
theorem E_addr_BlockText_ok : E_addr_BlockText.OK Go.Proofs.Tryd.prog := ⟨ok_addr_BlockText, by kernel_rfl⟩

def D_mac_None : FD := ⟨[(0, .grp (.pair (.int .u8) (.pair (.int .u8) (.pair (.int .u8) (.pair (.int .u8) (.pair (.int .u8) (.int .u8)))))))], [], [(0, .leaf .bool)], []⟩
def L_mac_None : List (Nat × StD × Nat × StD) := []
noncomputable def T_mac_None : List Ent := []
theorem ok_mac_None : FnX Go.Proofs.Tryd.prog 17 D_mac_None (fun x => mac_None x.1) :=
  FnX.of (coL_ok (es := T_mac_None) (OKs.mem trivial)) mix (mkLs_ok (l := L_mac_None) (by kernel_rfl)) (by kernel_rfl) Go.Proofs.Tryd.func17 rfl (by decide) (by decide) (fun x => by kernel_rfl)
noncomputable def E_mac_None : Ent := ⟨17, D_mac_None, fun x => mac_None x.1, (false, ()), false⟩
theorem E_mac_None_ok : E_mac_None.OK Go.Proofs.Tryd.prog := ⟨ok_mac_None, by kernel_rfl⟩

def D_mac_Text : FD := ⟨[(0, .grp (.pair (.int .u8) (.pair (.int .u8) (.pair (.int .u8) (.pair (.int .u8) (.pair (.int .u8) (.int .u8)))))))], [], [(0, .leaf .str)], []⟩
def L_mac_Text : List (Nat × StD × Nat × StD) := [(3, ⟨[(3, .leaf (.own 16 (.int .u8))), (7, .grp (.pair (.int .u8) (.pair (.int .u8) (.pair (.int .u8) (.pair (.int .u8) (.pair (.int .u8) (.int .u8))))))), (8, .leaf (.int .i64))], [(16, .rows (.int .u8))], 17, 29⟩, 0, ⟨[(3, .leaf (.own 16 (.int .u8)))], [(16, .rows (.int .u8))], 17, 29⟩)]
noncomputable def T_mac_Text : List Ent := []
theorem ok_mac_Text : FnX Go.Proofs.Tryd.prog 18 D_mac_Text (fun x => mac_Text x.1) :=
  FnX.of (coL_ok (es := T_mac_Text) (OKs.mem trivial)) mix (mkLs_ok (l := L_mac_Text) (by kernel_rfl)) (by kernel_rfl) Go.Proofs.Tryd.func18 rfl (by decide) (by decide) (fun x => by kernel_rfl)
noncomputable def E_mac_Text : Ent := ⟨18, D_mac_Text, fun x => mac_Text x.1, ([], ()), false⟩
theorem E_mac_Text_ok : E_mac_Text.OK Go.Proofs.Tryd.prog := ⟨ok_mac_Text, by kernel_rfl⟩

def D_command_Text : FD := ⟨[(0, .grp (.pair (.int .i64) (.pair (.pair (.int .u32) (.pair .str (.pair (.int .u8) (.pair (.int .u8) (.pair (.int .u8) (.pair (.int .u8) (.pair (.int .u8) (.int .u8)))))))) (.pair (.pair (.int .u32) (.int .i64)) (.pair (.int .i64) (.pair (.pair (.int .u8) (.pair (.int .u8) (.pair (.int .u8) (.pair (.int .u8) (.pair (.int .u8) (.int .u8)))))) (.int .i64)))))))], [], [(0, .leaf .str)], []⟩
def L_command_Text : List (Nat × StD × Nat × StD) := []
noncomputable def T_command_Text : List Ent := [E_mac_Text, E_mac_None, E_addr_Text, E_addr_BlockText, E_command_word]
theorem ok_command_Text : FnX Go.Proofs.Tryd.prog 12 D_command_Text (fun x => command_Text x.1) :=
  FnX.of (coL_ok (es := T_command_Text) (OKs.mem ⟨E_mac_Text_ok, E_mac_None_ok, E_addr_Text_ok, E_addr_BlockText_ok, E_command_word_ok, trivial⟩)) mix (mkLs_ok (l := L_command_Text) (by kernel_rfl)) (by kernel_rfl) Go.Proofs.Tryd.func12 rfl (by decide) (by decide) (fun x => by kernel_rfl)
noncomputable def E_command_Text : Ent := ⟨12, D_command_Text, fun x => command_Text x.1, ([], ()), false⟩
theorem E_command_Text_ok : E_command_Text.OK Go.Proofs.Tryd.prog := ⟨ok_command_Text, by kernel_rfl⟩

def D_script_one : FD := ⟨[(0, .leaf (.sl (.int .u8)))], [], [(0, .grp (.pair (.int .i64) (.pair (.pair (.int .i64) (.pair (.pair (.int .u32) (.pair .str (.pair (.int .u8) (.pair (.int .u8) (.pair (.int .u8) (.pair (.int .u8) (.pair (.int .u8) (.int .u8)))))))) (.pair (.pair (.int .u32) (.int .i64)) (.pair (.int .i64) (.pair (.pair (.int .u8) (.pair (.int .u8) (.pair (.int .u8) (.pair (.int .u8) (.pair (.int .u8) (.int .u8)))))) (.int .i64)))))) (.pair .str (.pair (.int .i64) (.int .i64))))))], []⟩
def L_script_one : List (Nat × StD × Nat × StD) := []
noncomputable def T_script_one : List Ent := [E_command_Text, E_script_event]
theorem ok_script_one : FnX Go.Proofs.Tryd.prog 10 D_script_one (fun x => script_one x.1) :=
  FnX.of (coL_ok (es := T_script_one) (OKs.mem ⟨E_command_Text_ok, E_script_event_ok, trivial⟩)) mix (mkLs_ok (l := L_script_one) (by kernel_rfl)) (by kernel_rfl) Go.Proofs.Tryd.func10 rfl (by decide) (by decide) (fun x => by kernel_rfl)
noncomputable def E_script_one : Ent := ⟨10, D_script_one, fun x => script_one x.1, (((0 : Int), (((0 : Int), (((0 : Int), ([], ((0 : Int), ((0 : Int), ((0 : Int), ((0 : Int), ((0 : Int), (0 : Int)))))))), (((0 : Int), (0 : Int)), ((0 : Int), (((0 : Int), ((0 : Int), ((0 : Int), ((0 : Int), ((0 : Int), (0 : Int)))))), (0 : Int)))))), ([], ((0 : Int), (0 : Int))))), ()), false⟩
theorem E_script_one_ok : E_script_one.OK Go.Proofs.Tryd.prog := ⟨ok_script_one, by kernel_rfl⟩

def D_script_Acts : FD := ⟨[(0, .leaf (.sl (.int .u8)))], [], [(0, .leaf (.own 16 (.pair (.int .i64) (.pair (.pair (.int .i64) (.pair (.pair (.int .u32) (.pair .str (.pair (.int .u8) (.pair (.int .u8) (.pair (.int .u8) (.pair (.int .u8) (.pair (.int .u8) (.int .u8)))))))) (.pair (.pair (.int .u32) (.int .i64)) (.pair (.int .i64) (.pair (.pair (.int .u8) (.pair (.int .u8) (.pair (.int .u8) (.pair (.int .u8) (.pair (.int .u8) (.int .u8)))))) (.int .i64)))))) (.pair .str (.pair (.int .i64) (.int .i64)))))))], [(16, .rows (.pair (.int .i64) (.pair (.pair (.int .i64) (.pair (.pair (.int .u32) (.pair .str (.pair (.int .u8) (.pair (.int .u8) (.pair (.int .u8) (.pair (.int .u8) (.pair (.int .u8) (.int .u8)))))))) (.pair (.pair (.int .u32) (.int .i64)) (.pair (.int .i64) (.pair (.pair (.int .u8) (.pair (.int .u8) (.pair (.int .u8) (.pair (.int .u8) (.pair (.int .u8) (.int .u8)))))) (.int .i64)))))) (.pair .str (.pair (.int .i64) (.int .i64))))))]⟩
def L_script_Acts : List (Nat × StD × Nat × StD) := [(2, ⟨[(0, .leaf (.sl (.int .u8))), (3, .leaf (.own 16 (.pair (.int .i64) (.pair (.pair (.int .i64) (.pair (.pair (.int .u32) (.pair .str (.pair (.int .u8) (.pair (.int .u8) (.pair (.int .u8) (.pair (.int .u8) (.pair (.int .u8) (.int .u8)))))))) (.pair (.pair (.int .u32) (.int .i64)) (.pair (.int .i64) (.pair (.pair (.int .u8) (.pair (.int .u8) (.pair (.int .u8) (.pair (.int .u8) (.pair (.int .u8) (.int .u8)))))) (.int .i64)))))) (.pair .str (.pair (.int .i64) (.int .i64)))))))], [(16, .rows (.pair (.int .i64) (.pair (.pair (.int .i64) (.pair (.pair (.int .u32) (.pair .str (.pair (.int .u8) (.pair (.int .u8) (.pair (.int .u8) (.pair (.int .u8) (.pair (.int .u8) (.int .u8)))))))) (.pair (.pair (.int .u32) (.int .i64)) (.pair (.int .i64) (.pair (.pair (.int .u8) (.pair (.int .u8) (.pair (.int .u8) (.pair (.int .u8) (.pair (.int .u8) (.int .u8)))))) (.int .i64)))))) (.pair .str (.pair (.int .i64) (.int .i64))))))], 17, 16⟩, 0, ⟨[(3, .leaf (.own 16 (.pair (.int .i64) (.pair (.pair (.int .i64) (.pair (.pair (.int .u32) (.pair .str (.pair (.int .u8) (.pair (.int .u8) (.pair (.int .u8) (.pair (.int .u8) (.pair (.int .u8) (.int .u8)))))))) (.pair (.pair (.int .u32) (.int .i64)) (.pair (.int .i64) (.pair (.pair (.int .u8) (.pair (.int .u8) (.pair (.int .u8) (.pair (.int .u8) (.pair (.int .u8) (.int .u8)))))) (.int .i64)))))) (.pair .str (.pair (.int .i64) (.int .i64)))))))], [(16, .rows (.pair (.int .i64) (.pair (.pair (.int .i64) (.pair (.pair (.int .u32) (.pair .str (.pair (.int .u8) (.pair (.int .u8) (.pair (.int .u8) (.pair (.int .u8) (.pair (.int .u8) (.int .u8)))))))) (.pair (.pair (.int .u32) (.int .i64)) (.pair (.int .i64) (.pair (.pair (.int .u8) (.pair (.int .u8) (.pair (.int .u8) (.pair (.int .u8) (.pair (.int .u8) (.int .u8)))))) (.int .i64)))))) (.pair .str (.pair (.int .i64) (.int .i64))))))], 17, 16⟩)]
noncomputable def T_script_Acts : List Ent := [E_script_one]
theorem ok_script_Acts : FnX Go.Proofs.Tryd.prog 8 D_script_Acts (fun x => script_Acts x.1) :=
  FnX.of (coL_ok (es := T_script_Acts) (OKs.mem ⟨E_script_one_ok, trivial⟩)) mix (mkLs_ok (l := L_script_Acts) (by kernel_rfl)) (by kernel_rfl) Go.Proofs.Tryd.func8 rfl (by decide) (by decide) (fun x => by kernel_rfl)
noncomputable def E_script_Acts : Ent := ⟨8, D_script_Acts, fun x => script_Acts x.1, ([], ()), false⟩
theorem E_script_Acts_ok : E_script_Acts.OK Go.Proofs.Tryd.prog := ⟨ok_script_Acts, by kernel_rfl⟩

def D_terrierlaw22_awake : FD := ⟨[], [], [(0, .leaf .bool)], []⟩
def L_terrierlaw22_awake : List (Nat × StD × Nat × StD) := []
noncomputable def T_terrierlaw22_awake : List Ent := [E_script_Acts]
theorem ok_terrierlaw22_awake : FnX Go.Proofs.Tryd.prog 7 D_terrierlaw22_awake (fun x => terrierlaw22_awake) :=
  FnX.of (coL_ok (es := T_terrierlaw22_awake) (OKs.mem ⟨E_script_Acts_ok, trivial⟩)) mix (mkLs_ok (l := L_terrierlaw22_awake) (by kernel_rfl)) (by kernel_rfl) Go.Proofs.Tryd.func7 rfl (by decide) (by decide) (fun x => by kernel_rfl)
noncomputable def E_terrierlaw22_awake : Ent := ⟨7, D_terrierlaw22_awake, fun x => terrierlaw22_awake, (false, ()), false⟩
theorem E_terrierlaw22_awake_ok : E_terrierlaw22_awake.OK Go.Proofs.Tryd.prog := ⟨ok_terrierlaw22_awake, by kernel_rfl⟩

def D_terrierlaw22_event : FD := ⟨[(0, .leaf (.int .u8)), (1, .leaf (.int .u8)), (2, .leaf (.int .u8))], [], [(0, .grp (.pair (.int .i64) (.pair (.pair (.int .u32) (.pair .str (.pair (.int .u8) (.pair (.int .u8) (.pair (.int .u8) (.pair (.int .u8) (.pair (.int .u8) (.int .u8)))))))) (.pair (.pair (.int .u32) (.int .i64)) (.pair (.int .i64) (.pair (.pair (.int .u8) (.pair (.int .u8) (.pair (.int .u8) (.pair (.int .u8) (.pair (.int .u8) (.int .u8)))))) (.int .i64)))))))], []⟩
def L_terrierlaw22_event : List (Nat × StD × Nat × StD) := []
noncomputable def T_terrierlaw22_event : List Ent := []
theorem ok_terrierlaw22_event : FnX Go.Proofs.Tryd.prog 11 D_terrierlaw22_event (fun x => terrierlaw22_event x.1 x.2.1 x.2.2.1) :=
  FnX.of (coL_ok (es := T_terrierlaw22_event) (OKs.mem trivial)) mix (mkLs_ok (l := L_terrierlaw22_event) (by kernel_rfl)) (by kernel_rfl) Go.Proofs.Tryd.func11 rfl (by decide) (by decide) (fun x => by kernel_rfl)
noncomputable def E_terrierlaw22_event : Ent := ⟨11, D_terrierlaw22_event, fun x => terrierlaw22_event x.1 x.2.1 x.2.2.1, (((0 : Int), (((0 : Int), ([], ((0 : Int), ((0 : Int), ((0 : Int), ((0 : Int), ((0 : Int), (0 : Int)))))))), (((0 : Int), (0 : Int)), ((0 : Int), (((0 : Int), ((0 : Int), ((0 : Int), ((0 : Int), ((0 : Int), (0 : Int)))))), (0 : Int)))))), ()), false⟩
theorem E_terrierlaw22_event_ok : E_terrierlaw22_event.OK Go.Proofs.Tryd.prog := ⟨ok_terrierlaw22_event, by kernel_rfl⟩

def D_terrierlaw22_act : FD := ⟨[(0, .leaf (.sl (.int .u8)))], [], [(0, .grp (.pair (.int .i64) (.pair (.pair (.int .i64) (.pair (.pair (.int .u32) (.pair .str (.pair (.int .u8) (.pair (.int .u8) (.pair (.int .u8) (.pair (.int .u8) (.pair (.int .u8) (.int .u8)))))))) (.pair (.pair (.int .u32) (.int .i64)) (.pair (.int .i64) (.pair (.pair (.int .u8) (.pair (.int .u8) (.pair (.int .u8) (.pair (.int .u8) (.pair (.int .u8) (.int .u8)))))) (.int .i64)))))) (.pair .str (.pair (.int .i64) (.int .i64))))))], []⟩
def L_terrierlaw22_act : List (Nat × StD × Nat × StD) := []
noncomputable def T_terrierlaw22_act : List Ent := [E_command_Text, E_terrierlaw22_event]
theorem ok_terrierlaw22_act : FnX Go.Proofs.Tryd.prog 9 D_terrierlaw22_act (fun x => terrierlaw22_act x.1) :=
  FnX.of (coL_ok (es := T_terrierlaw22_act) (OKs.mem ⟨E_command_Text_ok, E_terrierlaw22_event_ok, trivial⟩)) mix (mkLs_ok (l := L_terrierlaw22_act) (by kernel_rfl)) (by kernel_rfl) Go.Proofs.Tryd.func9 rfl (by decide) (by decide) (fun x => by kernel_rfl)
noncomputable def E_terrierlaw22_act : Ent := ⟨9, D_terrierlaw22_act, fun x => terrierlaw22_act x.1, (((0 : Int), (((0 : Int), (((0 : Int), ([], ((0 : Int), ((0 : Int), ((0 : Int), ((0 : Int), ((0 : Int), (0 : Int)))))))), (((0 : Int), (0 : Int)), ((0 : Int), (((0 : Int), ((0 : Int), ((0 : Int), ((0 : Int), ((0 : Int), (0 : Int)))))), (0 : Int)))))), ([], ((0 : Int), (0 : Int))))), ()), false⟩
theorem E_terrierlaw22_act_ok : E_terrierlaw22_act.OK Go.Proofs.Tryd.prog := ⟨ok_terrierlaw22_act, by kernel_rfl⟩

def D_terrierlaw22_ScriptActs : FD := ⟨[(0, .leaf (.sl (.int .u8)))], [], [(0, .leaf .bool)], []⟩
def L_terrierlaw22_ScriptActs : List (Nat × StD × Nat × StD) := [(7, ⟨[(0, .leaf (.sl (.int .u8))), (16, .leaf (.own 16 (.pair (.int .i64) (.pair (.pair (.int .i64) (.pair (.pair (.int .u32) (.pair .str (.pair (.int .u8) (.pair (.int .u8) (.pair (.int .u8) (.pair (.int .u8) (.pair (.int .u8) (.int .u8)))))))) (.pair (.pair (.int .u32) (.int .i64)) (.pair (.int .i64) (.pair (.pair (.int .u8) (.pair (.int .u8) (.pair (.int .u8) (.pair (.int .u8) (.pair (.int .u8) (.int .u8)))))) (.int .i64)))))) (.pair .str (.pair (.int .i64) (.int .i64))))))), (17, .leaf (.int .i64)), (18, .leaf (.int .i64))], [(16, .rows (.pair (.int .i64) (.pair (.pair (.int .i64) (.pair (.pair (.int .u32) (.pair .str (.pair (.int .u8) (.pair (.int .u8) (.pair (.int .u8) (.pair (.int .u8) (.pair (.int .u8) (.int .u8)))))))) (.pair (.pair (.int .u32) (.int .i64)) (.pair (.int .i64) (.pair (.pair (.int .u8) (.pair (.int .u8) (.pair (.int .u8) (.pair (.int .u8) (.pair (.int .u8) (.int .u8)))))) (.int .i64)))))) (.pair .str (.pair (.int .i64) (.int .i64))))))], 17, 34⟩, 0, ⟨[], [], 16, 34⟩)]
noncomputable def T_terrierlaw22_ScriptActs : List Ent := [E_terrierlaw22_act, E_script_Acts, E_terrierlaw22_awake]
theorem ok_terrierlaw22_ScriptActs : FnX Go.Proofs.Tryd.prog 3 D_terrierlaw22_ScriptActs (fun x => terrierlaw22_ScriptActs x.1) :=
  FnX.of (coL_ok (es := T_terrierlaw22_ScriptActs) (OKs.mem ⟨E_terrierlaw22_act_ok, E_script_Acts_ok, E_terrierlaw22_awake_ok, trivial⟩)) mix (mkLs_ok (l := L_terrierlaw22_ScriptActs) (by kernel_rfl)) (by kernel_rfl) Go.Proofs.Tryd.func3 rfl (by decide) (by decide) (fun x => by kernel_rfl)
noncomputable def E_terrierlaw22_ScriptActs : Ent := ⟨3, D_terrierlaw22_ScriptActs, fun x => terrierlaw22_ScriptActs x.1, (false, ()), false⟩
theorem E_terrierlaw22_ScriptActs_ok : E_terrierlaw22_ScriptActs.OK Go.Proofs.Tryd.prog := ⟨ok_terrierlaw22_ScriptActs, by kernel_rfl⟩

def D_terrierlaw22_ScriptParts : FD := ⟨[(0, .leaf (.sl (.int .u8))), (1, .leaf (.sl (.int .u8)))], [], [(0, .leaf .bool)], []⟩
def L_terrierlaw22_ScriptParts : List (Nat × StD × Nat × StD) := [(9, ⟨[(5, .leaf (.own 16 (.pair (.int .i64) (.pair (.pair (.int .i64) (.pair (.pair (.int .u32) (.pair .str (.pair (.int .u8) (.pair (.int .u8) (.pair (.int .u8) (.pair (.int .u8) (.pair (.int .u8) (.int .u8)))))))) (.pair (.pair (.int .u32) (.int .i64)) (.pair (.int .i64) (.pair (.pair (.int .u8) (.pair (.int .u8) (.pair (.int .u8) (.pair (.int .u8) (.pair (.int .u8) (.int .u8)))))) (.int .i64)))))) (.pair .str (.pair (.int .i64) (.int .i64))))))), (6, .leaf (.own 17 (.pair (.int .i64) (.pair (.pair (.int .i64) (.pair (.pair (.int .u32) (.pair .str (.pair (.int .u8) (.pair (.int .u8) (.pair (.int .u8) (.pair (.int .u8) (.pair (.int .u8) (.int .u8)))))))) (.pair (.pair (.int .u32) (.int .i64)) (.pair (.int .i64) (.pair (.pair (.int .u8) (.pair (.int .u8) (.pair (.int .u8) (.pair (.int .u8) (.pair (.int .u8) (.int .u8)))))) (.int .i64)))))) (.pair .str (.pair (.int .i64) (.int .i64))))))), (7, .leaf (.own 18 (.pair (.int .i64) (.pair (.pair (.int .i64) (.pair (.pair (.int .u32) (.pair .str (.pair (.int .u8) (.pair (.int .u8) (.pair (.int .u8) (.pair (.int .u8) (.pair (.int .u8) (.int .u8)))))))) (.pair (.pair (.int .u32) (.int .i64)) (.pair (.int .i64) (.pair (.pair (.int .u8) (.pair (.int .u8) (.pair (.int .u8) (.pair (.int .u8) (.pair (.int .u8) (.int .u8)))))) (.int .i64)))))) (.pair .str (.pair (.int .i64) (.int .i64))))))), (35, .leaf (.int .i64)), (36, .leaf (.int .i64))], [(16, .rows (.pair (.int .i64) (.pair (.pair (.int .i64) (.pair (.pair (.int .u32) (.pair .str (.pair (.int .u8) (.pair (.int .u8) (.pair (.int .u8) (.pair (.int .u8) (.pair (.int .u8) (.int .u8)))))))) (.pair (.pair (.int .u32) (.int .i64)) (.pair (.int .i64) (.pair (.pair (.int .u8) (.pair (.int .u8) (.pair (.int .u8) (.pair (.int .u8) (.pair (.int .u8) (.int .u8)))))) (.int .i64)))))) (.pair .str (.pair (.int .i64) (.int .i64)))))), (17, .rows (.pair (.int .i64) (.pair (.pair (.int .i64) (.pair (.pair (.int .u32) (.pair .str (.pair (.int .u8) (.pair (.int .u8) (.pair (.int .u8) (.pair (.int .u8) (.pair (.int .u8) (.int .u8)))))))) (.pair (.pair (.int .u32) (.int .i64)) (.pair (.int .i64) (.pair (.pair (.int .u8) (.pair (.int .u8) (.pair (.int .u8) (.pair (.int .u8) (.pair (.int .u8) (.int .u8)))))) (.int .i64)))))) (.pair .str (.pair (.int .i64) (.int .i64)))))), (18, .rows (.pair (.int .i64) (.pair (.pair (.int .i64) (.pair (.pair (.int .u32) (.pair .str (.pair (.int .u8) (.pair (.int .u8) (.pair (.int .u8) (.pair (.int .u8) (.pair (.int .u8) (.int .u8)))))))) (.pair (.pair (.int .u32) (.int .i64)) (.pair (.int .i64) (.pair (.pair (.int .u8) (.pair (.int .u8) (.pair (.int .u8) (.pair (.int .u8) (.pair (.int .u8) (.int .u8)))))) (.int .i64)))))) (.pair .str (.pair (.int .i64) (.int .i64))))))], 19, 75⟩, 0, ⟨[], [], 16, 75⟩)]
noncomputable def T_terrierlaw22_ScriptParts : List Ent := [E_script_Acts, E_terrierlaw22_awake]
theorem ok_terrierlaw22_ScriptParts : FnX Go.Proofs.Tryd.prog 4 D_terrierlaw22_ScriptParts (fun x => terrierlaw22_ScriptParts x.1 x.2.1) :=
  FnX.of (coL_ok (es := T_terrierlaw22_ScriptParts) (OKs.mem ⟨E_script_Acts_ok, E_terrierlaw22_awake_ok, trivial⟩)) mix (mkLs_ok (l := L_terrierlaw22_ScriptParts) (by kernel_rfl)) (by kernel_rfl) Go.Proofs.Tryd.func4 rfl (by decide) (by decide) (fun x => by kernel_rfl)
noncomputable def E_terrierlaw22_ScriptParts : Ent := ⟨4, D_terrierlaw22_ScriptParts, fun x => terrierlaw22_ScriptParts x.1 x.2.1, (false, ()), false⟩
theorem E_terrierlaw22_ScriptParts_ok : E_terrierlaw22_ScriptParts.OK Go.Proofs.Tryd.prog := ⟨ok_terrierlaw22_ScriptParts, by kernel_rfl⟩

def D_terrierlaw22_ScriptTail : FD := ⟨[(0, .leaf (.sl (.int .u8))), (1, .leaf (.sl (.int .u8)))], [], [(0, .leaf .bool)], []⟩
def L_terrierlaw22_ScriptTail : List (Nat × StD × Nat × StD) := [(9, ⟨[(5, .leaf (.own 16 (.pair (.int .i64) (.pair (.pair (.int .i64) (.pair (.pair (.int .u32) (.pair .str (.pair (.int .u8) (.pair (.int .u8) (.pair (.int .u8) (.pair (.int .u8) (.pair (.int .u8) (.int .u8)))))))) (.pair (.pair (.int .u32) (.int .i64)) (.pair (.int .i64) (.pair (.pair (.int .u8) (.pair (.int .u8) (.pair (.int .u8) (.pair (.int .u8) (.pair (.int .u8) (.int .u8)))))) (.int .i64)))))) (.pair .str (.pair (.int .i64) (.int .i64))))))), (6, .leaf (.own 17 (.pair (.int .i64) (.pair (.pair (.int .i64) (.pair (.pair (.int .u32) (.pair .str (.pair (.int .u8) (.pair (.int .u8) (.pair (.int .u8) (.pair (.int .u8) (.pair (.int .u8) (.int .u8)))))))) (.pair (.pair (.int .u32) (.int .i64)) (.pair (.int .i64) (.pair (.pair (.int .u8) (.pair (.int .u8) (.pair (.int .u8) (.pair (.int .u8) (.pair (.int .u8) (.int .u8)))))) (.int .i64)))))) (.pair .str (.pair (.int .i64) (.int .i64))))))), (33, .leaf (.int .i64)), (34, .leaf (.int .i64))], [(16, .rows (.pair (.int .i64) (.pair (.pair (.int .i64) (.pair (.pair (.int .u32) (.pair .str (.pair (.int .u8) (.pair (.int .u8) (.pair (.int .u8) (.pair (.int .u8) (.pair (.int .u8) (.int .u8)))))))) (.pair (.pair (.int .u32) (.int .i64)) (.pair (.int .i64) (.pair (.pair (.int .u8) (.pair (.int .u8) (.pair (.int .u8) (.pair (.int .u8) (.pair (.int .u8) (.int .u8)))))) (.int .i64)))))) (.pair .str (.pair (.int .i64) (.int .i64)))))), (17, .rows (.pair (.int .i64) (.pair (.pair (.int .i64) (.pair (.pair (.int .u32) (.pair .str (.pair (.int .u8) (.pair (.int .u8) (.pair (.int .u8) (.pair (.int .u8) (.pair (.int .u8) (.int .u8)))))))) (.pair (.pair (.int .u32) (.int .i64)) (.pair (.int .i64) (.pair (.pair (.int .u8) (.pair (.int .u8) (.pair (.int .u8) (.pair (.int .u8) (.pair (.int .u8) (.int .u8)))))) (.int .i64)))))) (.pair .str (.pair (.int .i64) (.int .i64))))))], 18, 47⟩, 0, ⟨[], [], 16, 47⟩)]
noncomputable def T_terrierlaw22_ScriptTail : List Ent := [E_script_Acts, E_terrierlaw22_awake]
theorem ok_terrierlaw22_ScriptTail : FnX Go.Proofs.Tryd.prog 5 D_terrierlaw22_ScriptTail (fun x => terrierlaw22_ScriptTail x.1 x.2.1) :=
  FnX.of (coL_ok (es := T_terrierlaw22_ScriptTail) (OKs.mem ⟨E_script_Acts_ok, E_terrierlaw22_awake_ok, trivial⟩)) mix (mkLs_ok (l := L_terrierlaw22_ScriptTail) (by kernel_rfl)) (by kernel_rfl) Go.Proofs.Tryd.func5 rfl (by decide) (by decide) (fun x => by kernel_rfl)
noncomputable def E_terrierlaw22_ScriptTail : Ent := ⟨5, D_terrierlaw22_ScriptTail, fun x => terrierlaw22_ScriptTail x.1 x.2.1, (false, ()), false⟩
theorem E_terrierlaw22_ScriptTail_ok : E_terrierlaw22_ScriptTail.OK Go.Proofs.Tryd.prog := ⟨ok_terrierlaw22_ScriptTail, by kernel_rfl⟩

def D_terrierlaw22_ScriptKinds : FD := ⟨[(0, .leaf (.int .u8)), (1, .leaf (.int .u8)), (2, .leaf (.int .u8)), (3, .leaf (.int .u8))], [], [(0, .leaf .bool)], []⟩
def L_terrierlaw22_ScriptKinds : List (Nat × StD × Nat × StD) := []
noncomputable def T_terrierlaw22_ScriptKinds : List Ent := [E_script_Acts, E_terrierlaw22_awake]
theorem ok_terrierlaw22_ScriptKinds : FnX Go.Proofs.Tryd.prog 6 D_terrierlaw22_ScriptKinds (fun x => terrierlaw22_ScriptKinds x.1 x.2.1 x.2.2.1 x.2.2.2.1) :=
  FnX.of (coL_ok (es := T_terrierlaw22_ScriptKinds) (OKs.mem ⟨E_script_Acts_ok, E_terrierlaw22_awake_ok, trivial⟩)) mix (mkLs_ok (l := L_terrierlaw22_ScriptKinds) (by kernel_rfl)) (by kernel_rfl) Go.Proofs.Tryd.func6 rfl (by decide) (by decide) (fun x => by kernel_rfl)
noncomputable def E_terrierlaw22_ScriptKinds : Ent := ⟨6, D_terrierlaw22_ScriptKinds, fun x => terrierlaw22_ScriptKinds x.1 x.2.1 x.2.2.1 x.2.2.2.1, (false, ()), false⟩
theorem E_terrierlaw22_ScriptKinds_ok : E_terrierlaw22_ScriptKinds.OK Go.Proofs.Tryd.prog := ⟨ok_terrierlaw22_ScriptKinds, by kernel_rfl⟩

end Go.Tr
