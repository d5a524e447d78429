/- The Go functions come to these Lean functions: printed by a program of this session's. Conditions: none. -/
import Derived.Test.YtfaaeeabiikhbaaGreatDoorBE
import Derived.Test.YtfaaeeabiikhbaaGreatDoorLinD
import Derived.Test.YtfaaeeabiikhbaaGreatDoorLinX
import Derived.KernelRfl
import Derived.Test.YtfaaeeabiikhbaaGreatDoorProg
namespace Go.Tr
open Go
set_option linter.unusedVariables false
set_option maxRecDepth 100000
theorem mix : Go.Proofs.Tryz.prog.follows .mixedOrders = true := by rfl
noncomputable def E_strconv_Itoa : Ent := ⟨38, D_strconv_Itoa, fun x => strconv_Itoa x.1, ([], ()), false⟩
theorem E_strconv_Itoa_ok : E_strconv_Itoa.OK Go.Proofs.Tryz.prog := ⟨x_strconv_Itoa, by kernel_rfl⟩
noncomputable def E_strings_Split : Ent := ⟨39, D_strings_Split, fun x => strings_Split x.1 x.2.1, ([], ()), true⟩
theorem E_strings_Split_ok : E_strings_Split.OK Go.Proofs.Tryz.prog := ⟨x_strings_Split, by kernel_rfl⟩
noncomputable def E_strconv_Quote : Ent := ⟨55, D_strconv_Quote, fun x => strconv_Quote x.1, ([], ()), false⟩
theorem E_strconv_Quote_ok : E_strconv_Quote.OK Go.Proofs.Tryz.prog := ⟨x_strconv_Quote, by kernel_rfl⟩
def D_addr_number : FD := ⟨[(0, .leaf .str), (1, .leaf (.int .i64))], [], [(0, .leaf (.int .i64)), (1, .leaf .bool)], []⟩
def L_addr_number : List (Nat × StD × Nat × StD) := [(5, ⟨[(0, .leaf .str), (1, .leaf (.int .i64)), (6, .leaf (.int .i64)), (26, .leaf (.int .i64)), (27, .leaf (.int .i64))], [], 16, 53⟩, 0, ⟨[(1, .leaf (.int .i64)), (6, .leaf (.int .i64))], [], 16, 53⟩)]
noncomputable def T_addr_number : List Ent := []
theorem ok_addr_number : FnX Go.Proofs.Tryz.prog 64 D_addr_number (fun x => addr_number x.1 x.2.1) :=
  FnX.of (coL_ok (es := T_addr_number) (OKs.mem trivial)) mix (mkLs_ok (l := L_addr_number) (by kernel_rfl)) (by kernel_rfl) Go.Proofs.Tryz.func64 rfl (by decide) (by decide) (fun x => by kernel_rfl)
noncomputable def E_addr_number : Ent := ⟨64, D_addr_number, fun x => addr_number x.1 x.2.1, ((0 : Int), (false, ())), false⟩
theorem E_addr_number_ok : E_addr_number.OK Go.Proofs.Tryz.prog := ⟨ok_addr_number, by kernel_rfl⟩
def D_addr_Parse : FD := ⟨[(0, .leaf .str)], [], [(0, .leaf (.int .u32)), (1, .leaf .bool)], []⟩
def L_addr_Parse : List (Nat × StD × Nat × StD) := [(6, ⟨[(5, .leaf (.int .u32)), (15, .leaf (.sl .str)), (16, .leaf (.int .i64)), (17, .leaf (.int .i64))], [], 16, 35⟩, 0, ⟨[(5, .leaf (.int .u32))], [], 16, 35⟩)]
noncomputable def T_addr_Parse : List Ent := [E_addr_number, E_strings_Split]
theorem ok_addr_Parse : FnX Go.Proofs.Tryz.prog 43 D_addr_Parse (fun x => addr_Parse x.1) :=
  FnX.of (coL_ok (es := T_addr_Parse) (OKs.mem ⟨E_addr_number_ok, E_strings_Split_ok, trivial⟩)) mix (mkLs_ok (l := L_addr_Parse) (by kernel_rfl)) (by kernel_rfl) Go.Proofs.Tryz.func43 rfl (by decide) (by decide) (fun x => by kernel_rfl)
noncomputable def E_addr_Parse : Ent := ⟨43, D_addr_Parse, fun x => addr_Parse x.1, ((0 : Int), (false, ())), false⟩
theorem E_addr_Parse_ok : E_addr_Parse.OK Go.Proofs.Tryz.prog := ⟨ok_addr_Parse, by kernel_rfl⟩
def D_mac_digit : FD := ⟨[(0, .leaf (.int .u8))], [], [(0, .leaf (.int .u8)), (1, .leaf .bool)], []⟩
def L_mac_digit : List (Nat × StD × Nat × StD) := []
noncomputable def T_mac_digit : List Ent := []
theorem ok_mac_digit : FnX Go.Proofs.Tryz.prog 66 D_mac_digit (fun x => mac_digit x.1) :=
  FnX.of (coL_ok (es := T_mac_digit) (OKs.mem trivial)) mix (mkLs_ok (l := L_mac_digit) (by kernel_rfl)) (by kernel_rfl) Go.Proofs.Tryz.func66 rfl (by decide) (by decide) (fun x => by kernel_rfl)
noncomputable def E_mac_digit : Ent := ⟨66, D_mac_digit, fun x => mac_digit x.1, ((0 : Int), (false, ())), false⟩
theorem E_mac_digit_ok : E_mac_digit.OK Go.Proofs.Tryz.prog := ⟨ok_mac_digit, by kernel_rfl⟩
def D_mac_Parse : FD := ⟨[(0, .leaf .str)], [], [(0, .grp sMc), (1, .leaf .bool)], []⟩
def L_mac_Parse : List (Nat × StD × Nat × StD) := [(5, ⟨[(0, .leaf .str), (2, .leaf (.ptr 16 0)), (4, .leaf (.ptr 17 0)), (24, .leaf (.int .i64))], [(16, .cells [(.int .u8), (.int .u8), (.int .u8), (.int .u8), (.int .u8), (.int .u8)]), (17, .cells [(.int .u8), (.int .u8), (.int .u8), (.int .u8), (.int .u8), (.int .u8)])], 18, 73⟩, 0, ⟨[(2, .leaf (.ptr 16 0)), (4, .leaf (.ptr 17 0))], [(16, .cells [(.int .u8), (.int .u8), (.int .u8), (.int .u8), (.int .u8), (.int .u8)]), (17, .cells [(.int .u8), (.int .u8), (.int .u8), (.int .u8), (.int .u8), (.int .u8)])], 18, 73⟩)]
noncomputable def T_mac_Parse : List Ent := [E_mac_digit]
theorem ok_mac_Parse : FnX Go.Proofs.Tryz.prog 47 D_mac_Parse (fun x => mac_Parse x.1) :=
  FnX.of (coL_ok (es := T_mac_Parse) (OKs.mem ⟨E_mac_digit_ok, trivial⟩)) mix (mkLs_ok (l := L_mac_Parse) (by kernel_rfl)) (by kernel_rfl) Go.Proofs.Tryz.func47 rfl (by decide) (by decide) (fun x => by kernel_rfl)
noncomputable def E_mac_Parse : Ent := ⟨47, D_mac_Parse, fun x => mac_Parse x.1, (((0 : Int), ((0 : Int), ((0 : Int), ((0 : Int), ((0 : Int), (0 : Int)))))), (false, ())), false⟩
theorem E_mac_Parse_ok : E_mac_Parse.OK Go.Proofs.Tryz.prog := ⟨ok_mac_Parse, by kernel_rfl⟩
def D_mac_None : FD := ⟨[(0, .grp sMc)], [], [(0, .leaf .bool)], []⟩
def L_mac_None : List (Nat × StD × Nat × StD) := []
noncomputable def T_mac_None : List Ent := []
theorem ok_mac_None : FnX Go.Proofs.Tryz.prog 34 D_mac_None (fun x => mac_None x.1) :=
  FnX.of (coL_ok (es := T_mac_None) (OKs.mem trivial)) mix (mkLs_ok (l := L_mac_None) (by kernel_rfl)) (by kernel_rfl) Go.Proofs.Tryz.func34 rfl (by decide) (by decide) (fun x => by kernel_rfl)
noncomputable def E_mac_None : Ent := ⟨34, D_mac_None, fun x => mac_None x.1, (false, ()), false⟩
theorem E_mac_None_ok : E_mac_None.OK Go.Proofs.Tryz.prog := ⟨ok_mac_None, by kernel_rfl⟩
def D_mac_Group : FD := ⟨[(0, .grp sMc)], [], [(0, .leaf .bool)], []⟩
def L_mac_Group : List (Nat × StD × Nat × StD) := []
noncomputable def T_mac_Group : List Ent := []
theorem ok_mac_Group : FnX Go.Proofs.Tryz.prog 35 D_mac_Group (fun x => mac_Group x.1) :=
  FnX.of (coL_ok (es := T_mac_Group) (OKs.mem trivial)) mix (mkLs_ok (l := L_mac_Group) (by kernel_rfl)) (by kernel_rfl) Go.Proofs.Tryz.func35 rfl (by decide) (by decide) (fun x => by kernel_rfl)
noncomputable def E_mac_Group : Ent := ⟨35, D_mac_Group, fun x => mac_Group x.1, (false, ()), false⟩
theorem E_mac_Group_ok : E_mac_Group.OK Go.Proofs.Tryz.prog := ⟨ok_mac_Group, by kernel_rfl⟩
noncomputable def E_strings_Join : Ent := ⟨60, D_strings_Join, fun x => strings_Join x.1 x.2.1, ([], ()), false⟩
theorem E_strings_Join_ok : E_strings_Join.OK Go.Proofs.Tryz.prog := ⟨x_strings_Join, by kernel_rfl⟩
def D_addr_Text : FD := ⟨[(0, .leaf (.int .u32))], [], [(0, .leaf .str)], []⟩
def L_addr_Text : List (Nat × StD × Nat × StD) := [(3, ⟨[(0, .leaf (.int .u32)), (3, .leaf (.own 16 .str)), (4, .leaf (.int .i64))], [(16, .rows .str)], 17, 21⟩, 0, ⟨[(3, .leaf (.own 16 .str))], [(16, .rows .str)], 17, 21⟩)]
noncomputable def T_addr_Text : List Ent := [E_strings_Join, E_strconv_Itoa]
theorem ok_addr_Text : FnX Go.Proofs.Tryz.prog 31 D_addr_Text (fun x => addr_Text x.1) :=
  FnX.of (coL_ok (es := T_addr_Text) (OKs.mem ⟨E_strings_Join_ok, E_strconv_Itoa_ok, trivial⟩)) mix (mkLs_ok (l := L_addr_Text) (by kernel_rfl)) (by kernel_rfl) Go.Proofs.Tryz.func31 rfl (by decide) (by decide) (fun x => by kernel_rfl)
noncomputable def E_addr_Text : Ent := ⟨31, D_addr_Text, fun x => addr_Text x.1, ([], ()), false⟩
theorem E_addr_Text_ok : E_addr_Text.OK Go.Proofs.Tryz.prog := ⟨ok_addr_Text, by kernel_rfl⟩
def D_mac_Text : FD := ⟨[(0, .grp sMc)], [], [(0, .leaf .str)], []⟩
def L_mac_Text : List (Nat × StD × Nat × StD) := [(3, ⟨[(3, .leaf (.own 16 (.int .u8))), (7, .grp sMc), (8, .leaf (.int .i64))], [(16, .rows (.int .u8))], 17, 29⟩, 0, ⟨[(3, .leaf (.own 16 (.int .u8)))], [(16, .rows (.int .u8))], 17, 29⟩)]
noncomputable def T_mac_Text : List Ent := []
theorem ok_mac_Text : FnX Go.Proofs.Tryz.prog 32 D_mac_Text (fun x => mac_Text x.1) :=
  FnX.of (coL_ok (es := T_mac_Text) (OKs.mem trivial)) mix (mkLs_ok (l := L_mac_Text) (by kernel_rfl)) (by kernel_rfl) Go.Proofs.Tryz.func32 rfl (by decide) (by decide) (fun x => by kernel_rfl)
noncomputable def E_mac_Text : Ent := ⟨32, D_mac_Text, fun x => mac_Text x.1, ([], ()), false⟩
theorem E_mac_Text_ok : E_mac_Text.OK Go.Proofs.Tryz.prog := ⟨ok_mac_Text, by kernel_rfl⟩
def D_lines_wrap : FD := ⟨[(0, .leaf .str), (1, .leaf (.int .i64))], [], [(0, .leaf .err)], []⟩
def L_lines_wrap : List (Nat × StD × Nat × StD) := []
noncomputable def T_lines_wrap : List Ent := []
theorem ok_lines_wrap : FnX Go.Proofs.Tryz.prog 53 D_lines_wrap (fun x => lines_wrap x.1 x.2.1) :=
  FnX.of (coL_ok (es := T_lines_wrap) (OKs.mem trivial)) mix (mkLs_ok (l := L_lines_wrap) (by kernel_rfl)) (by kernel_rfl) Go.Proofs.Tryz.func53 rfl (by decide) (by decide) (fun x => by kernel_rfl)
noncomputable def E_lines_wrap : Ent := ⟨53, D_lines_wrap, fun x => lines_wrap x.1 x.2.1, (TErr.nil, ()), true⟩
theorem E_lines_wrap_ok : E_lines_wrap.OK Go.Proofs.Tryz.prog := ⟨ok_lines_wrap, by kernel_rfl⟩
def D_lines_station : FD := ⟨[(0, .leaf .str), (1, .leaf .str)], [], [(0, .grp (.pair (.int .u32) (.pair sMc (.int .i64)))), (1, .leaf .err)], []⟩
def L_lines_station : List (Nat × StD × Nat × StD) := []
noncomputable def T_lines_station : List Ent := [E_mac_Group, E_mac_None, E_mac_Parse, E_lines_wrap, E_strconv_Quote, E_addr_Parse]
theorem ok_lines_station : FnX Go.Proofs.Tryz.prog 54 D_lines_station (fun x => lines_station x.1 x.2.1) :=
  FnX.of (coL_ok (es := T_lines_station) (OKs.mem ⟨E_mac_Group_ok, E_mac_None_ok, E_mac_Parse_ok, E_lines_wrap_ok, E_strconv_Quote_ok, E_addr_Parse_ok, trivial⟩)) mix (mkLs_ok (l := L_lines_station) (by kernel_rfl)) (by kernel_rfl) Go.Proofs.Tryz.func54 rfl (by decide) (by decide) (fun x => by kernel_rfl)
noncomputable def E_lines_station : Ent := ⟨54, D_lines_station, fun x => lines_station x.1 x.2.1, (((0 : Int), (((0 : Int), ((0 : Int), ((0 : Int), ((0 : Int), ((0 : Int), (0 : Int)))))), (0 : Int))), (TErr.nil, ())), true⟩
theorem E_lines_station_ok : E_lines_station.OK Go.Proofs.Tryz.prog := ⟨ok_lines_station, by kernel_rfl⟩
def D_lines_Neighbour : FD := ⟨[(0, .leaf .str)], [], [(0, .grp (.pair (.int .u32) (.pair sMc (.int .i64)))), (1, .leaf .err)], []⟩
def L_lines_Neighbour : List (Nat × StD × Nat × StD) := []
noncomputable def T_lines_Neighbour : List Ent := [E_strconv_Quote, E_lines_station, E_lines_wrap, E_strings_Split]
theorem ok_lines_Neighbour : FnX Go.Proofs.Tryz.prog 26 D_lines_Neighbour (fun x => lines_Neighbour x.1) :=
  FnX.of (coL_ok (es := T_lines_Neighbour) (OKs.mem ⟨E_strconv_Quote_ok, E_lines_station_ok, E_lines_wrap_ok, E_strings_Split_ok, trivial⟩)) mix (mkLs_ok (l := L_lines_Neighbour) (by kernel_rfl)) (by kernel_rfl) Go.Proofs.Tryz.func26 rfl (by decide) (by decide) (fun x => by kernel_rfl)
noncomputable def E_lines_Neighbour : Ent := ⟨26, D_lines_Neighbour, fun x => lines_Neighbour x.1, (((0 : Int), (((0 : Int), ((0 : Int), ((0 : Int), ((0 : Int), ((0 : Int), (0 : Int)))))), (0 : Int))), (TErr.nil, ())), true⟩
theorem E_lines_Neighbour_ok : E_lines_Neighbour.OK Go.Proofs.Tryz.prog := ⟨ok_lines_Neighbour, by kernel_rfl⟩
noncomputable def E_strconv_Atoi : Ent := ⟨58, D_strconv_Atoi, fun x => strconv_Atoi x.1, ((0 : Int), (TErr.nil, ())), true⟩
theorem E_strconv_Atoi_ok : E_strconv_Atoi.OK Go.Proofs.Tryz.prog := ⟨x_strconv_Atoi, by kernel_rfl⟩
def D_lines_Lease : FD := ⟨[(0, .leaf .str)], [], [(0, .grp (.pair (.int .u32) (.pair sMc (.int .i64)))), (1, .leaf .err)], []⟩
def L_lines_Lease : List (Nat × StD × Nat × StD) := []
noncomputable def T_lines_Lease : List Ent := [E_lines_station, E_strconv_Quote, E_strconv_Itoa, E_strconv_Atoi, E_lines_wrap, E_strings_Split]
theorem ok_lines_Lease : FnX Go.Proofs.Tryz.prog 29 D_lines_Lease (fun x => lines_Lease x.1) :=
  FnX.of (coL_ok (es := T_lines_Lease) (OKs.mem ⟨E_lines_station_ok, E_strconv_Quote_ok, E_strconv_Itoa_ok, E_strconv_Atoi_ok, E_lines_wrap_ok, E_strings_Split_ok, trivial⟩)) mix (mkLs_ok (l := L_lines_Lease) (by kernel_rfl)) (by kernel_rfl) Go.Proofs.Tryz.func29 rfl (by decide) (by decide) (fun x => by kernel_rfl)
noncomputable def E_lines_Lease : Ent := ⟨29, D_lines_Lease, fun x => lines_Lease x.1, (((0 : Int), (((0 : Int), ((0 : Int), ((0 : Int), ((0 : Int), ((0 : Int), (0 : Int)))))), (0 : Int))), (TErr.nil, ())), true⟩
theorem E_lines_Lease_ok : E_lines_Lease.OK Go.Proofs.Tryz.prog := ⟨ok_lines_Lease, by kernel_rfl⟩
noncomputable def E_errors_Is : Ent := ⟨52, D_errors_Is, fun x => errors_Is x.1 x.2.1, (false, ()), false⟩
theorem E_errors_Is_ok : E_errors_Is.OK Go.Proofs.Tryz.prog := ⟨x_errors_Is, by kernel_rfl⟩
noncomputable def E_lines_Number : Ent := ⟨23, D_lines_Number, fun x => lines_Number x.1, ((0 : Int), ()), false⟩
theorem E_lines_Number_ok : E_lines_Number.OK Go.Proofs.Tryz.prog := ⟨x_lines_Number, by kernel_rfl⟩
def D_terrierlaw08_awake : FD := ⟨[], [], [(0, .leaf .bool)], []⟩
def L_terrierlaw08_awake : List (Nat × StD × Nat × StD) := []
noncomputable def T_terrierlaw08_awake : List Ent := [E_lines_Number, E_errors_Is, E_lines_Lease, E_lines_Neighbour]
theorem ok_terrierlaw08_awake : FnX Go.Proofs.Tryz.prog 21 D_terrierlaw08_awake (fun x => terrierlaw08_awake) :=
  FnX.of (coL_ok (es := T_terrierlaw08_awake) (OKs.mem ⟨E_lines_Number_ok, E_errors_Is_ok, E_lines_Lease_ok, E_lines_Neighbour_ok, trivial⟩)) mix (mkLs_ok (l := L_terrierlaw08_awake) (by kernel_rfl)) (by kernel_rfl) Go.Proofs.Tryz.func21 rfl (by decide) (by decide) (fun x => by kernel_rfl)
noncomputable def E_terrierlaw08_awake : Ent := ⟨21, D_terrierlaw08_awake, fun x => terrierlaw08_awake, (false, ()), false⟩
theorem E_terrierlaw08_awake_ok : E_terrierlaw08_awake.OK Go.Proofs.Tryz.prog := ⟨ok_terrierlaw08_awake, by kernel_rfl⟩
noncomputable def E_lines_Place : Ent := ⟨22, D_lines_Place, fun x => lines_Place x.1, ((0 : Int), (false, ())), false⟩
theorem E_lines_Place_ok : E_lines_Place.OK Go.Proofs.Tryz.prog := ⟨x_lines_Place, by kernel_rfl⟩
def D_terrierlaw08_digits : FD := ⟨[(0, .leaf (.int .i64))], [], [(0, .leaf .str)], []⟩
def L_terrierlaw08_digits : List (Nat × StD × Nat × StD) := []
theorem ok_terrierlaw08_digits_s (self : Int → Option ((List UInt8) × Unit)) (hs : FnX Go.Proofs.Tryz.prog 33 D_terrierlaw08_digits (fun x => self x.1)) : FnX Go.Proofs.Tryz.prog 33 D_terrierlaw08_digits (fun x => terrierlaw08_digits_s self x.1) :=
  FnX.of (coL_ok (es := [⟨33, D_terrierlaw08_digits, fun x => self x.1, ([], ()), false⟩]) (OKs.mem ⟨⟨hs, by kernel_rfl⟩, trivial⟩)) mix (mkLs_ok (l := L_terrierlaw08_digits) (by kernel_rfl)) (by kernel_rfl) Go.Proofs.Tryz.func33 rfl (by decide) (by decide) (fun x => by kernel_rfl)
theorem ok_terrierlaw08_digits_k : ∀ k, FnX Go.Proofs.Tryz.prog 33 D_terrierlaw08_digits (fun x => terrierlaw08_digits_k k x.1)
  | 0 => FnX.none ⟨_, Go.Proofs.Tryz.func33, by decide, rfl⟩
  | k + 1 => ok_terrierlaw08_digits_s _ (ok_terrierlaw08_digits_k k)
theorem ok_terrierlaw08_digits : FnX Go.Proofs.Tryz.prog 33 D_terrierlaw08_digits (fun x => terrierlaw08_digits x.1) := ok_terrierlaw08_digits_k _
noncomputable def E_terrierlaw08_digits : Ent := ⟨33, D_terrierlaw08_digits, fun x => terrierlaw08_digits x.1, ([], ()), false⟩
theorem E_terrierlaw08_digits_ok : E_terrierlaw08_digits.OK Go.Proofs.Tryz.prog := ⟨ok_terrierlaw08_digits, by kernel_rfl⟩
def D_terrierlaw08_Words_four : FD := ⟨[(0, .grp (.pair (.int .u32) (.pair sMc (.pair (.int .u8) (.pair (.int .i64) (.pair (.int .u8) .str)))))), (1, .leaf .bool)], [], [(0, .grp (.pair .str (.pair .str (.pair .str .str))))], []⟩
def L_terrierlaw08_Words_four : List (Nat × StD × Nat × StD) := []
noncomputable def T_terrierlaw08_Words_four : List Ent := [E_terrierlaw08_digits, E_mac_Text, E_addr_Text]
theorem ok_terrierlaw08_Words_four : FnX Go.Proofs.Tryz.prog 25 D_terrierlaw08_Words_four (fun x => terrierlaw08_Words_four x.1 x.2.1) :=
  FnX.of (coL_ok (es := T_terrierlaw08_Words_four) (OKs.mem ⟨E_terrierlaw08_digits_ok, E_mac_Text_ok, E_addr_Text_ok, trivial⟩)) mix (mkLs_ok (l := L_terrierlaw08_Words_four) (by kernel_rfl)) (by kernel_rfl) Go.Proofs.Tryz.func25 rfl (by decide) (by decide) (fun x => by kernel_rfl)
noncomputable def E_terrierlaw08_Words_four : Ent := ⟨25, D_terrierlaw08_Words_four, fun x => terrierlaw08_Words_four x.1 x.2.1, (([], ([], ([], []))), ()), false⟩
theorem E_terrierlaw08_Words_four_ok : E_terrierlaw08_Words_four.OK Go.Proofs.Tryz.prog := ⟨ok_terrierlaw08_Words_four, by kernel_rfl⟩
def D_terrierlaw08_split : FD := ⟨[(0, .leaf .str)], [], [(0, .leaf (.own 16 .str))], [(16, .rows .str)]⟩
def L_terrierlaw08_split : List (Nat × StD × Nat × StD) := [(3, ⟨[(0, .leaf .str), (3, .leaf (.own 16 .str)), (4, .leaf (.int .i64))], [(16, .rows .str)], 17, 37⟩, 0, ⟨[(3, .leaf (.own 16 .str))], [(16, .rows .str)], 17, 37⟩)]
noncomputable def T_terrierlaw08_split : List Ent := []
theorem ok_terrierlaw08_split : FnX Go.Proofs.Tryz.prog 56 D_terrierlaw08_split (fun x => terrierlaw08_split x.1) :=
  FnX.of (coL_ok (es := T_terrierlaw08_split) (OKs.mem trivial)) mix (mkLs_ok (l := L_terrierlaw08_split) (by kernel_rfl)) (by kernel_rfl) Go.Proofs.Tryz.func56 rfl (by decide) (by decide) (fun x => by kernel_rfl)
noncomputable def E_terrierlaw08_split : Ent := ⟨56, D_terrierlaw08_split, fun x => terrierlaw08_split x.1, ([], ()), false⟩
theorem E_terrierlaw08_split_ok : E_terrierlaw08_split.OK Go.Proofs.Tryz.prog := ⟨ok_terrierlaw08_split, by kernel_rfl⟩
def D_terrierlaw08_station : FD := ⟨[(0, .leaf .str), (1, .leaf .str)], [], [(0, .grp (.pair (.int .u32) (.pair sMc (.int .i64)))), (1, .leaf (.int .i64))], []⟩
def L_terrierlaw08_station : List (Nat × StD × Nat × StD) := []
noncomputable def T_terrierlaw08_station : List Ent := [E_mac_Group, E_mac_None, E_mac_Parse, E_addr_Parse]
theorem ok_terrierlaw08_station : FnX Go.Proofs.Tryz.prog 57 D_terrierlaw08_station (fun x => terrierlaw08_station x.1 x.2.1) :=
  FnX.of (coL_ok (es := T_terrierlaw08_station) (OKs.mem ⟨E_mac_Group_ok, E_mac_None_ok, E_mac_Parse_ok, E_addr_Parse_ok, trivial⟩)) mix (mkLs_ok (l := L_terrierlaw08_station) (by kernel_rfl)) (by kernel_rfl) Go.Proofs.Tryz.func57 rfl (by decide) (by decide) (fun x => by kernel_rfl)
noncomputable def E_terrierlaw08_station : Ent := ⟨57, D_terrierlaw08_station, fun x => terrierlaw08_station x.1 x.2.1, (((0 : Int), (((0 : Int), ((0 : Int), ((0 : Int), ((0 : Int), ((0 : Int), (0 : Int)))))), (0 : Int))), ((0 : Int), ())), false⟩
theorem E_terrierlaw08_station_ok : E_terrierlaw08_station.OK Go.Proofs.Tryz.prog := ⟨ok_terrierlaw08_station, by kernel_rfl⟩
def D_terrierlaw08_neighbour : FD := ⟨[(0, .leaf .str)], [], [(0, .grp (.pair (.int .u32) (.pair sMc (.int .i64)))), (1, .leaf (.int .i64))], []⟩
def L_terrierlaw08_neighbour : List (Nat × StD × Nat × StD) := []
noncomputable def T_terrierlaw08_neighbour : List Ent := [E_terrierlaw08_station, E_terrierlaw08_split]
theorem ok_terrierlaw08_neighbour : FnX Go.Proofs.Tryz.prog 27 D_terrierlaw08_neighbour (fun x => terrierlaw08_neighbour x.1) :=
  FnX.of (coL_ok (es := T_terrierlaw08_neighbour) (OKs.mem ⟨E_terrierlaw08_station_ok, E_terrierlaw08_split_ok, trivial⟩)) mix (mkLs_ok (l := L_terrierlaw08_neighbour) (by kernel_rfl)) (by kernel_rfl) Go.Proofs.Tryz.func27 rfl (by decide) (by decide) (fun x => by kernel_rfl)
noncomputable def E_terrierlaw08_neighbour : Ent := ⟨27, D_terrierlaw08_neighbour, fun x => terrierlaw08_neighbour x.1, (((0 : Int), (((0 : Int), ((0 : Int), ((0 : Int), ((0 : Int), ((0 : Int), (0 : Int)))))), (0 : Int))), ((0 : Int), ())), false⟩
theorem E_terrierlaw08_neighbour_ok : E_terrierlaw08_neighbour.OK Go.Proofs.Tryz.prog := ⟨ok_terrierlaw08_neighbour, by kernel_rfl⟩
def D_terrierlaw08_told : FD := ⟨[(0, .leaf .err), (1, .leaf (.int .i64))], [], [(0, .leaf .bool)], []⟩
def L_terrierlaw08_told : List (Nat × StD × Nat × StD) := []
noncomputable def T_terrierlaw08_told : List Ent := [E_errors_Is, E_lines_Number]
theorem ok_terrierlaw08_told : FnX Go.Proofs.Tryz.prog 28 D_terrierlaw08_told (fun x => terrierlaw08_told x.1 x.2.1) :=
  FnX.of (coL_ok (es := T_terrierlaw08_told) (OKs.mem ⟨E_errors_Is_ok, E_lines_Number_ok, trivial⟩)) mix (mkLs_ok (l := L_terrierlaw08_told) (by kernel_rfl)) (by kernel_rfl) Go.Proofs.Tryz.func28 rfl (by decide) (by decide) (fun x => by kernel_rfl)
noncomputable def E_terrierlaw08_told : Ent := ⟨28, D_terrierlaw08_told, fun x => terrierlaw08_told x.1 x.2.1, (false, ()), false⟩
theorem E_terrierlaw08_told_ok : E_terrierlaw08_told.OK Go.Proofs.Tryz.prog := ⟨ok_terrierlaw08_told, by kernel_rfl⟩
def D_terrierlaw08_number : FD := ⟨[(0, .leaf .str)], [], [(0, .leaf (.int .i64)), (1, .leaf .bool)], []⟩
def L_terrierlaw08_number : List (Nat × StD × Nat × StD) := [(5, ⟨[(0, .leaf .str), (4, .leaf (.int .i64)), (5, .leaf (.int .i64)), (6, .leaf (.int .i64))], [], 16, 57⟩, 0, ⟨[(0, .leaf .str), (4, .leaf (.int .i64)), (5, .leaf (.int .i64))], [], 16, 57⟩)]
noncomputable def T_terrierlaw08_number : List Ent := [E_terrierlaw08_digits]
theorem ok_terrierlaw08_number : FnX Go.Proofs.Tryz.prog 59 D_terrierlaw08_number (fun x => terrierlaw08_number x.1) :=
  FnX.of (coL_ok (es := T_terrierlaw08_number) (OKs.mem ⟨E_terrierlaw08_digits_ok, trivial⟩)) mix (mkLs_ok (l := L_terrierlaw08_number) (by kernel_rfl)) (by kernel_rfl) Go.Proofs.Tryz.func59 rfl (by decide) (by decide) (fun x => by kernel_rfl)
noncomputable def E_terrierlaw08_number : Ent := ⟨59, D_terrierlaw08_number, fun x => terrierlaw08_number x.1, ((0 : Int), (false, ())), false⟩
theorem E_terrierlaw08_number_ok : E_terrierlaw08_number.OK Go.Proofs.Tryz.prog := ⟨ok_terrierlaw08_number, by kernel_rfl⟩
def D_terrierlaw08_lease : FD := ⟨[(0, .leaf .str)], [], [(0, .grp (.pair (.int .u32) (.pair sMc (.int .i64)))), (1, .leaf (.int .i64))], []⟩
def L_terrierlaw08_lease : List (Nat × StD × Nat × StD) := []
noncomputable def T_terrierlaw08_lease : List Ent := [E_terrierlaw08_station, E_terrierlaw08_number, E_terrierlaw08_split]
theorem ok_terrierlaw08_lease : FnX Go.Proofs.Tryz.prog 30 D_terrierlaw08_lease (fun x => terrierlaw08_lease x.1) :=
  FnX.of (coL_ok (es := T_terrierlaw08_lease) (OKs.mem ⟨E_terrierlaw08_station_ok, E_terrierlaw08_number_ok, E_terrierlaw08_split_ok, trivial⟩)) mix (mkLs_ok (l := L_terrierlaw08_lease) (by kernel_rfl)) (by kernel_rfl) Go.Proofs.Tryz.func30 rfl (by decide) (by decide) (fun x => by kernel_rfl)
noncomputable def E_terrierlaw08_lease : Ent := ⟨30, D_terrierlaw08_lease, fun x => terrierlaw08_lease x.1, (((0 : Int), (((0 : Int), ((0 : Int), ((0 : Int), ((0 : Int), ((0 : Int), (0 : Int)))))), (0 : Int))), ((0 : Int), ())), false⟩
theorem E_terrierlaw08_lease_ok : E_terrierlaw08_lease.OK Go.Proofs.Tryz.prog := ⟨ok_terrierlaw08_lease, by kernel_rfl⟩
def D_lines_Table : FD := ⟨[(0, .leaf (.sl .str)), (1, .fn 29 [] [])], [], [(0, .leaf (.own 16 (.pair (.int .u32) (.pair sMc (.int .i64))))), (1, .leaf .err)], [(16, .rows (.pair (.int .u32) (.pair sMc (.int .i64))))]⟩
def L_lines_Table : List (Nat × StD × Nat × StD) := [(3, ⟨[(1, .fn 29 [] []), (6, .leaf (.own 16 (.pair (.int .u32) (.pair sMc (.int .i64))))), (11, .leaf (.sl .str)), (12, .leaf (.int .i64)), (13, .leaf (.int .i64))], [(16, .rows (.pair (.int .u32) (.pair sMc (.int .i64))))], 17, 42⟩, 0, ⟨[(6, .leaf (.own 16 (.pair (.int .u32) (.pair sMc (.int .i64)))))], [(16, .rows (.pair (.int .u32) (.pair sMc (.int .i64))))], 17, 42⟩)]
noncomputable def T_lines_Table : List Ent := [E_errors_Is, E_lines_Lease]
theorem ok_lines_Table : FnX Go.Proofs.Tryz.prog 36 D_lines_Table (fun x => lines_Table x.1) :=
  FnX.of (coL_ok (es := T_lines_Table) (OKs.mem ⟨E_errors_Is_ok, E_lines_Lease_ok, trivial⟩)) mix (mkLs_ok (l := L_lines_Table) (by kernel_rfl)) (by kernel_rfl) Go.Proofs.Tryz.func36 rfl (by decide) (by decide) (fun x => by kernel_rfl)
noncomputable def E_lines_Table : Ent := ⟨36, D_lines_Table, fun x => lines_Table x.1, (TErr.nil, ([], ())), true⟩
theorem E_lines_Table_ok : E_lines_Table.OK Go.Proofs.Tryz.prog := ⟨ok_lines_Table, by kernel_rfl⟩
def D_lines_Table_v1 : FD := ⟨[(0, .leaf (.sl .str)), (1, .fn 26 [] [])], [], [(0, .leaf (.own 16 (.pair (.int .u32) (.pair sMc (.int .i64))))), (1, .leaf .err)], [(16, .rows (.pair (.int .u32) (.pair sMc (.int .i64))))]⟩
def L_lines_Table_v1 : List (Nat × StD × Nat × StD) := [(3, ⟨[(1, .fn 26 [] []), (6, .leaf (.own 16 (.pair (.int .u32) (.pair sMc (.int .i64))))), (11, .leaf (.sl .str)), (12, .leaf (.int .i64)), (13, .leaf (.int .i64))], [(16, .rows (.pair (.int .u32) (.pair sMc (.int .i64))))], 17, 42⟩, 0, ⟨[(6, .leaf (.own 16 (.pair (.int .u32) (.pair sMc (.int .i64)))))], [(16, .rows (.pair (.int .u32) (.pair sMc (.int .i64))))], 17, 42⟩)]
noncomputable def T_lines_Table_v1 : List Ent := [E_errors_Is, E_lines_Neighbour]
theorem ok_lines_Table_v1 : FnX Go.Proofs.Tryz.prog 36 D_lines_Table_v1 (fun x => lines_Table_v1 x.1) :=
  FnX.of (coL_ok (es := T_lines_Table_v1) (OKs.mem ⟨E_errors_Is_ok, E_lines_Neighbour_ok, trivial⟩)) mix (mkLs_ok (l := L_lines_Table_v1) (by kernel_rfl)) (by kernel_rfl) Go.Proofs.Tryz.func36 rfl (by decide) (by decide) (fun x => by kernel_rfl)
noncomputable def E_lines_Table_v1 : Ent := ⟨36, D_lines_Table_v1, fun x => lines_Table_v1 x.1, (TErr.nil, ([], ())), true⟩
theorem E_lines_Table_v1_ok : E_lines_Table_v1.OK Go.Proofs.Tryz.prog := ⟨ok_lines_Table_v1, by kernel_rfl⟩
def D_terrierlaw08_LinesTable : FD := ⟨[(0, .leaf (.sl (.pair (.int .u32) (.pair sMc (.pair (.int .u8) (.pair (.int .i64) (.pair (.int .u8) .str))))))), (1, .leaf .bool)], [], [(0, .leaf .bool)], []⟩
def L_terrierlaw08_LinesTable : List (Nat × StD × Nat × StD) := [(7, ⟨[(1, .leaf .bool), (5, .leaf (.own 16 .str)), (6, .leaf (.own 17 (.pair (.int .u32) (.pair sMc (.int .i64))))), (7, .leaf (.int .i64)), (8, .leaf (.int .i64)), (27, .leaf (.sl (.pair (.int .u32) (.pair sMc (.pair (.int .u8) (.pair (.int .i64) (.pair (.int .u8) .str))))))), (28, .leaf (.int .i64)), (29, .leaf (.int .i64))], [(16, .rows .str), (17, .rows (.pair (.int .u32) (.pair sMc (.int .i64))))], 18, 142⟩, 0, ⟨[(1, .leaf .bool), (5, .leaf (.own 16 .str)), (6, .leaf (.own 17 (.pair (.int .u32) (.pair sMc (.int .i64))))), (7, .leaf (.int .i64)), (8, .leaf (.int .i64))], [(16, .rows .str), (17, .rows (.pair (.int .u32) (.pair sMc (.int .i64))))], 18, 142⟩), (30, ⟨[(6, .leaf (.own 16 (.pair (.int .u32) (.pair sMc (.int .i64))))), (16, .leaf (.own 17 (.pair (.int .u32) (.pair sMc (.int .i64))))), (128, .leaf (.int .i64)), (129, .leaf (.int .i64))], [(16, .rows (.pair (.int .u32) (.pair sMc (.int .i64)))), (17, .rows (.pair (.int .u32) (.pair sMc (.int .i64))))], 18, 142⟩, 2, ⟨[], [], 16, 142⟩)]
noncomputable def T_terrierlaw08_LinesTable : List Ent := [E_lines_Table_v1, E_terrierlaw08_told, E_lines_Place, E_lines_Table, E_terrierlaw08_lease, E_terrierlaw08_neighbour, E_terrierlaw08_Words_four, E_terrierlaw08_awake]
theorem ok_terrierlaw08_LinesTable : FnX Go.Proofs.Tryz.prog 11 D_terrierlaw08_LinesTable (fun x => terrierlaw08_LinesTable x.1 x.2.1) :=
  FnX.of (coL_ok (es := T_terrierlaw08_LinesTable) (OKs.mem ⟨E_lines_Table_v1_ok, E_terrierlaw08_told_ok, E_lines_Place_ok, E_lines_Table_ok, E_terrierlaw08_lease_ok, E_terrierlaw08_neighbour_ok, E_terrierlaw08_Words_four_ok, E_terrierlaw08_awake_ok, trivial⟩)) mix (mkLs_ok (l := L_terrierlaw08_LinesTable) (by kernel_rfl)) (by kernel_rfl) Go.Proofs.Tryz.func11 rfl (by decide) (by decide) (fun x => by kernel_rfl)
end Go.Tr
