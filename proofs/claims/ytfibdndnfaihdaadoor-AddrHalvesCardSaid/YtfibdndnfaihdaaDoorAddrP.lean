/- The Go functions come to these Lean functions: printed by a program of this session's. Conditions: none. -/
import Derived.Test.YtfibdndnfaihdaaDoorUF
import Derived.Test.YtfibdndnfaihdaaDoorAddrD
import Derived.Test.YtfibdndnfaihdaaDoorAddrX
import Derived.KernelRfl
import Derived.Test.YtfibdndnfaihdaaDoorProg
namespace Go.Tr
open Go
set_option linter.unusedVariables false
set_option maxRecDepth 100000
theorem mix : Go.Proofs.Tryd.prog.follows .mixedOrders = true := by rfl

noncomputable def E_strings_Split : Ent := ⟨28, D_strings_Split, fun x => strings_Split x.1 x.2.1, ([], ()), true⟩
theorem E_strings_Split_ok : E_strings_Split.OK Go.Proofs.Tryd.prog := ⟨x_strings_Split, by kernel_rfl⟩

def D_addr_number : FD := ⟨[(0, .leaf .str), (1, .leaf (.int .i64))], [], [(0, .leaf (.int .i64)), (1, .leaf .bool)], []⟩
def L_addr_number : List (Nat × StD × Nat × StD) := [(5, ⟨[(0, .leaf .str), (1, .leaf (.int .i64)), (6, .leaf (.int .i64)), (26, .leaf (.int .i64)), (27, .leaf (.int .i64))], [], 16, 53⟩, 0, ⟨[(1, .leaf (.int .i64)), (6, .leaf (.int .i64))], [], 16, 53⟩)]
noncomputable def T_addr_number : List Ent := []
theorem ok_addr_number : FnX Go.Proofs.Tryd.prog 29 D_addr_number (fun x => addr_number x.1 x.2.1) :=
  FnX.of (coL_ok (es := T_addr_number) (OKs.mem trivial)) mix (mkLs_ok (l := L_addr_number) (by kernel_rfl)) (by kernel_rfl) Go.Proofs.Tryd.func29 rfl (by decide) (by decide) (fun x => by kernel_rfl)
noncomputable def E_addr_number : Ent := ⟨29, D_addr_number, fun x => addr_number x.1 x.2.1, ((0 : Int), (false, ())), false⟩
theorem E_addr_number_ok : E_addr_number.OK Go.Proofs.Tryd.prog := ⟨ok_addr_number, by kernel_rfl⟩

def D_addr_Parse : FD := ⟨[(0, .leaf .str)], [], [(0, .leaf (.int .u32)), (1, .leaf .bool)], []⟩
def L_addr_Parse : List (Nat × StD × Nat × StD) := [(6, ⟨[(5, .leaf (.int .u32)), (15, .leaf (.sl .str)), (16, .leaf (.int .i64)), (17, .leaf (.int .i64))], [], 16, 35⟩, 0, ⟨[(5, .leaf (.int .u32))], [], 16, 35⟩)]
noncomputable def T_addr_Parse : List Ent := [E_addr_number, E_strings_Split]
theorem ok_addr_Parse : FnX Go.Proofs.Tryd.prog 11 D_addr_Parse (fun x => addr_Parse x.1) :=
  FnX.of (coL_ok (es := T_addr_Parse) (OKs.mem ⟨E_addr_number_ok, E_strings_Split_ok, trivial⟩)) mix (mkLs_ok (l := L_addr_Parse) (by kernel_rfl)) (by kernel_rfl) Go.Proofs.Tryd.func11 rfl (by decide) (by decide) (fun x => by kernel_rfl)
noncomputable def E_addr_Parse : Ent := ⟨11, D_addr_Parse, fun x => addr_Parse x.1, ((0 : Int), (false, ())), false⟩
theorem E_addr_Parse_ok : E_addr_Parse.OK Go.Proofs.Tryd.prog := ⟨ok_addr_Parse, by kernel_rfl⟩

noncomputable def E_strings_Cut : Ent := ⟨33, D_strings_Cut, fun x => strings_Cut x.1 x.2.1, ([], ([], (false, ()))), false⟩
theorem E_strings_Cut_ok : E_strings_Cut.OK Go.Proofs.Tryd.prog := ⟨x_strings_Cut, by kernel_rfl⟩

def D_addr_mask : FD := ⟨[(0, .leaf (.int .i64))], [], [(0, .leaf (.int .u32))], []⟩
def L_addr_mask : List (Nat × StD × Nat × StD) := []
noncomputable def T_addr_mask : List Ent := []
theorem ok_addr_mask : FnX Go.Proofs.Tryd.prog 32 D_addr_mask (fun x => addr_mask x.1) :=
  FnX.of (coL_ok (es := T_addr_mask) (OKs.mem trivial)) mix (mkLs_ok (l := L_addr_mask) (by kernel_rfl)) (by kernel_rfl) Go.Proofs.Tryd.func32 rfl (by decide) (by decide) (fun x => by kernel_rfl)
noncomputable def E_addr_mask : Ent := ⟨32, D_addr_mask, fun x => addr_mask x.1, ((0 : Int), ()), false⟩
theorem E_addr_mask_ok : E_addr_mask.OK Go.Proofs.Tryd.prog := ⟨ok_addr_mask, by kernel_rfl⟩

def D_addr_Right : FD := ⟨[(0, .grp (.pair (.int .u32) (.int .i64)))], [], [(0, .leaf .bool)], []⟩
def L_addr_Right : List (Nat × StD × Nat × StD) := []
noncomputable def T_addr_Right : List Ent := [E_addr_mask]
theorem ok_addr_Right : FnX Go.Proofs.Tryd.prog 22 D_addr_Right (fun x => addr_Right x.1) :=
  FnX.of (coL_ok (es := T_addr_Right) (OKs.mem ⟨E_addr_mask_ok, trivial⟩)) mix (mkLs_ok (l := L_addr_Right) (by kernel_rfl)) (by kernel_rfl) Go.Proofs.Tryd.func22 rfl (by decide) (by decide) (fun x => by kernel_rfl)
noncomputable def E_addr_Right : Ent := ⟨22, D_addr_Right, fun x => addr_Right x.1, (false, ()), false⟩
theorem E_addr_Right_ok : E_addr_Right.OK Go.Proofs.Tryd.prog := ⟨ok_addr_Right, by kernel_rfl⟩

def D_addr_ParseBlock : FD := ⟨[(0, .leaf .str)], [], [(0, .grp (.pair (.int .u32) (.int .i64))), (1, .leaf .bool)], []⟩
def L_addr_ParseBlock : List (Nat × StD × Nat × StD) := []
noncomputable def T_addr_ParseBlock : List Ent := [E_addr_Right, E_addr_number, E_addr_Parse, E_strings_Cut]
theorem ok_addr_ParseBlock : FnX Go.Proofs.Tryd.prog 24 D_addr_ParseBlock (fun x => addr_ParseBlock x.1) :=
  FnX.of (coL_ok (es := T_addr_ParseBlock) (OKs.mem ⟨E_addr_Right_ok, E_addr_number_ok, E_addr_Parse_ok, E_strings_Cut_ok, trivial⟩)) mix (mkLs_ok (l := L_addr_ParseBlock) (by kernel_rfl)) (by kernel_rfl) Go.Proofs.Tryd.func24 rfl (by decide) (by decide) (fun x => by kernel_rfl)
noncomputable def E_addr_ParseBlock : Ent := ⟨24, D_addr_ParseBlock, fun x => addr_ParseBlock x.1, (((0 : Int), (0 : Int)), (false, ())), false⟩
theorem E_addr_ParseBlock_ok : E_addr_ParseBlock.OK Go.Proofs.Tryd.prog := ⟨ok_addr_ParseBlock, by kernel_rfl⟩

def D_addr_Halves : FD := ⟨[(0, .grp (.pair (.int .u32) (.int .i64)))], [], [(0, .grp (.pair (.int .u32) (.int .i64))), (1, .grp (.pair (.int .u32) (.int .i64))), (2, .leaf .bool)], []⟩
def L_addr_Halves : List (Nat × StD × Nat × StD) := []
noncomputable def T_addr_Halves : List Ent := [E_addr_Right]
theorem ok_addr_Halves : FnX Go.Proofs.Tryd.prog 26 D_addr_Halves (fun x => addr_Halves x.1) :=
  FnX.of (coL_ok (es := T_addr_Halves) (OKs.mem ⟨E_addr_Right_ok, trivial⟩)) mix (mkLs_ok (l := L_addr_Halves) (by kernel_rfl)) (by kernel_rfl) Go.Proofs.Tryd.func26 rfl (by decide) (by decide) (fun x => by kernel_rfl)
noncomputable def E_addr_Halves : Ent := ⟨26, D_addr_Halves, fun x => addr_Halves x.1, (((0 : Int), (0 : Int)), (((0 : Int), (0 : Int)), (false, ()))), false⟩
theorem E_addr_Halves_ok : E_addr_Halves.OK Go.Proofs.Tryd.prog := ⟨ok_addr_Halves, by kernel_rfl⟩

noncomputable def E_strconv_Itoa : Ent := ⟨30, D_strconv_Itoa, fun x => strconv_Itoa x.1, ([], ()), false⟩
theorem E_strconv_Itoa_ok : E_strconv_Itoa.OK Go.Proofs.Tryd.prog := ⟨x_strconv_Itoa, by kernel_rfl⟩

noncomputable def E_strings_Join : Ent := ⟨31, D_strings_Join, fun x => strings_Join x.1 x.2.1, ([], ()), false⟩
theorem E_strings_Join_ok : E_strings_Join.OK Go.Proofs.Tryd.prog := ⟨x_strings_Join, by kernel_rfl⟩

def D_addr_Text : FD := ⟨[(0, .leaf (.int .u32))], [], [(0, .leaf .str)], []⟩
def L_addr_Text : List (Nat × StD × Nat × StD) := [(3, ⟨[(0, .leaf (.int .u32)), (3, .leaf (.own 16 .str)), (4, .leaf (.int .i64))], [(16, .rows .str)], 17, 21⟩, 0, ⟨[(3, .leaf (.own 16 .str))], [(16, .rows .str)], 17, 21⟩)]
noncomputable def T_addr_Text : List Ent := [E_strings_Join, E_strconv_Itoa]
theorem ok_addr_Text : FnX Go.Proofs.Tryd.prog 12 D_addr_Text (fun x => addr_Text x.1) :=
  FnX.of (coL_ok (es := T_addr_Text) (OKs.mem ⟨E_strings_Join_ok, E_strconv_Itoa_ok, trivial⟩)) mix (mkLs_ok (l := L_addr_Text) (by kernel_rfl)) (by kernel_rfl) Go.Proofs.Tryd.func12 rfl (by decide) (by decide) (fun x => by kernel_rfl)
noncomputable def E_addr_Text : Ent := ⟨12, D_addr_Text, fun x => addr_Text x.1, ([], ()), false⟩
theorem E_addr_Text_ok : E_addr_Text.OK Go.Proofs.Tryd.prog := ⟨ok_addr_Text, by kernel_rfl⟩

def D_addr_Size : FD := ⟨[(0, .grp (.pair (.int .u32) (.int .i64)))], [], [(0, .leaf (.int .i64))], []⟩
def L_addr_Size : List (Nat × StD × Nat × StD) := []
noncomputable def T_addr_Size : List Ent := [E_addr_Right]
theorem ok_addr_Size : FnX Go.Proofs.Tryd.prog 20 D_addr_Size (fun x => addr_Size x.1) :=
  FnX.of (coL_ok (es := T_addr_Size) (OKs.mem ⟨E_addr_Right_ok, trivial⟩)) mix (mkLs_ok (l := L_addr_Size) (by kernel_rfl)) (by kernel_rfl) Go.Proofs.Tryd.func20 rfl (by decide) (by decide) (fun x => by kernel_rfl)
noncomputable def E_addr_Size : Ent := ⟨20, D_addr_Size, fun x => addr_Size x.1, ((0 : Int), ()), false⟩
theorem E_addr_Size_ok : E_addr_Size.OK Go.Proofs.Tryd.prog := ⟨ok_addr_Size, by kernel_rfl⟩

def D_terrierlaw01_awake : FD := ⟨[], [], [(0, .leaf .bool)], []⟩
def L_terrierlaw01_awake : List (Nat × StD × Nat × StD) := []
noncomputable def T_terrierlaw01_awake : List Ent := [E_addr_Size, E_addr_Text, E_addr_Halves, E_addr_ParseBlock, E_addr_Parse]
theorem ok_terrierlaw01_awake : FnX Go.Proofs.Tryd.prog 10 D_terrierlaw01_awake (fun x => terrierlaw01_awake) :=
  FnX.of (coL_ok (es := T_terrierlaw01_awake) (OKs.mem ⟨E_addr_Size_ok, E_addr_Text_ok, E_addr_Halves_ok, E_addr_ParseBlock_ok, E_addr_Parse_ok, trivial⟩)) mix (mkLs_ok (l := L_terrierlaw01_awake) (by kernel_rfl)) (by kernel_rfl) Go.Proofs.Tryd.func10 rfl (by decide) (by decide) (fun x => by kernel_rfl)
noncomputable def E_terrierlaw01_awake : Ent := ⟨10, D_terrierlaw01_awake, fun x => terrierlaw01_awake, (false, ()), false⟩
theorem E_terrierlaw01_awake_ok : E_terrierlaw01_awake.OK Go.Proofs.Tryd.prog := ⟨ok_terrierlaw01_awake, by kernel_rfl⟩

def D_terrierlaw01_digits : FD := ⟨[(0, .leaf (.int .i64))], [], [(0, .leaf .str)], []⟩
def L_terrierlaw01_digits : List (Nat × StD × Nat × StD) := []
theorem ok_terrierlaw01_digits_s (self : Int → Option ((List UInt8) × Unit)) (hs : FnX Go.Proofs.Tryd.prog 14 D_terrierlaw01_digits (fun x => self x.1)) : FnX Go.Proofs.Tryd.prog 14 D_terrierlaw01_digits (fun x => terrierlaw01_digits_s self x.1) :=
  FnX.of (coL_ok (es := [⟨14, D_terrierlaw01_digits, fun x => self x.1, ([], ()), false⟩]) (OKs.mem ⟨⟨hs, by kernel_rfl⟩, trivial⟩)) mix (mkLs_ok (l := L_terrierlaw01_digits) (by kernel_rfl)) (by kernel_rfl) Go.Proofs.Tryd.func14 rfl (by decide) (by decide) (fun x => by kernel_rfl)
theorem ok_terrierlaw01_digits_k : ∀ k, FnX Go.Proofs.Tryd.prog 14 D_terrierlaw01_digits (fun x => terrierlaw01_digits_k k x.1)
  | 0 => FnX.none ⟨_, Go.Proofs.Tryd.func14, by decide, rfl⟩
  | k + 1 => ok_terrierlaw01_digits_s _ (ok_terrierlaw01_digits_k k)
theorem ok_terrierlaw01_digits : FnX Go.Proofs.Tryd.prog 14 D_terrierlaw01_digits (fun x => terrierlaw01_digits x.1) := ok_terrierlaw01_digits_k _
noncomputable def E_terrierlaw01_digits : Ent := ⟨14, D_terrierlaw01_digits, fun x => terrierlaw01_digits x.1, ([], ()), false⟩
theorem E_terrierlaw01_digits_ok : E_terrierlaw01_digits.OK Go.Proofs.Tryd.prog := ⟨ok_terrierlaw01_digits, by kernel_rfl⟩

def D_terrierlaw01_AddrNumbers : FD := ⟨[(0, .leaf (.int .u8)), (1, .leaf (.int .u8)), (2, .leaf (.int .u16)), (3, .leaf .bool)], [], [(0, .leaf .bool)], []⟩
def L_terrierlaw01_AddrNumbers : List (Nat × StD × Nat × StD) := []
noncomputable def T_terrierlaw01_AddrNumbers : List Ent := [E_addr_Parse, E_terrierlaw01_digits, E_terrierlaw01_awake]
theorem ok_terrierlaw01_AddrNumbers : FnX Go.Proofs.Tryd.prog 4 D_terrierlaw01_AddrNumbers (fun x => terrierlaw01_AddrNumbers x.1 x.2.1 x.2.2.1 x.2.2.2.1) :=
  FnX.of (coL_ok (es := T_terrierlaw01_AddrNumbers) (OKs.mem ⟨E_addr_Parse_ok, E_terrierlaw01_digits_ok, E_terrierlaw01_awake_ok, trivial⟩)) mix (mkLs_ok (l := L_terrierlaw01_AddrNumbers) (by kernel_rfl)) (by kernel_rfl) Go.Proofs.Tryd.func4 rfl (by decide) (by decide) (fun x => by kernel_rfl)
noncomputable def E_terrierlaw01_AddrNumbers : Ent := ⟨4, D_terrierlaw01_AddrNumbers, fun x => terrierlaw01_AddrNumbers x.1 x.2.1 x.2.2.1 x.2.2.2.1, (false, ()), false⟩
theorem E_terrierlaw01_AddrNumbers_ok : E_terrierlaw01_AddrNumbers.OK Go.Proofs.Tryd.prog := ⟨ok_terrierlaw01_AddrNumbers, by kernel_rfl⟩

def D_terrierlaw01_text : FD := ⟨[(0, .leaf (.int .u32))], [], [(0, .leaf .str)], []⟩
def L_terrierlaw01_text : List (Nat × StD × Nat × StD) := []
noncomputable def T_terrierlaw01_text : List Ent := [E_terrierlaw01_digits]
theorem ok_terrierlaw01_text : FnX Go.Proofs.Tryd.prog 13 D_terrierlaw01_text (fun x => terrierlaw01_text x.1) :=
  FnX.of (coL_ok (es := T_terrierlaw01_text) (OKs.mem ⟨E_terrierlaw01_digits_ok, trivial⟩)) mix (mkLs_ok (l := L_terrierlaw01_text) (by kernel_rfl)) (by kernel_rfl) Go.Proofs.Tryd.func13 rfl (by decide) (by decide) (fun x => by kernel_rfl)
noncomputable def E_terrierlaw01_text : Ent := ⟨13, D_terrierlaw01_text, fun x => terrierlaw01_text x.1, ([], ()), false⟩
theorem E_terrierlaw01_text_ok : E_terrierlaw01_text.OK Go.Proofs.Tryd.prog := ⟨ok_terrierlaw01_text, by kernel_rfl⟩

def D_terrierlaw01_AddrText : FD := ⟨[(0, .leaf (.int .u32)), (1, .leaf .str)], [], [(0, .leaf .bool)], []⟩
def L_terrierlaw01_AddrText : List (Nat × StD × Nat × StD) := [(8, ⟨[(44, .leaf (.own 16 .str)), (45, .leaf (.int .i64)), (46, .leaf (.int .i64))], [(16, .rows .str)], 17, 71⟩, 0, ⟨[], [], 16, 71⟩)]
noncomputable def T_terrierlaw01_AddrText : List Ent := [E_terrierlaw01_text, E_addr_Parse, E_addr_Text, E_terrierlaw01_awake]
theorem ok_terrierlaw01_AddrText : FnX Go.Proofs.Tryd.prog 3 D_terrierlaw01_AddrText (fun x => terrierlaw01_AddrText x.1 x.2.1) :=
  FnX.of (coL_ok (es := T_terrierlaw01_AddrText) (OKs.mem ⟨E_terrierlaw01_text_ok, E_addr_Parse_ok, E_addr_Text_ok, E_terrierlaw01_awake_ok, trivial⟩)) mix (mkLs_ok (l := L_terrierlaw01_AddrText) (by kernel_rfl)) (by kernel_rfl) Go.Proofs.Tryd.func3 rfl (by decide) (by decide) (fun x => by kernel_rfl)
noncomputable def E_terrierlaw01_AddrText : Ent := ⟨3, D_terrierlaw01_AddrText, fun x => terrierlaw01_AddrText x.1 x.2.1, (false, ()), false⟩
theorem E_terrierlaw01_AddrText_ok : E_terrierlaw01_AddrText.OK Go.Proofs.Tryd.prog := ⟨ok_terrierlaw01_AddrText, by kernel_rfl⟩

def D_terrierlaw01_Block : FD := ⟨[(0, .leaf (.int .u32)), (1, .leaf (.int .u8))], [], [(0, .grp (.pair (.int .u32) (.int .i64)))], []⟩
def L_terrierlaw01_Block : List (Nat × StD × Nat × StD) := []
noncomputable def T_terrierlaw01_Block : List Ent := []
theorem ok_terrierlaw01_Block : FnX Go.Proofs.Tryd.prog 15 D_terrierlaw01_Block (fun x => terrierlaw01_Block x.1 x.2.1) :=
  FnX.of (coL_ok (es := T_terrierlaw01_Block) (OKs.mem trivial)) mix (mkLs_ok (l := L_terrierlaw01_Block) (by kernel_rfl)) (by kernel_rfl) Go.Proofs.Tryd.func15 rfl (by decide) (by decide) (fun x => by kernel_rfl)
noncomputable def E_terrierlaw01_Block : Ent := ⟨15, D_terrierlaw01_Block, fun x => terrierlaw01_Block x.1 x.2.1, (((0 : Int), (0 : Int)), ()), false⟩
theorem E_terrierlaw01_Block_ok : E_terrierlaw01_Block.OK Go.Proofs.Tryd.prog := ⟨ok_terrierlaw01_Block, by kernel_rfl⟩

def D_addr_Has : FD := ⟨[(0, .grp (.pair (.int .u32) (.int .i64))), (1, .leaf (.int .u32))], [], [(0, .leaf .bool)], []⟩
def L_addr_Has : List (Nat × StD × Nat × StD) := []
noncomputable def T_addr_Has : List Ent := [E_addr_mask, E_addr_Right]
theorem ok_addr_Has : FnX Go.Proofs.Tryd.prog 19 D_addr_Has (fun x => addr_Has x.1 x.2.1) :=
  FnX.of (coL_ok (es := T_addr_Has) (OKs.mem ⟨E_addr_mask_ok, E_addr_Right_ok, trivial⟩)) mix (mkLs_ok (l := L_addr_Has) (by kernel_rfl)) (by kernel_rfl) Go.Proofs.Tryd.func19 rfl (by decide) (by decide) (fun x => by kernel_rfl)
noncomputable def E_addr_Has : Ent := ⟨19, D_addr_Has, fun x => addr_Has x.1 x.2.1, (false, ()), false⟩
theorem E_addr_Has_ok : E_addr_Has.OK Go.Proofs.Tryd.prog := ⟨ok_addr_Has, by kernel_rfl⟩

def D_addr_Within : FD := ⟨[(0, .grp (.pair (.int .u32) (.int .i64))), (1, .grp (.pair (.int .u32) (.int .i64)))], [], [(0, .leaf .bool)], []⟩
def L_addr_Within : List (Nat × StD × Nat × StD) := []
noncomputable def T_addr_Within : List Ent := [E_addr_Has, E_addr_Right]
theorem ok_addr_Within : FnX Go.Proofs.Tryd.prog 16 D_addr_Within (fun x => addr_Within x.1 x.2.1) :=
  FnX.of (coL_ok (es := T_addr_Within) (OKs.mem ⟨E_addr_Has_ok, E_addr_Right_ok, trivial⟩)) mix (mkLs_ok (l := L_addr_Within) (by kernel_rfl)) (by kernel_rfl) Go.Proofs.Tryd.func16 rfl (by decide) (by decide) (fun x => by kernel_rfl)
noncomputable def E_addr_Within : Ent := ⟨16, D_addr_Within, fun x => addr_Within x.1 x.2.1, (false, ()), false⟩
theorem E_addr_Within_ok : E_addr_Within.OK Go.Proofs.Tryd.prog := ⟨ok_addr_Within, by kernel_rfl⟩

def D_addr_Overlap : FD := ⟨[(0, .grp (.pair (.int .u32) (.int .i64))), (1, .grp (.pair (.int .u32) (.int .i64)))], [], [(0, .leaf .bool)], []⟩
def L_addr_Overlap : List (Nat × StD × Nat × StD) := []
noncomputable def T_addr_Overlap : List Ent := [E_addr_Within]
theorem ok_addr_Overlap : FnX Go.Proofs.Tryd.prog 17 D_addr_Overlap (fun x => addr_Overlap x.1 x.2.1) :=
  FnX.of (coL_ok (es := T_addr_Overlap) (OKs.mem ⟨E_addr_Within_ok, trivial⟩)) mix (mkLs_ok (l := L_addr_Overlap) (by kernel_rfl)) (by kernel_rfl) Go.Proofs.Tryd.func17 rfl (by decide) (by decide) (fun x => by kernel_rfl)
noncomputable def E_addr_Overlap : Ent := ⟨17, D_addr_Overlap, fun x => addr_Overlap x.1 x.2.1, (false, ()), false⟩
theorem E_addr_Overlap_ok : E_addr_Overlap.OK Go.Proofs.Tryd.prog := ⟨ok_addr_Overlap, by kernel_rfl⟩

def D_terrierlaw01_AddrWithin : FD := ⟨[(0, .leaf (.int .u32)), (1, .leaf (.int .u8)), (2, .leaf (.int .u32)), (3, .leaf (.int .u8))], [], [(0, .leaf .bool)], []⟩
def L_terrierlaw01_AddrWithin : List (Nat × StD × Nat × StD) := []
noncomputable def T_terrierlaw01_AddrWithin : List Ent := [E_addr_Overlap, E_addr_Within, E_terrierlaw01_Block, E_terrierlaw01_awake]
theorem ok_terrierlaw01_AddrWithin : FnX Go.Proofs.Tryd.prog 5 D_terrierlaw01_AddrWithin (fun x => terrierlaw01_AddrWithin x.1 x.2.1 x.2.2.1 x.2.2.2.1) :=
  FnX.of (coL_ok (es := T_terrierlaw01_AddrWithin) (OKs.mem ⟨E_addr_Overlap_ok, E_addr_Within_ok, E_terrierlaw01_Block_ok, E_terrierlaw01_awake_ok, trivial⟩)) mix (mkLs_ok (l := L_terrierlaw01_AddrWithin) (by kernel_rfl)) (by kernel_rfl) Go.Proofs.Tryd.func5 rfl (by decide) (by decide) (fun x => by kernel_rfl)
noncomputable def E_terrierlaw01_AddrWithin : Ent := ⟨5, D_terrierlaw01_AddrWithin, fun x => terrierlaw01_AddrWithin x.1 x.2.1 x.2.2.1 x.2.2.2.1, (false, ()), false⟩
theorem E_terrierlaw01_AddrWithin_ok : E_terrierlaw01_AddrWithin.OK Go.Proofs.Tryd.prog := ⟨ok_terrierlaw01_AddrWithin, by kernel_rfl⟩

def D_addr_At : FD := ⟨[(0, .grp (.pair (.int .u32) (.int .i64))), (1, .leaf (.int .i64))], [], [(0, .leaf (.int .u32)), (1, .leaf .bool)], []⟩
def L_addr_At : List (Nat × StD × Nat × StD) := []
noncomputable def T_addr_At : List Ent := [E_addr_Size]
theorem ok_addr_At : FnX Go.Proofs.Tryd.prog 18 D_addr_At (fun x => addr_At x.1 x.2.1) :=
  FnX.of (coL_ok (es := T_addr_At) (OKs.mem ⟨E_addr_Size_ok, trivial⟩)) mix (mkLs_ok (l := L_addr_At) (by kernel_rfl)) (by kernel_rfl) Go.Proofs.Tryd.func18 rfl (by decide) (by decide) (fun x => by kernel_rfl)
noncomputable def E_addr_At : Ent := ⟨18, D_addr_At, fun x => addr_At x.1 x.2.1, ((0 : Int), (false, ())), false⟩
theorem E_addr_At_ok : E_addr_At.OK Go.Proofs.Tryd.prog := ⟨ok_addr_At, by kernel_rfl⟩

def D_terrierlaw01_AddrHas : FD := ⟨[(0, .leaf (.int .u32)), (1, .leaf (.int .u8)), (2, .leaf (.int .u32)), (3, .leaf .bool)], [], [(0, .leaf .bool)], []⟩
def L_terrierlaw01_AddrHas : List (Nat × StD × Nat × StD) := []
noncomputable def T_terrierlaw01_AddrHas : List Ent := [E_addr_Size, E_addr_Has, E_addr_At, E_terrierlaw01_Block, E_terrierlaw01_awake]
theorem ok_terrierlaw01_AddrHas : FnX Go.Proofs.Tryd.prog 6 D_terrierlaw01_AddrHas (fun x => terrierlaw01_AddrHas x.1 x.2.1 x.2.2.1 x.2.2.2.1) :=
  FnX.of (coL_ok (es := T_terrierlaw01_AddrHas) (OKs.mem ⟨E_addr_Size_ok, E_addr_Has_ok, E_addr_At_ok, E_terrierlaw01_Block_ok, E_terrierlaw01_awake_ok, trivial⟩)) mix (mkLs_ok (l := L_terrierlaw01_AddrHas) (by kernel_rfl)) (by kernel_rfl) Go.Proofs.Tryd.func6 rfl (by decide) (by decide) (fun x => by kernel_rfl)
noncomputable def E_terrierlaw01_AddrHas : Ent := ⟨6, D_terrierlaw01_AddrHas, fun x => terrierlaw01_AddrHas x.1 x.2.1 x.2.2.1 x.2.2.2.1, (false, ()), false⟩
theorem E_terrierlaw01_AddrHas_ok : E_terrierlaw01_AddrHas.OK Go.Proofs.Tryd.prog := ⟨ok_terrierlaw01_AddrHas, by kernel_rfl⟩

def D_addr_Make : FD := ⟨[(0, .leaf (.int .u32)), (1, .leaf (.int .i64))], [], [(0, .grp (.pair (.int .u32) (.int .i64))), (1, .leaf .bool)], []⟩
def L_addr_Make : List (Nat × StD × Nat × StD) := []
noncomputable def T_addr_Make : List Ent := [E_addr_mask]
theorem ok_addr_Make : FnX Go.Proofs.Tryd.prog 21 D_addr_Make (fun x => addr_Make x.1 x.2.1) :=
  FnX.of (coL_ok (es := T_addr_Make) (OKs.mem ⟨E_addr_mask_ok, trivial⟩)) mix (mkLs_ok (l := L_addr_Make) (by kernel_rfl)) (by kernel_rfl) Go.Proofs.Tryd.func21 rfl (by decide) (by decide) (fun x => by kernel_rfl)
noncomputable def E_addr_Make : Ent := ⟨21, D_addr_Make, fun x => addr_Make x.1 x.2.1, (((0 : Int), (0 : Int)), (false, ())), false⟩
theorem E_addr_Make_ok : E_addr_Make.OK Go.Proofs.Tryd.prog := ⟨ok_addr_Make, by kernel_rfl⟩

def D_terrierlaw01_right : FD := ⟨[(0, .grp (.pair (.int .u32) (.int .i64)))], [], [(0, .leaf .bool)], []⟩
def L_terrierlaw01_right : List (Nat × StD × Nat × StD) := []
noncomputable def T_terrierlaw01_right : List Ent := []
theorem ok_terrierlaw01_right : FnX Go.Proofs.Tryd.prog 23 D_terrierlaw01_right (fun x => terrierlaw01_right x.1) :=
  FnX.of (coL_ok (es := T_terrierlaw01_right) (OKs.mem trivial)) mix (mkLs_ok (l := L_terrierlaw01_right) (by kernel_rfl)) (by kernel_rfl) Go.Proofs.Tryd.func23 rfl (by decide) (by decide) (fun x => by kernel_rfl)
noncomputable def E_terrierlaw01_right : Ent := ⟨23, D_terrierlaw01_right, fun x => terrierlaw01_right x.1, (false, ()), false⟩
theorem E_terrierlaw01_right_ok : E_terrierlaw01_right.OK Go.Proofs.Tryd.prog := ⟨ok_terrierlaw01_right, by kernel_rfl⟩

def D_addr_BlockText : FD := ⟨[(0, .grp (.pair (.int .u32) (.int .i64)))], [], [(0, .leaf .str)], []⟩
def L_addr_BlockText : List (Nat × StD × Nat × StD) := []
noncomputable def T_addr_BlockText : List Ent := [E_strconv_Itoa, E_addr_Text]
theorem ok_addr_BlockText : FnX Go.Proofs.Tryd.prog 25 D_addr_BlockText (fun x => addr_BlockText x.1) :=
  FnX.of (coL_ok (es := T_addr_BlockText) (OKs.mem ⟨E_strconv_Itoa_ok, E_addr_Text_ok, trivial⟩)) mix (mkLs_ok (l := L_addr_BlockText) (by kernel_rfl)) (by kernel_rfl) Go.Proofs.Tryd.func25 rfl (by decide) (by decide) (fun x => by kernel_rfl)
noncomputable def E_addr_BlockText : Ent := ⟨25, D_addr_BlockText, fun x => addr_BlockText x.1, ([], ()), false⟩
theorem E_addr_BlockText_ok : E_addr_BlockText.OK Go.Proofs.Tryd.prog := ⟨ok_addr_BlockText, by kernel_rfl⟩

def D_terrierlaw01_AddrBlock : FD := ⟨[(0, .leaf (.int .u32)), (1, .leaf (.int .i8)), (2, .grp (.pair (.int .u32) (.int .i64))), (3, .leaf .str)], [], [(0, .leaf .bool)], []⟩
def L_terrierlaw01_AddrBlock : List (Nat × StD × Nat × StD) := []
noncomputable def T_terrierlaw01_AddrBlock : List Ent := [E_addr_BlockText, E_addr_ParseBlock, E_terrierlaw01_text, E_addr_Has, E_terrierlaw01_right, E_addr_Right, E_addr_Make, E_terrierlaw01_awake]
theorem ok_terrierlaw01_AddrBlock : FnX Go.Proofs.Tryd.prog 7 D_terrierlaw01_AddrBlock (fun x => terrierlaw01_AddrBlock x.1 x.2.1 x.2.2.1 x.2.2.2.1) :=
  FnX.of (coL_ok (es := T_terrierlaw01_AddrBlock) (OKs.mem ⟨E_addr_BlockText_ok, E_addr_ParseBlock_ok, E_terrierlaw01_text_ok, E_addr_Has_ok, E_terrierlaw01_right_ok, E_addr_Right_ok, E_addr_Make_ok, E_terrierlaw01_awake_ok, trivial⟩)) mix (mkLs_ok (l := L_terrierlaw01_AddrBlock) (by kernel_rfl)) (by kernel_rfl) Go.Proofs.Tryd.func7 rfl (by decide) (by decide) (fun x => by kernel_rfl)
noncomputable def E_terrierlaw01_AddrBlock : Ent := ⟨7, D_terrierlaw01_AddrBlock, fun x => terrierlaw01_AddrBlock x.1 x.2.1 x.2.2.1 x.2.2.2.1, (false, ()), false⟩
theorem E_terrierlaw01_AddrBlock_ok : E_terrierlaw01_AddrBlock.OK Go.Proofs.Tryd.prog := ⟨ok_terrierlaw01_AddrBlock, by kernel_rfl⟩

def D_addr_Whole : FD := ⟨[(0, .grp (.pair (.int .u32) (.int .i64))), (1, .grp (.pair (.int .u32) (.int .i64)))], [], [(0, .grp (.pair (.int .u32) (.int .i64))), (1, .leaf .bool)], []⟩
def L_addr_Whole : List (Nat × StD × Nat × StD) := []
noncomputable def T_addr_Whole : List Ent := [E_addr_Halves, E_addr_Make, E_addr_Right]
theorem ok_addr_Whole : FnX Go.Proofs.Tryd.prog 27 D_addr_Whole (fun x => addr_Whole x.1 x.2.1) :=
  FnX.of (coL_ok (es := T_addr_Whole) (OKs.mem ⟨E_addr_Halves_ok, E_addr_Make_ok, E_addr_Right_ok, trivial⟩)) mix (mkLs_ok (l := L_addr_Whole) (by kernel_rfl)) (by kernel_rfl) Go.Proofs.Tryd.func27 rfl (by decide) (by decide) (fun x => by kernel_rfl)
noncomputable def E_addr_Whole : Ent := ⟨27, D_addr_Whole, fun x => addr_Whole x.1 x.2.1, (((0 : Int), (0 : Int)), (false, ())), false⟩
theorem E_addr_Whole_ok : E_addr_Whole.OK Go.Proofs.Tryd.prog := ⟨ok_addr_Whole, by kernel_rfl⟩

def D_terrierlaw01_AddrHalves : FD := ⟨[(0, .leaf (.int .u32)), (1, .leaf (.int .u8)), (2, .leaf (.int .u32)), (3, .leaf (.int .u8))], [], [(0, .leaf .bool)], []⟩
def L_terrierlaw01_AddrHalves : List (Nat × StD × Nat × StD) := []
noncomputable def T_terrierlaw01_AddrHalves : List Ent := [E_addr_Overlap, E_addr_Size, E_addr_Whole, E_addr_Halves, E_terrierlaw01_Block, E_terrierlaw01_awake]
theorem ok_terrierlaw01_AddrHalves : FnX Go.Proofs.Tryd.prog 8 D_terrierlaw01_AddrHalves (fun x => terrierlaw01_AddrHalves x.1 x.2.1 x.2.2.1 x.2.2.2.1) :=
  FnX.of (coL_ok (es := T_terrierlaw01_AddrHalves) (OKs.mem ⟨E_addr_Overlap_ok, E_addr_Size_ok, E_addr_Whole_ok, E_addr_Halves_ok, E_terrierlaw01_Block_ok, E_terrierlaw01_awake_ok, trivial⟩)) mix (mkLs_ok (l := L_terrierlaw01_AddrHalves) (by kernel_rfl)) (by kernel_rfl) Go.Proofs.Tryd.func8 rfl (by decide) (by decide) (fun x => by kernel_rfl)
noncomputable def E_terrierlaw01_AddrHalves : Ent := ⟨8, D_terrierlaw01_AddrHalves, fun x => terrierlaw01_AddrHalves x.1 x.2.1 x.2.2.1 x.2.2.2.1, (false, ()), false⟩
theorem E_terrierlaw01_AddrHalves_ok : E_terrierlaw01_AddrHalves.OK Go.Proofs.Tryd.prog := ⟨ok_terrierlaw01_AddrHalves, by kernel_rfl⟩

def D_terrierlaw01_AddrRaw : FD := ⟨[(0, .grp (.pair (.int .u32) (.int .i64))), (1, .grp (.pair (.int .u32) (.int .i64))), (2, .leaf (.int .u32)), (3, .leaf (.int .i64))], [], [(0, .leaf .bool)], []⟩
def L_terrierlaw01_AddrRaw : List (Nat × StD × Nat × StD) := []
noncomputable def T_terrierlaw01_AddrRaw : List Ent := [E_addr_Has, E_addr_Size, E_addr_At, E_addr_Whole, E_addr_Halves, E_addr_Overlap, E_addr_Within, E_terrierlaw01_right, E_terrierlaw01_awake]
theorem ok_terrierlaw01_AddrRaw : FnX Go.Proofs.Tryd.prog 9 D_terrierlaw01_AddrRaw (fun x => terrierlaw01_AddrRaw x.1 x.2.1 x.2.2.1 x.2.2.2.1) :=
  FnX.of (coL_ok (es := T_terrierlaw01_AddrRaw) (OKs.mem ⟨E_addr_Has_ok, E_addr_Size_ok, E_addr_At_ok, E_addr_Whole_ok, E_addr_Halves_ok, E_addr_Overlap_ok, E_addr_Within_ok, E_terrierlaw01_right_ok, E_terrierlaw01_awake_ok, trivial⟩)) mix (mkLs_ok (l := L_terrierlaw01_AddrRaw) (by kernel_rfl)) (by kernel_rfl) Go.Proofs.Tryd.func9 rfl (by decide) (by decide) (fun x => by kernel_rfl)
noncomputable def E_terrierlaw01_AddrRaw : Ent := ⟨9, D_terrierlaw01_AddrRaw, fun x => terrierlaw01_AddrRaw x.1 x.2.1 x.2.2.1 x.2.2.2.1, (false, ()), false⟩
theorem E_terrierlaw01_AddrRaw_ok : E_terrierlaw01_AddrRaw.OK Go.Proofs.Tryd.prog := ⟨ok_terrierlaw01_AddrRaw, by kernel_rfl⟩

end Go.Tr
