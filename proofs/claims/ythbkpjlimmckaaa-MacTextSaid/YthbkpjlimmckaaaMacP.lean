/- The Go functions come to these Lean functions: printed by a program of this session's. Conditions: none. -/
import Derived.Test.YthbkpjlimmckaaaUF
import Derived.Test.YthbkpjlimmckaaaMacD
import Derived.Test.YthbkpjlimmckaaaMacX
import Derived.KernelRfl
import Derived.Test.YthbkpjlimmckaaaProg
namespace Go.Tr
open Go
set_option linter.unusedVariables false
set_option maxRecDepth 100000
theorem mix : Go.Proofs.Try.prog.follows .mixedOrders = true := by rfl

def D_mac_digit : FD := ⟨[(0, .leaf (.int .u8))], [], [(0, .leaf (.int .u8)), (1, .leaf .bool)], []⟩
def L_mac_digit : List (Nat × StD × Nat × StD) := []
noncomputable def T_mac_digit : List Ent := []
theorem ok_mac_digit : FnX Go.Proofs.Try.prog 15 D_mac_digit (fun x => mac_digit x.1) :=
  FnX.of (coL_ok (es := T_mac_digit) (OKs.mem trivial)) mix (mkLs_ok (l := L_mac_digit) (by kernel_rfl)) (by kernel_rfl) Go.Proofs.Try.func15 rfl (by decide) (by decide) (fun x => by kernel_rfl)
noncomputable def E_mac_digit : Ent := ⟨15, D_mac_digit, fun x => mac_digit x.1, ((0 : Int), (false, ())), false⟩
theorem E_mac_digit_ok : E_mac_digit.OK Go.Proofs.Try.prog := ⟨ok_mac_digit, by kernel_rfl⟩

def D_mac_Parse : FD := ⟨[(0, .leaf .str)], [], [(0, .grp (.pair (.int .u8) (.pair (.int .u8) (.pair (.int .u8) (.pair (.int .u8) (.pair (.int .u8) (.int .u8))))))), (1, .leaf .bool)], []⟩
def L_mac_Parse : List (Nat × StD × Nat × StD) := [(5, ⟨[(0, .leaf .str), (2, .leaf (.ptr 16 0)), (4, .leaf (.ptr 17 0)), (24, .leaf (.int .i64))], [(16, .cells [(.int .u8), (.int .u8), (.int .u8), (.int .u8), (.int .u8), (.int .u8)]), (17, .cells [(.int .u8), (.int .u8), (.int .u8), (.int .u8), (.int .u8), (.int .u8)])], 18, 73⟩, 0, ⟨[(2, .leaf (.ptr 16 0)), (4, .leaf (.ptr 17 0))], [(16, .cells [(.int .u8), (.int .u8), (.int .u8), (.int .u8), (.int .u8), (.int .u8)]), (17, .cells [(.int .u8), (.int .u8), (.int .u8), (.int .u8), (.int .u8), (.int .u8)])], 18, 73⟩)]
noncomputable def T_mac_Parse : List Ent := [E_mac_digit]
theorem ok_mac_Parse : FnX Go.Proofs.Try.prog 10 D_mac_Parse (fun x => mac_Parse x.1) :=
  FnX.of (coL_ok (es := T_mac_Parse) (OKs.mem ⟨E_mac_digit_ok, trivial⟩)) mix (mkLs_ok (l := L_mac_Parse) (by kernel_rfl)) (by kernel_rfl) Go.Proofs.Try.func10 rfl (by decide) (by decide) (fun x => by kernel_rfl)
noncomputable def E_mac_Parse : Ent := ⟨10, D_mac_Parse, fun x => mac_Parse x.1, (((0 : Int), ((0 : Int), ((0 : Int), ((0 : Int), ((0 : Int), (0 : Int)))))), (false, ())), false⟩
theorem E_mac_Parse_ok : E_mac_Parse.OK Go.Proofs.Try.prog := ⟨ok_mac_Parse, by kernel_rfl⟩

def D_mac_Text : FD := ⟨[(0, .grp (.pair (.int .u8) (.pair (.int .u8) (.pair (.int .u8) (.pair (.int .u8) (.pair (.int .u8) (.int .u8)))))))], [], [(0, .leaf .str)], []⟩
def L_mac_Text : List (Nat × StD × Nat × StD) := [(3, ⟨[(3, .leaf (.own 16 (.int .u8))), (7, .grp (.pair (.int .u8) (.pair (.int .u8) (.pair (.int .u8) (.pair (.int .u8) (.pair (.int .u8) (.int .u8))))))), (8, .leaf (.int .i64))], [(16, .rows (.int .u8))], 17, 29⟩, 0, ⟨[(3, .leaf (.own 16 (.int .u8)))], [(16, .rows (.int .u8))], 17, 29⟩)]
noncomputable def T_mac_Text : List Ent := []
theorem ok_mac_Text : FnX Go.Proofs.Try.prog 11 D_mac_Text (fun x => mac_Text x.1) :=
  FnX.of (coL_ok (es := T_mac_Text) (OKs.mem trivial)) mix (mkLs_ok (l := L_mac_Text) (by kernel_rfl)) (by kernel_rfl) Go.Proofs.Try.func11 rfl (by decide) (by decide) (fun x => by kernel_rfl)
noncomputable def E_mac_Text : Ent := ⟨11, D_mac_Text, fun x => mac_Text x.1, ([], ()), false⟩
theorem E_mac_Text_ok : E_mac_Text.OK Go.Proofs.Try.prog := ⟨ok_mac_Text, by kernel_rfl⟩

def D_mac_Group : FD := ⟨[(0, .grp (.pair (.int .u8) (.pair (.int .u8) (.pair (.int .u8) (.pair (.int .u8) (.pair (.int .u8) (.int .u8)))))))], [], [(0, .leaf .bool)], []⟩
def L_mac_Group : List (Nat × StD × Nat × StD) := []
noncomputable def T_mac_Group : List Ent := []
theorem ok_mac_Group : FnX Go.Proofs.Try.prog 13 D_mac_Group (fun x => mac_Group x.1) :=
  FnX.of (coL_ok (es := T_mac_Group) (OKs.mem trivial)) mix (mkLs_ok (l := L_mac_Group) (by kernel_rfl)) (by kernel_rfl) Go.Proofs.Try.func13 rfl (by decide) (by decide) (fun x => by kernel_rfl)
noncomputable def E_mac_Group : Ent := ⟨13, D_mac_Group, fun x => mac_Group x.1, (false, ()), false⟩
theorem E_mac_Group_ok : E_mac_Group.OK Go.Proofs.Try.prog := ⟨ok_mac_Group, by kernel_rfl⟩

def D_mac_None : FD := ⟨[(0, .grp (.pair (.int .u8) (.pair (.int .u8) (.pair (.int .u8) (.pair (.int .u8) (.pair (.int .u8) (.int .u8)))))))], [], [(0, .leaf .bool)], []⟩
def L_mac_None : List (Nat × StD × Nat × StD) := []
noncomputable def T_mac_None : List Ent := []
theorem ok_mac_None : FnX Go.Proofs.Try.prog 12 D_mac_None (fun x => mac_None x.1) :=
  FnX.of (coL_ok (es := T_mac_None) (OKs.mem trivial)) mix (mkLs_ok (l := L_mac_None) (by kernel_rfl)) (by kernel_rfl) Go.Proofs.Try.func12 rfl (by decide) (by decide) (fun x => by kernel_rfl)
noncomputable def E_mac_None : Ent := ⟨12, D_mac_None, fun x => mac_None x.1, (false, ()), false⟩
theorem E_mac_None_ok : E_mac_None.OK Go.Proofs.Try.prog := ⟨ok_mac_None, by kernel_rfl⟩

def D_terrierlaw02_awake : FD := ⟨[], [], [(0, .leaf .bool)], []⟩
def L_terrierlaw02_awake : List (Nat × StD × Nat × StD) := []
noncomputable def T_terrierlaw02_awake : List Ent := [E_mac_None, E_mac_Group, E_mac_Text, E_mac_Parse]
theorem ok_terrierlaw02_awake : FnX Go.Proofs.Try.prog 8 D_terrierlaw02_awake (fun x => terrierlaw02_awake) :=
  FnX.of (coL_ok (es := T_terrierlaw02_awake) (OKs.mem ⟨E_mac_None_ok, E_mac_Group_ok, E_mac_Text_ok, E_mac_Parse_ok, trivial⟩)) mix (mkLs_ok (l := L_terrierlaw02_awake) (by kernel_rfl)) (by kernel_rfl) Go.Proofs.Try.func8 rfl (by decide) (by decide) (fun x => by kernel_rfl)
noncomputable def E_terrierlaw02_awake : Ent := ⟨8, D_terrierlaw02_awake, fun x => terrierlaw02_awake, (false, ()), false⟩
theorem E_terrierlaw02_awake_ok : E_terrierlaw02_awake.OK Go.Proofs.Try.prog := ⟨ok_terrierlaw02_awake, by kernel_rfl⟩

def D_terrierlaw02_MacKinds : FD := ⟨[(0, .grp (.pair (.int .u8) (.pair (.int .u8) (.pair (.int .u8) (.pair (.int .u8) (.pair (.int .u8) (.int .u8)))))))], [], [(0, .leaf .bool)], []⟩
def L_terrierlaw02_MacKinds : List (Nat × StD × Nat × StD) := [(5, ⟨[(1, .leaf (.ptr 16 0)), (3, .leaf .bool), (8, .grp (.pair (.int .u8) (.pair (.int .u8) (.pair (.int .u8) (.pair (.int .u8) (.pair (.int .u8) (.int .u8))))))), (9, .leaf (.int .i64))], [(16, .cells [(.int .u8), (.int .u8), (.int .u8), (.int .u8), (.int .u8), (.int .u8)])], 17, 31⟩, 0, ⟨[(1, .leaf (.ptr 16 0)), (3, .leaf .bool)], [(16, .cells [(.int .u8), (.int .u8), (.int .u8), (.int .u8), (.int .u8), (.int .u8)])], 17, 31⟩)]
noncomputable def T_terrierlaw02_MacKinds : List Ent := [E_mac_Group, E_mac_None, E_terrierlaw02_awake]
theorem ok_terrierlaw02_MacKinds : FnX Go.Proofs.Try.prog 5 D_terrierlaw02_MacKinds (fun x => terrierlaw02_MacKinds x.1) :=
  FnX.of (coL_ok (es := T_terrierlaw02_MacKinds) (OKs.mem ⟨E_mac_Group_ok, E_mac_None_ok, E_terrierlaw02_awake_ok, trivial⟩)) mix (mkLs_ok (l := L_terrierlaw02_MacKinds) (by kernel_rfl)) (by kernel_rfl) Go.Proofs.Try.func5 rfl (by decide) (by decide) (fun x => by kernel_rfl)
noncomputable def E_terrierlaw02_MacKinds : Ent := ⟨5, D_terrierlaw02_MacKinds, fun x => terrierlaw02_MacKinds x.1, (false, ()), false⟩
theorem E_terrierlaw02_MacKinds_ok : E_terrierlaw02_MacKinds.OK Go.Proofs.Try.prog := ⟨ok_terrierlaw02_MacKinds, by kernel_rfl⟩

def D_terrierlaw02_pair : FD := ⟨[(0, .leaf (.int .u8)), (1, .leaf .bool)], [], [(0, .leaf .str)], []⟩
def L_terrierlaw02_pair : List (Nat × StD × Nat × StD) := []
noncomputable def T_terrierlaw02_pair : List Ent := []
theorem ok_terrierlaw02_pair : FnX Go.Proofs.Try.prog 9 D_terrierlaw02_pair (fun x => terrierlaw02_pair x.1 x.2.1) :=
  FnX.of (coL_ok (es := T_terrierlaw02_pair) (OKs.mem trivial)) mix (mkLs_ok (l := L_terrierlaw02_pair) (by kernel_rfl)) (by kernel_rfl) Go.Proofs.Try.func9 rfl (by decide) (by decide) (fun x => by kernel_rfl)
noncomputable def E_terrierlaw02_pair : Ent := ⟨9, D_terrierlaw02_pair, fun x => terrierlaw02_pair x.1 x.2.1, ([], ()), false⟩
theorem E_terrierlaw02_pair_ok : E_terrierlaw02_pair.OK Go.Proofs.Try.prog := ⟨ok_terrierlaw02_pair, by kernel_rfl⟩

def D_terrierlaw02_MacText : FD := ⟨[(0, .grp (.pair (.int .u8) (.pair (.int .u8) (.pair (.int .u8) (.pair (.int .u8) (.pair (.int .u8) (.int .u8))))))), (1, .leaf (.int .u8)), (2, .leaf .bool)], [], [(0, .leaf .bool)], []⟩
def L_terrierlaw02_MacText : List (Nat × StD × Nat × StD) := [(7, ⟨[(1, .leaf (.int .u8)), (3, .leaf (.ptr 16 0)), (7, .leaf .str), (8, .leaf .str), (9, .leaf .str), (19, .grp (.pair (.int .u8) (.pair (.int .u8) (.pair (.int .u8) (.pair (.int .u8) (.pair (.int .u8) (.int .u8))))))), (20, .leaf (.int .i64))], [(16, .cells [(.int .u8), (.int .u8), (.int .u8), (.int .u8), (.int .u8), (.int .u8)])], 17, 75⟩, 0, ⟨[(3, .leaf (.ptr 16 0)), (7, .leaf .str), (8, .leaf .str)], [(16, .cells [(.int .u8), (.int .u8), (.int .u8), (.int .u8), (.int .u8), (.int .u8)])], 17, 75⟩)]
noncomputable def T_terrierlaw02_MacText : List Ent := [E_mac_Text, E_mac_Parse, E_terrierlaw02_pair, E_terrierlaw02_awake]
theorem ok_terrierlaw02_MacText : FnX Go.Proofs.Try.prog 3 D_terrierlaw02_MacText (fun x => terrierlaw02_MacText x.1 x.2.1 x.2.2.1) :=
  FnX.of (coL_ok (es := T_terrierlaw02_MacText) (OKs.mem ⟨E_mac_Text_ok, E_mac_Parse_ok, E_terrierlaw02_pair_ok, E_terrierlaw02_awake_ok, trivial⟩)) mix (mkLs_ok (l := L_terrierlaw02_MacText) (by kernel_rfl)) (by kernel_rfl) Go.Proofs.Try.func3 rfl (by decide) (by decide) (fun x => by kernel_rfl)
noncomputable def E_terrierlaw02_MacText : Ent := ⟨3, D_terrierlaw02_MacText, fun x => terrierlaw02_MacText x.1 x.2.1 x.2.2.1, (false, ()), false⟩
theorem E_terrierlaw02_MacText_ok : E_terrierlaw02_MacText.OK Go.Proofs.Try.prog := ⟨ok_terrierlaw02_MacText, by kernel_rfl⟩

def D_terrierlaw02_MacAny : FD := ⟨[(0, .leaf .str), (1, .grp (.pair (.int .u8) (.pair (.int .u8) (.pair (.int .u8) (.pair (.int .u8) (.pair (.int .u8) (.int .u8))))))), (2, .leaf (.int .u8)), (3, .leaf (.int .u8))], [], [(0, .leaf .bool)], []⟩
def L_terrierlaw02_MacAny : List (Nat × StD × Nat × StD) := [(8, ⟨[(36, .leaf (.own 16 .str)), (37, .leaf (.int .i64)), (38, .leaf (.int .i64))], [(16, .rows .str)], 17, 133⟩, 0, ⟨[], [], 16, 133⟩), (13, ⟨[(11, .leaf .str), (12, .leaf (.ptr 16 0)), (13, .leaf .bool), (14, .leaf .bool), (15, .leaf (.int .i64)), (36, .leaf (.own 17 .str)), (37, .leaf (.int .i64)), (38, .leaf (.int .i64))], [(16, .cells [(.int .u8), (.int .u8), (.int .u8), (.int .u8), (.int .u8), (.int .u8)]), (17, .rows .str)], 18, 133⟩, 2, ⟨[(12, .leaf (.ptr 16 0)), (13, .leaf .bool), (14, .leaf .bool), (36, .leaf (.own 17 .str)), (37, .leaf (.int .i64)), (38, .leaf (.int .i64))], [(16, .cells [(.int .u8), (.int .u8), (.int .u8), (.int .u8), (.int .u8), (.int .u8)]), (17, .rows .str)], 18, 133⟩)]
noncomputable def T_terrierlaw02_MacAny : List Ent := [E_mac_Parse, E_mac_Text, E_terrierlaw02_awake]
theorem ok_terrierlaw02_MacAny : FnX Go.Proofs.Try.prog 4 D_terrierlaw02_MacAny (fun x => terrierlaw02_MacAny x.1 x.2.1 x.2.2.1 x.2.2.2.1) :=
  FnX.of (coL_ok (es := T_terrierlaw02_MacAny) (OKs.mem ⟨E_mac_Parse_ok, E_mac_Text_ok, E_terrierlaw02_awake_ok, trivial⟩)) mix (mkLs_ok (l := L_terrierlaw02_MacAny) (by kernel_rfl)) (by kernel_rfl) Go.Proofs.Try.func4 rfl (by decide) (by decide) (fun x => by kernel_rfl)
noncomputable def E_terrierlaw02_MacAny : Ent := ⟨4, D_terrierlaw02_MacAny, fun x => terrierlaw02_MacAny x.1 x.2.1 x.2.2.1 x.2.2.2.1, (false, ()), false⟩
theorem E_terrierlaw02_MacAny_ok : E_terrierlaw02_MacAny.OK Go.Proofs.Try.prog := ⟨ok_terrierlaw02_MacAny, by kernel_rfl⟩

def D_terrierlaw02_MacRound : FD := ⟨[(0, .grp (.pair (.int .u8) (.pair (.int .u8) (.pair (.int .u8) (.pair (.int .u8) (.pair (.int .u8) (.int .u8))))))), (1, .grp (.pair (.int .u8) (.pair (.int .u8) (.pair (.int .u8) (.pair (.int .u8) (.pair (.int .u8) (.int .u8)))))))], [], [(0, .leaf .bool)], []⟩
def L_terrierlaw02_MacRound : List (Nat × StD × Nat × StD) := []
noncomputable def T_terrierlaw02_MacRound : List Ent := [E_mac_Text, E_terrierlaw02_awake]
theorem ok_terrierlaw02_MacRound : FnX Go.Proofs.Try.prog 6 D_terrierlaw02_MacRound (fun x => terrierlaw02_MacRound x.1 x.2.1) :=
  FnX.of (coL_ok (es := T_terrierlaw02_MacRound) (OKs.mem ⟨E_mac_Text_ok, E_terrierlaw02_awake_ok, trivial⟩)) mix (mkLs_ok (l := L_terrierlaw02_MacRound) (by kernel_rfl)) (by kernel_rfl) Go.Proofs.Try.func6 rfl (by decide) (by decide) (fun x => by kernel_rfl)
noncomputable def E_terrierlaw02_MacRound : Ent := ⟨6, D_terrierlaw02_MacRound, fun x => terrierlaw02_MacRound x.1 x.2.1, (false, ()), false⟩
theorem E_terrierlaw02_MacRound_ok : E_terrierlaw02_MacRound.OK Go.Proofs.Try.prog := ⟨ok_terrierlaw02_MacRound, by kernel_rfl⟩

def D_cmp_isNaN_byte_ : FD := ⟨[(0, .leaf (.int .u8))], [], [(0, .leaf .bool)], []⟩
def L_cmp_isNaN_byte_ : List (Nat × StD × Nat × StD) := []
noncomputable def T_cmp_isNaN_byte_ : List Ent := []
theorem ok_cmp_isNaN_byte_ : FnX Go.Proofs.Try.prog 17 D_cmp_isNaN_byte_ (fun x => cmp_isNaN_byte_ x.1) :=
  FnX.of (coL_ok (es := T_cmp_isNaN_byte_) (OKs.mem trivial)) mix (mkLs_ok (l := L_cmp_isNaN_byte_) (by kernel_rfl)) (by kernel_rfl) Go.Proofs.Try.func17 rfl (by decide) (by decide) (fun x => by kernel_rfl)
noncomputable def E_cmp_isNaN_byte_ : Ent := ⟨17, D_cmp_isNaN_byte_, fun x => cmp_isNaN_byte_ x.1, (false, ()), false⟩
theorem E_cmp_isNaN_byte__ok : E_cmp_isNaN_byte_.OK Go.Proofs.Try.prog := ⟨ok_cmp_isNaN_byte_, by kernel_rfl⟩

def D_cmp_Compare_byte_ : FD := ⟨[(0, .leaf (.int .u8)), (1, .leaf (.int .u8))], [], [(0, .leaf (.int .i64))], []⟩
def L_cmp_Compare_byte_ : List (Nat × StD × Nat × StD) := []
noncomputable def T_cmp_Compare_byte_ : List Ent := [E_cmp_isNaN_byte_]
theorem ok_cmp_Compare_byte_ : FnX Go.Proofs.Try.prog 16 D_cmp_Compare_byte_ (fun x => cmp_Compare_byte_ x.1 x.2.1) :=
  FnX.of (coL_ok (es := T_cmp_Compare_byte_) (OKs.mem ⟨E_cmp_isNaN_byte__ok, trivial⟩)) mix (mkLs_ok (l := L_cmp_Compare_byte_) (by kernel_rfl)) (by kernel_rfl) Go.Proofs.Try.func16 rfl (by decide) (by decide) (fun x => by kernel_rfl)
noncomputable def E_cmp_Compare_byte_ : Ent := ⟨16, D_cmp_Compare_byte_, fun x => cmp_Compare_byte_ x.1 x.2.1, ((0 : Int), ()), false⟩
theorem E_cmp_Compare_byte__ok : E_cmp_Compare_byte_.OK Go.Proofs.Try.prog := ⟨ok_cmp_Compare_byte_, by kernel_rfl⟩

def D_mac_Compare : FD := ⟨[(0, .grp (.pair (.int .u8) (.pair (.int .u8) (.pair (.int .u8) (.pair (.int .u8) (.pair (.int .u8) (.int .u8))))))), (1, .grp (.pair (.int .u8) (.pair (.int .u8) (.pair (.int .u8) (.pair (.int .u8) (.pair (.int .u8) (.int .u8)))))))], [], [(0, .leaf (.int .i64))], []⟩
def L_mac_Compare : List (Nat × StD × Nat × StD) := [(2, ⟨[(2, .leaf (.ptr 16 0)), (3, .leaf (.ptr 17 0)), (7, .leaf (.int .i64))], [(16, .cells [(.int .u8), (.int .u8), (.int .u8), (.int .u8), (.int .u8), (.int .u8)]), (17, .cells [(.int .u8), (.int .u8), (.int .u8), (.int .u8), (.int .u8), (.int .u8)])], 18, 21⟩, 0, ⟨[], [], 16, 21⟩)]
noncomputable def T_mac_Compare : List Ent := [E_cmp_Compare_byte_]
theorem ok_mac_Compare : FnX Go.Proofs.Try.prog 14 D_mac_Compare (fun x => mac_Compare x.1 x.2.1) :=
  FnX.of (coL_ok (es := T_mac_Compare) (OKs.mem ⟨E_cmp_Compare_byte__ok, trivial⟩)) mix (mkLs_ok (l := L_mac_Compare) (by kernel_rfl)) (by kernel_rfl) Go.Proofs.Try.func14 rfl (by decide) (by decide) (fun x => by kernel_rfl)
noncomputable def E_mac_Compare : Ent := ⟨14, D_mac_Compare, fun x => mac_Compare x.1 x.2.1, ((0 : Int), ()), false⟩
theorem E_mac_Compare_ok : E_mac_Compare.OK Go.Proofs.Try.prog := ⟨ok_mac_Compare, by kernel_rfl⟩

def D_terrierlaw02_MacCompare : FD := ⟨[(0, .grp (.pair (.int .u8) (.pair (.int .u8) (.pair (.int .u8) (.pair (.int .u8) (.pair (.int .u8) (.int .u8))))))), (1, .grp (.pair (.int .u8) (.pair (.int .u8) (.pair (.int .u8) (.pair (.int .u8) (.pair (.int .u8) (.int .u8))))))), (2, .grp (.pair (.int .u8) (.pair (.int .u8) (.pair (.int .u8) (.pair (.int .u8) (.pair (.int .u8) (.int .u8))))))), (3, .leaf (.int .u8))], [], [(0, .leaf .bool)], []⟩
def L_terrierlaw02_MacCompare : List (Nat × StD × Nat × StD) := [(6, ⟨[(4, .leaf (.ptr 16 0)), (5, .leaf (.ptr 17 0)), (6, .leaf (.ptr 18 0)), (9, .leaf (.int .i64)), (10, .leaf (.ptr 19 0)), (11, .leaf (.int .i64))], [(16, .cells [(.int .u8), (.int .u8), (.int .u8), (.int .u8), (.int .u8), (.int .u8)]), (17, .cells [(.int .u8), (.int .u8), (.int .u8), (.int .u8), (.int .u8), (.int .u8)]), (18, .cells [(.int .u8), (.int .u8), (.int .u8), (.int .u8), (.int .u8), (.int .u8)]), (19, .cells [(.int .u8), (.int .u8), (.int .u8), (.int .u8), (.int .u8), (.int .u8)])], 20, 85⟩, 0, ⟨[(4, .leaf (.ptr 16 0)), (5, .leaf (.ptr 17 0)), (6, .leaf (.ptr 18 0)), (9, .leaf (.int .i64)), (10, .leaf (.ptr 19 0))], [(16, .cells [(.int .u8), (.int .u8), (.int .u8), (.int .u8), (.int .u8), (.int .u8)]), (17, .cells [(.int .u8), (.int .u8), (.int .u8), (.int .u8), (.int .u8), (.int .u8)]), (18, .cells [(.int .u8), (.int .u8), (.int .u8), (.int .u8), (.int .u8), (.int .u8)]), (19, .cells [(.int .u8), (.int .u8), (.int .u8), (.int .u8), (.int .u8), (.int .u8)])], 20, 85⟩)]
noncomputable def T_terrierlaw02_MacCompare : List Ent := [E_mac_Compare, E_terrierlaw02_awake]
theorem ok_terrierlaw02_MacCompare : FnX Go.Proofs.Try.prog 7 D_terrierlaw02_MacCompare (fun x => terrierlaw02_MacCompare x.1 x.2.1 x.2.2.1 x.2.2.2.1) :=
  FnX.of (coL_ok (es := T_terrierlaw02_MacCompare) (OKs.mem ⟨E_mac_Compare_ok, E_terrierlaw02_awake_ok, trivial⟩)) mix (mkLs_ok (l := L_terrierlaw02_MacCompare) (by kernel_rfl)) (by kernel_rfl) Go.Proofs.Try.func7 rfl (by decide) (by decide) (fun x => by kernel_rfl)
noncomputable def E_terrierlaw02_MacCompare : Ent := ⟨7, D_terrierlaw02_MacCompare, fun x => terrierlaw02_MacCompare x.1 x.2.1 x.2.2.1 x.2.2.2.1, (false, ()), false⟩
theorem E_terrierlaw02_MacCompare_ok : E_terrierlaw02_MacCompare.OK Go.Proofs.Try.prog := ⟨ok_terrierlaw02_MacCompare, by kernel_rfl⟩

end Go.Tr
