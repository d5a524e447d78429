/- Contracts of Go's library at this dump, off the shelf, and its package variables: printed by a program of this session's. Conditions: none. -/
import Derived.Test.YtfibdndnfaihdaaDoorVB
import Derived.Shelf.Lay
import Derived.Shelf.Strings.Split
import Derived.Shelf.Strings.Cut
import Derived.Shelf.LaysM
import Derived.Shelf.Strconv.Itoa3
import Derived.Shelf.Strings.OnBuilder
import Derived.Test.YtfibdndnfaihdaaDoorProg
namespace Go.Proofs
open Go.Shelf
set_option maxRecDepth 100000
shelf_lay Lays.n146 Nm 146 at Tryd as Tryd.lays146
shelf_lay Lays.n145 Nm 145 at Tryd as Tryd.lays145
shelf_lay LaysM.n171 Nm 171 at Tryd as Tryd.laysM171
shelf_lay Lays.n156 Nm 156 at Tryd as Tryd.lays156
theorem Tryd.Builder_Extra_156 : Builder.Extra Tryd.prog Tryd.lays156_ren where
  sizeBuilder := by kernel_rfl
  liesBuilder := by kernel_rfl
  t5 := Tryd.underlying5
  a5 := Tryd.isAgg5
  z5 := Tryd.sizeOf5
  v5 := Tryd.zeroValue5
  infoByte := by kernel_rfl
  cellsByte := by kernel_rfl
  sizeByte := by kernel_rfl
  neB5 := by decide
shelf_lay LaysM.n219 Nm 219 at Tryd as Tryd.laysM219
open Go.RowKit Go.Lib in
theorem Tryd.strings_Split (s sep : ByteArray) (m : Int) (w : World) (hs : s.size < 4294967281) (hm : w.cell? ⟨0, 0, none⟩ = some (.int .i64 m)) (h1 : 1 ≤ sep.size) :
    Calls Tryd.prog 28 #[.string s, .string sep] w fun e w' =>
      e = .returned (.slice (some ⟨w.heap.size, 0, none⟩) (Lib.countB s sep + 1) (Lib.countB s sep + 1)) ∧ w' = w.alloc (.cells ((Lib.splitB sep 0 (Lib.countB s sep) s).map Value.string).toArray 9) := Any.strings_Split Tryd.lays146 (by kernel_rfl) s sep m w hs hm h1
open Go.RowKit Go.Lib in
theorem Tryd.strings_Cut (s sep : ByteArray) (m : Int) (w : World) (hs : s.size < 4294967281) (hm : w.cell? ⟨0, 0, none⟩ = some (.int .i64 m)) :
    Calls Tryd.prog 33 #[.string s, .string sep] w fun e w' => e = .returned (.tuple #[.string ⟨(Lib.cut s.data.toList sep.data.toList).1.toArray⟩, .string ⟨(Lib.cut s.data.toList sep.data.toList).2.1.toArray⟩, .bool (Lib.cut s.data.toList sep.data.toList).2.2]) ∧ ∃ n, w' = w.drewN n := Any.strings_Cut Tryd.lays145 s sep m w hs hm
open Go.RowKit Go.Sort Go.Lib in
theorem Tryd.strconv_Itoa (n : Int) (h0 : -9223372036854775808 ≤ n) (h1 : n ≤ 9223372036854775807) (w : World) (htab : Lib.TabIs Tryd.prog w "internal/strconv.uint64pow10" .u64 Lib.pow10Tab) :
    Calls Tryd.prog 30 #[.int .i64 n] w fun e w' => e = .returned (.string ⟨(Lib.itoa n).toArray⟩) ∧ ∃ k os, w' = grow (w.drewN k) os := Any.strconv_Itoa Tryd.laysM171 n h0 h1 w htab
open Go.RowKit in
theorem Tryd.strings_Join_none (a : Option Addr) (c : Nat) (sep : ByteArray) (w : World) :
    Calls Tryd.prog 31 #[.slice a 0 c, .string sep] w fun e w' => e = .returned (.string ⟨#[]⟩) ∧ w' = w := Any.strings_Join_none Tryd.lays156 Tryd.Builder_Extra_156 a c sep w
open Go.RowKit in
theorem Tryd.strings_Join (bk o c : Nat) (xs : List ByteArray) (sep : ByteArray) (w : World) (hcells : ∀ (j : Nat) x, xs[j]? = some x → w.cell? ⟨bk, o + j, none⟩ = some (.string x)) (hbk : bk < w.heap.size) (hN : xs.length ≤ 140737488355328) (hcap : xs.length ≤ c) (hlen : (Lib.join (xs.map (·.data.toList)) sep.data.toList).length ≤ 140737488355328) :
    Calls Tryd.prog 31 #[.slice (some ⟨bk, o, none⟩) xs.length c, .string sep] w fun e w' => e = .returned (.string ⟨(Lib.join (xs.map (·.data.toList)) sep.data.toList).toArray⟩) ∧ Below w.heap.size w w' := Any.strings_Join Tryd.lays156 Tryd.Builder_Extra_156 bk o c xs sep w hcells hbk hN hcap hlen
theorem Tryd.max_laid (w : World) (h : w.ShapedOpen Tryd.prog) : ∃ m, w.cell? ⟨0, 0, none⟩ = some (.int .i64 m) := Tryd.laysM219.s1_3 w h
end Go.Proofs
namespace Go.Tr
open Go
set_option maxRecDepth 100000
instance : Tabs Go.Proofs.Tryd.prog := tabsA Go.Proofs.Tryd.prog 0
theorem max_laid (w : World) (h : w.ShapedOpen Go.Proofs.Tryd.prog) : ∃ m, w.cell? ⟨0, 0, none⟩ = some (.int .i64 m) := Go.Proofs.Tryd.max_laid w h
theorem x_strings_Split : FnX Go.Proofs.Tryd.prog 28 D_strings_Split (fun x => strings_Split x.1 x.2.1) :=
  X_Split ⟨_, Go.Proofs.Tryd.func28, by decide, rfl⟩ fun s sep hs h1 w hG => by obtain ⟨m, hm⟩ := tabsA_max hG; exact Go.Proofs.Tryd.strings_Split s sep m w hs hm h1
theorem x_strings_Cut : FnX Go.Proofs.Tryd.prog 33 D_strings_Cut (fun x => strings_Cut x.1 x.2.1) :=
  X_Cut ⟨_, Go.Proofs.Tryd.func33, by decide, rfl⟩ fun s sep hs w hG => by obtain ⟨m, hm⟩ := tabsA_max hG; exact (Go.Proofs.Tryd.strings_Cut s sep m w hs hm).mono fun e w' hq => by obtain ⟨h, n, rfl⟩ := hq; exact ⟨h, rfl, rfl, rfl, Nat.le_refl _, fun _ _ => rfl⟩
theorem x_strconv_Itoa : FnX Go.Proofs.Tryd.prog 30 D_strconv_Itoa (fun x => strconv_Itoa x.1) :=
  X_Itoa ⟨_, Go.Proofs.Tryd.func30, by decide, rfl⟩ fun n h0 h1 w hG => (Go.Proofs.Tryd.strconv_Itoa n h0 h1 w (tabsA_tab hG)).mono fun e w' hq => by obtain ⟨h, k, os, rfl⟩ := hq; exact ⟨h, below_grown' w k os⟩
theorem x_strings_Join : FnX Go.Proofs.Tryd.prog 31 D_strings_Join (fun x => strings_Join x.1 x.2.1) :=
  X_Join ⟨_, Go.Proofs.Tryd.func31, by decide, rfl⟩ Go.Proofs.Tryd.strings_Join_none Go.Proofs.Tryd.strings_Join
end Go.Tr
