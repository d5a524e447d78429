/- What the listed package variables give, and a world that fits them: printed by a program of ours. Conditions: none. -/
import Derived.Test.YtfaaeeabiikhbaaDoorSlX
import Derived.Test.YtfaaeeabiikhbaaDoorBF
import Derived.Lib.LaidIn
import Derived.Lib.LaidSlice
import Derived.Lib.LaidU8
import Derived.LaidHandle
import Derived.KernelRfl
import Derived.Test.YtfaaeeabiikhbaaDoorRows
namespace Go.Tr
open Go Go.Proofs Go.Proofs.YtfaaeeabiikhbaaDoor Go.Lib
set_option maxRecDepth 1000000
set_option linter.unusedVariables false
set_option maxHeartbeats 0
def lA : List (String × DataW Unit) := [("math/bits.deBruijn32tab", Rows.laid_math_bits_deBruijn32tab), ("math/bits.deBruijn64tab", Rows.laid_math_bits_deBruijn64tab), ("internal/strconv.uint64pow10", Rows.laid_internal_strconv_uint64pow10), ("unicode/utf8.acceptRanges", Rows.laid_unicode_utf8_acceptRanges), ("strconv.isGraphic", Rows.laid_strconv_isGraphic), ("strconv.isNotPrint16", Rows.laid_strconv_isNotPrint16), ("strconv.isNotPrint32", Rows.laid_strconv_isNotPrint32), ("strconv.isPrint16", Rows.laid_strconv_isPrint16), ("strconv.isPrint32", Rows.laid_strconv_isPrint32), ("unicode/utf8.first", Rows.laid_unicode_utf8_first)]
def lL : List (String × DataW Unit) := [("math/bits.deBruijn32tab", Rows.laid_math_bits_deBruijn32tab), ("math/bits.deBruijn64tab", Rows.laid_math_bits_deBruijn64tab), ("internal/strconv.uint64pow10", Rows.laid_internal_strconv_uint64pow10), ("unicode/utf8.acceptRanges", Rows.laid_unicode_utf8_acceptRanges), ("strconv.isGraphic", Rows.laid_strconv_isGraphic), ("strconv.isNotPrint16", Rows.laid_strconv_isNotPrint16), ("strconv.isNotPrint32", Rows.laid_strconv_isNotPrint32), ("strconv.isPrint16", Rows.laid_strconv_isPrint16), ("strconv.isPrint32", Rows.laid_strconv_isPrint32), ("unicode/utf8.first", Rows.laid_unicode_utf8_first)]
theorem lL_some : (lL.filter fun x => x.2.handleName?.isSome) = [] := by kernel_rfl
theorem lL_none : (lL.filter fun x => x.2.handleName?.isNone) = lA := by kernel_rfl
theorem laidMetH_parts {P : Program} {laid : List (String × DataW Unit)} {W : World} {L1 L2 : List (String × DataW Unit)} (h1 : (laid.filter fun x => x.2.handleName?.isNone) = L1) (h2 : (laid.filter fun x => x.2.handleName?.isSome) = L2) (h : laidMetH P laid W) :
    (L2 = [] ∧ laidMet P laid W) ∨ (laidMet P L1 W ∧ handlesMet P L2 W) := by
  unfold laidMetH at h
  rw [h1, h2] at h
  cases L2 with
  | nil => exact .inl ⟨rfl, h⟩
  | cons a l => exact .inr h
theorem tabs_of {W : World} (h : laidMetH Go.Proofs.Tryd.prog lL W) (hs : W.ShapedOpen Go.Proofs.Tryd.prog) : Tabs.G Go.Proofs.Tryd.prog W (fun b => b < W.heap.size) := by
  have hA : laidMet _ lA W := (laidMetH_parts lL_none lL_some h).elim (fun h => h.2) (fun h => h.1)
  have t1 : TabIs Go.Proofs.Tryd.prog W "internal/strconv.uint64pow10" .u64 pow10Tab := by
    obtain ⟨ps, hv, _⟩ := hA
    exact tab_of_vars (g := 0) (by kernel_rfl) (by kernel_rfl) Tryd.underlying115 Tryd.underlying96 (by kernel_rfl) (by kernel_rfl) hv (List.mem_of_getElem? (i := 2) (show lA[2]? = some ("internal/strconv.uint64pow10", tabData .u64 pow10Tab) by kernel_rfl))
  obtain ⟨m, hm⟩ := max_laid W hs
  have hU : Utf8Tabs 2 3 W := utf8Tabs_of_reads (ρ := Tryd.lays177_ren) { Tryd.lays177 with } ⟨by kernel_rfl, by kernel_rfl, by kernel_rfl, by kernel_rfl, by kernel_rfl, by kernel_rfl, by kernel_rfl⟩
    (laidMet.reads hA (List.mem_of_getElem? (i := 9) (show lA[9]? = some ("unicode/utf8.first", firstData) by kernel_rfl))) (laidMet.reads hA (List.mem_of_getElem? (i := 3) (show lA[3]? = some ("unicode/utf8.acceptRanges", acceptData) by kernel_rfl)))
  have hT : PrintTabsAt 6 7 8 9 goPrintTabs W := printTabs_of_reads (ρ := Tryd.lays177_ren) { Tryd.lays177 with } ⟨by kernel_rfl, by kernel_rfl, by kernel_rfl, by kernel_rfl, by kernel_rfl, by kernel_rfl, by kernel_rfl, by kernel_rfl, by kernel_rfl, by kernel_rfl⟩
    (laidMet.reads hA (List.mem_of_getElem? (i := 7) (show lA[7]? = some ("strconv.isPrint16", sliceData .u16 goPrintTabs.p16) by kernel_rfl))) (laidMet.reads hA (List.mem_of_getElem? (i := 5) (show lA[5]? = some ("strconv.isNotPrint16", sliceData .u16 goPrintTabs.n16) by kernel_rfl)))
    (laidMet.reads hA (List.mem_of_getElem? (i := 8) (show lA[8]? = some ("strconv.isPrint32", sliceData .u32 goPrintTabs.p32) by kernel_rfl))) (laidMet.reads hA (List.mem_of_getElem? (i := 6) (show lA[6]? = some ("strconv.isNotPrint32", sliceData .u16 goPrintTabs.n32) by kernel_rfl)))
  exact ((KG.tab t1).and (KG.cell hm ⟨m, rfl⟩)).and (((KG.print hT).and (KG.utf8 hU)) )
noncomputable def wit (os : Os) : World :=
  let N := (World.settled Go.Proofs.Tryd.prog os).heap.size
  let T := goPrintTabs
  let w0 := World.holding Go.Proofs.Tryd.prog os ⟨#[
    .cells (intCellsOf .u16 T.p16) (Tryd.lays177_ren.t 49), .cells (intCellsOf .u16 T.n16) (Tryd.lays177_ren.t 49), .cells (intCellsOf .u32 T.p32) (Tryd.lays177_ren.t 51), .cells (intCellsOf .u16 T.n32) (Tryd.lays177_ren.t 49), .cells (intCellsOf .u16 Go.Pinned.isGraphicZ) (Tryd.lays177_ren.t 49)], #[], []⟩
  let put (h : Array Obj) (g : Nat) (cs : Array Value) : Array Obj := h.modify g fun
    | .cells _ t frozen => .cells cs t frozen
    | o => o
  let h1 := (laidW Go.Proofs.Tryd.prog lA w0).heap
  let h2 := put h1 6 #[.slice (some ⟨N, 0, none⟩) T.p16.length T.p16.length]
  let h3 := put h2 7 #[.slice (some ⟨N + 1, 0, none⟩) T.n16.length T.n16.length]
  let h4 := put h3 8 #[.slice (some ⟨N + 2, 0, none⟩) T.p32.length T.p32.length]
  let h5 := put h4 9 #[.slice (some ⟨N + 3, 0, none⟩) T.n32.length T.n32.length]
  let h6 := put h5 10 #[.slice (some ⟨N + 4, 0, none⟩) Go.Pinned.isGraphicZ.length Go.Pinned.isGraphicZ.length]
  let h7 := put h6 2 (firstTab.map fun z => Value.int .u8 z).toArray
  let h8 := h7
  let h9 := h8
  { w0 with heap := h9 }
noncomputable abbrev N0 : Nat := (World.settled Go.Proofs.Tryd.prog default).heap.size
theorem piece0 (os : Os) (args : Array Value) : LaidIn Go.Proofs.Tryd.prog ((wit os).forCall (fun _ _ => 0) ⟨#[], args, []⟩).memory [("math/bits.deBruijn32tab", Rows.laid_math_bits_deBruijn32tab), ("math/bits.deBruijn64tab", Rows.laid_math_bits_deBruijn64tab), ("internal/strconv.uint64pow10", Rows.laid_internal_strconv_uint64pow10), ("unicode/utf8.acceptRanges", Rows.laid_unicode_utf8_acceptRanges)] [4, 5, 0, 3] :=
  LaidIn.of_run [4, 5, 0, 3] 8 (by kernel_rfl) (by kernel_rfl) (by kernel_rfl) (by kernel_rfl)
theorem piece1 (os : Os) (args : Array Value) : LaidIn Go.Proofs.Tryd.prog ((wit os).forCall (fun _ _ => 0) ⟨#[], args, []⟩).memory [("strconv.isGraphic", Rows.laid_strconv_isGraphic)] [10, N0 + 4] :=
  (show Rows.laid_strconv_isGraphic = sliceData .u16 Go.Pinned.isGraphicZ by kernel_rfl) ▸ laidIn_slice (t := Tryd.lays177_ren.t 234) (e := Tryd.lays177_ren.t 49) (te := Tryd.lays177_ren.t 49) Go.Pinned.isGraphicZ (N0 + 4) (by kernel_rfl) (by kernel_rfl) (by kernel_rfl) (by kernel_rfl) (by kernel_rfl) (by kernel_rfl) (by kernel_rfl) (by kernel_rfl) (of_decide_eq_true (by kernel_rfl)) (of_decide_eq_true (by kernel_rfl))
theorem piece2 (os : Os) (args : Array Value) : LaidIn Go.Proofs.Tryd.prog ((wit os).forCall (fun _ _ => 0) ⟨#[], args, []⟩).memory [("strconv.isNotPrint16", Rows.laid_strconv_isNotPrint16)] [7, N0 + 1] :=
  (show Rows.laid_strconv_isNotPrint16 = sliceData .u16 goPrintTabs.n16 by kernel_rfl) ▸ laidIn_slice (t := Tryd.lays177_ren.t 234) (e := Tryd.lays177_ren.t 49) (te := Tryd.lays177_ren.t 49) goPrintTabs.n16 (N0 + 1) (by kernel_rfl) (by kernel_rfl) (by kernel_rfl) (by kernel_rfl) (by kernel_rfl) (by kernel_rfl) (by kernel_rfl) (by kernel_rfl) (of_decide_eq_true (by kernel_rfl)) (of_decide_eq_true (by kernel_rfl))
theorem piece3 (os : Os) (args : Array Value) : LaidIn Go.Proofs.Tryd.prog ((wit os).forCall (fun _ _ => 0) ⟨#[], args, []⟩).memory [("strconv.isNotPrint32", Rows.laid_strconv_isNotPrint32)] [9, N0 + 3] :=
  (show Rows.laid_strconv_isNotPrint32 = sliceData .u16 goPrintTabs.n32 by kernel_rfl) ▸ laidIn_slice (t := Tryd.lays177_ren.t 234) (e := Tryd.lays177_ren.t 49) (te := Tryd.lays177_ren.t 49) goPrintTabs.n32 (N0 + 3) (by kernel_rfl) (by kernel_rfl) (by kernel_rfl) (by kernel_rfl) (by kernel_rfl) (by kernel_rfl) (by kernel_rfl) (by kernel_rfl) (of_decide_eq_true (by kernel_rfl)) (of_decide_eq_true (by kernel_rfl))
theorem piece4 (os : Os) (args : Array Value) : LaidIn Go.Proofs.Tryd.prog ((wit os).forCall (fun _ _ => 0) ⟨#[], args, []⟩).memory [("strconv.isPrint16", Rows.laid_strconv_isPrint16)] [6, N0] :=
  (show Rows.laid_strconv_isPrint16 = sliceData .u16 goPrintTabs.p16 by kernel_rfl) ▸ laidIn_slice (t := Tryd.lays177_ren.t 234) (e := Tryd.lays177_ren.t 49) (te := Tryd.lays177_ren.t 49) goPrintTabs.p16 (N0) (by kernel_rfl) (by kernel_rfl) (by kernel_rfl) (by kernel_rfl) (by kernel_rfl) (by kernel_rfl) (by kernel_rfl) (by kernel_rfl) (of_decide_eq_true (by kernel_rfl)) (of_decide_eq_true (by kernel_rfl))
theorem piece5 (os : Os) (args : Array Value) : LaidIn Go.Proofs.Tryd.prog ((wit os).forCall (fun _ _ => 0) ⟨#[], args, []⟩).memory [("strconv.isPrint32", Rows.laid_strconv_isPrint32)] [8, N0 + 2] :=
  (show Rows.laid_strconv_isPrint32 = sliceData .u32 goPrintTabs.p32 by kernel_rfl) ▸ laidIn_slice (t := Tryd.lays177_ren.t 236) (e := Tryd.lays177_ren.t 51) (te := Tryd.lays177_ren.t 51) goPrintTabs.p32 (N0 + 2) (by kernel_rfl) (by kernel_rfl) (by kernel_rfl) (by kernel_rfl) (by kernel_rfl) (by kernel_rfl) (by kernel_rfl) (by kernel_rfl) (of_decide_eq_true (by kernel_rfl)) (of_decide_eq_true (by kernel_rfl))
theorem piece6 (os : Os) (args : Array Value) : LaidIn Go.Proofs.Tryd.prog ((wit os).forCall (fun _ _ => 0) ⟨#[], args, []⟩).memory [("unicode/utf8.first", Rows.laid_unicode_utf8_first)] [2] :=
  LaidIn.of_run [2] 8 (by kernel_rfl) (by kernel_rfl) (by kernel_rfl) (by kernel_rfl)
theorem wit_met (os : Os) (args : Array Value) : laidMet Go.Proofs.Tryd.prog lA ((wit os).forCall (fun _ _ => 0) ⟨#[], args, []⟩).memory := (((((((piece0 os args).append (piece1 os args) (by kernel_rfl)).append (piece2 os args) (by kernel_rfl)).append (piece3 os args) (by kernel_rfl)).append (piece4 os args) (by kernel_rfl)).append (piece5 os args) (by kernel_rfl)).append (piece6 os args) (by kernel_rfl)).met
theorem wit_metH (os : Os) (args : Array Value) : laidMetH Go.Proofs.Tryd.prog lL ((wit os).forCall (fun _ _ => 0) ⟨#[], args, []⟩).memory := laidMet_to_H lL_some (wit_met os args)
end Go.Tr
