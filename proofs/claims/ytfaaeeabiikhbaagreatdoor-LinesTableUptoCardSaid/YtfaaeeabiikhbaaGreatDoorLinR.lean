/- What the listed package variables give, and a world that fits them: printed by a program of ours. Conditions: none. -/
import Derived.Test.YtfaaeeabiikhbaaGreatDoorLinX
import Derived.Test.YtfaaeeabiikhbaaGreatDoorBF
import Derived.Lib.LaidIn
import Derived.Lib.LaidSlice
import Derived.Lib.LaidU8
import Derived.LaidHandle
import Derived.KernelRfl
import Derived.Test.YtfaaeeabiikhbaaGreatDoorRows
namespace Go.Tr
open Go Go.Proofs Go.Proofs.YtfaaeeabiikhbaaGreatDoor Go.Lib
set_option maxRecDepth 1000000
set_option linter.unusedVariables false
set_option maxHeartbeats 0
def lA : List (String × DataW Unit) := [("math/bits.deBruijn32tab", Rows.laid_math_bits_deBruijn32tab), ("math/bits.deBruijn64tab", Rows.laid_math_bits_deBruijn64tab), ("internal/strconv.uint64pow10", Rows.laid_internal_strconv_uint64pow10), ("unicode/utf8.acceptRanges", Rows.laid_unicode_utf8_acceptRanges), ("strconv.ErrRange", Rows.laid_strconv_ErrRange), ("strconv.ErrSyntax", Rows.laid_strconv_ErrSyntax), ("strconv.isGraphic", Rows.laid_strconv_isGraphic), ("strconv.isNotPrint16", Rows.laid_strconv_isNotPrint16), ("strconv.isNotPrint32", Rows.laid_strconv_isNotPrint32), ("strconv.isPrint16", Rows.laid_strconv_isPrint16), ("strconv.isPrint32", Rows.laid_strconv_isPrint32), ("unicode/utf8.first", Rows.laid_unicode_utf8_first)]
def lL : List (String × DataW Unit) := [("math/bits.deBruijn32tab", Rows.laid_math_bits_deBruijn32tab), ("math/bits.deBruijn64tab", Rows.laid_math_bits_deBruijn64tab), ("internal/strconv.uint64pow10", Rows.laid_internal_strconv_uint64pow10), ("unicode/utf8.acceptRanges", Rows.laid_unicode_utf8_acceptRanges), ("errors.errorType", Rows.laid_errors_errorType), ("strconv.ErrRange", Rows.laid_strconv_ErrRange), ("strconv.ErrSyntax", Rows.laid_strconv_ErrSyntax), ("strconv.isGraphic", Rows.laid_strconv_isGraphic), ("strconv.isNotPrint16", Rows.laid_strconv_isNotPrint16), ("strconv.isNotPrint32", Rows.laid_strconv_isNotPrint32), ("strconv.isPrint16", Rows.laid_strconv_isPrint16), ("strconv.isPrint32", Rows.laid_strconv_isPrint32), ("unicode/utf8.first", Rows.laid_unicode_utf8_first)]
theorem lL_some : (lL.filter fun x => x.2.handleName?.isSome) = [("errors.errorType", Rows.laid_errors_errorType)] := by kernel_rfl
theorem lL_none : (lL.filter fun x => x.2.handleName?.isNone) = lA := by kernel_rfl
theorem laidMetH_parts {P : Program} {laid : List (String × DataW Unit)} {W : World} {L1 L2 : List (String × DataW Unit)} (h1 : (laid.filter fun x => x.2.handleName?.isNone) = L1) (h2 : (laid.filter fun x => x.2.handleName?.isSome) = L2) (h : laidMetH P laid W) :
    (L2 = [] ∧ laidMet P laid W) ∨ (laidMet P L1 W ∧ handlesMet P L2 W) := by
  unfold laidMetH at h
  rw [h1, h2] at h
  cases L2 with
  | nil => exact .inl ⟨rfl, h⟩
  | cons a l => exact .inr h
theorem var_cell0 {P : Program} {W : World} {name : String} {g : Nat} {v : Value} {cs : Array Value} (hg : P.globalNamed name = some g) (h : W.var? P name = some cs) (h0 : cs[0]? = some v) : W.cell? ⟨g, 0, none⟩ = some v := by
  rw [World.var?_cell hg h 0, h0]
theorem iface_of_reads {P : Program} {W : World} {name nm : String} {d : DataW Unit} {g : Nat} {t : TypeId} {ms : Array (String × TypeId)} (hg : P.globalNamed name = some g) (hy : (P.globals[g]?).map (·.type) = some t) (ht : P.underlying t = some (.interface ms))
    (h : VarReads P W name (.iface nm d)) : ∃ v, W.cell? ⟨g, 0, none⟩ = some v ∧ (v = .nilIface ∨ ∃ te pe, v = .iface te pe) := by
  obtain ⟨g', t', cs, fuel, p, hg', hty, hvar, hd⟩ := h
  obtain rfl := Option.some.inj (hg.symm.trans hg')
  obtain rfl := Option.some.inj (hy.symm.trans hty)
  cases fuel with
  | zero => simp [DataW.trod] at hd
  | succ fuel =>
    unfold DataW.trod at hd
    rw [ht] at hd
    split at hd
    all_goals first
      | (simp at hd; done)
      | (rename_i hcs; exact ⟨_, var_cell0 hg hvar (by rw [← Array.getElem?_toList, hcs]; rfl), .inr ⟨_, _, rfl⟩⟩)
      | (simp_all; done)
theorem errTy_of {W : World} (h : handlesMet Go.Proofs.Tryz.prog [("errors.errorType", Rows.laid_errors_errorType)] W) : errTy W := by
  obtain ⟨name, u, ty, e1, e2, e3, e4, e5⟩ := h _ (List.mem_singleton.2 rfl)
  have en : name = [101, 114, 114, 111, 114] := (Option.some.inj e1).symm
  subst en
  obtain rfl := Option.some.inj ((show (Go.Proofs.Tryz.prog.cutTypes.find? (·.1 == "internal/reflectlite.rtype")).map (·.2) = some 162 by kernel_rfl).symm.trans e2)
  have hz : Go.Proofs.Tryz.prog.types.size = 250 := by kernel_rfl
  have hm : ty ∈ (List.range 250).filter fun t => Go.Proofs.Tryz.prog.rowNamed t [101, 114, 114, 111, 114] := List.mem_filter.2 ⟨List.mem_range.2 (by rw [← hz]; exact e3), e4⟩
  have one : ((List.range 250).filter fun t => Go.Proofs.Tryz.prog.rowNamed t [101, 114, 114, 111, 114]) = [43] := by kernel_rfl
  rw [one] at hm
  obtain rfl := List.mem_singleton.1 hm
  have hh : typeHandle Go.Proofs.Tryz.prog 43 = .pointer (some ⟨14, 43, none⟩) := by kernel_rfl
  rw [hh] at e5
  exact var_cell0 (show Go.Proofs.Tryz.prog.globalNamed "errors.errorType" = some 0 by kernel_rfl) e5 rfl
theorem tabs_of {W : World} (h : laidMetH Go.Proofs.Tryz.prog lL W) (hs : W.ShapedOpen Go.Proofs.Tryz.prog) : Tabs.G Go.Proofs.Tryz.prog W (fun b => b < W.heap.size) := by
  have hp : laidMet _ lA W ∧ handlesMet _ _ W := (laidMetH_parts lL_none lL_some h).elim (fun h => absurd h.1 (by simp)) id
  have hA := hp.1
  have t1 : TabIs Go.Proofs.Tryz.prog W "internal/strconv.uint64pow10" .u64 pow10Tab := by
    obtain ⟨ps, hv, _⟩ := hA
    exact tab_of_vars (g := 3) (by kernel_rfl) (by kernel_rfl) Tryz.underlying204 Tryz.underlying186 (by kernel_rfl) (by kernel_rfl) hv (List.mem_of_getElem? (i := 2) (show lA[2]? = some ("internal/strconv.uint64pow10", tabData .u64 pow10Tab) by kernel_rfl))
  obtain ⟨m, hm⟩ := max_laid W hs
  have hU : Utf8Tabs 5 6 W := utf8Tabs_of_reads (ρ := Tryz.lays177_ren) { Tryz.lays177 with } ⟨by kernel_rfl, by kernel_rfl, by kernel_rfl, by kernel_rfl, by kernel_rfl, by kernel_rfl, by kernel_rfl⟩
    (laidMet.reads hA (List.mem_of_getElem? (i := 11) (show lA[11]? = some ("unicode/utf8.first", firstData) by kernel_rfl))) (laidMet.reads hA (List.mem_of_getElem? (i := 3) (show lA[3]? = some ("unicode/utf8.acceptRanges", acceptData) by kernel_rfl)))
  have hT : PrintTabsAt 7 8 9 10 goPrintTabs W := printTabs_of_reads (ρ := Tryz.lays177_ren) { Tryz.lays177 with } ⟨by kernel_rfl, by kernel_rfl, by kernel_rfl, by kernel_rfl, by kernel_rfl, by kernel_rfl, by kernel_rfl, by kernel_rfl, by kernel_rfl, by kernel_rfl⟩
    (laidMet.reads hA (List.mem_of_getElem? (i := 9) (show lA[9]? = some ("strconv.isPrint16", sliceData .u16 goPrintTabs.p16) by kernel_rfl))) (laidMet.reads hA (List.mem_of_getElem? (i := 7) (show lA[7]? = some ("strconv.isNotPrint16", sliceData .u16 goPrintTabs.n16) by kernel_rfl)))
    (laidMet.reads hA (List.mem_of_getElem? (i := 10) (show lA[10]? = some ("strconv.isPrint32", sliceData .u32 goPrintTabs.p32) by kernel_rfl))) (laidMet.reads hA (List.mem_of_getElem? (i := 8) (show lA[8]? = some ("strconv.isNotPrint32", sliceData .u16 goPrintTabs.n32) by kernel_rfl)))
  have c1 := iface_of_reads (g := 1) (t := 43) (by kernel_rfl) (by kernel_rfl) Tryz.underlying43 (laidMet.reads hA (List.mem_of_getElem? (i := 5) (show lA[5]? = some ("strconv.ErrSyntax", Rows.laid_strconv_ErrSyntax) by kernel_rfl)))
  have c2 := iface_of_reads (g := 2) (t := 43) (by kernel_rfl) (by kernel_rfl) Tryz.underlying43 (laidMet.reads hA (List.mem_of_getElem? (i := 4) (show lA[4]? = some ("strconv.ErrRange", Rows.laid_strconv_ErrRange) by kernel_rfl)))
  obtain ⟨v1, c1, d1⟩ := c1
  obtain ⟨v2, c2, d2⟩ := c2
  exact ((KG.tab t1).and (KG.cell hm ⟨m, rfl⟩)).and (((KG.print hT).and (KG.utf8 hU)).and ((KG.cellE (errTy_of hp.2)).and ((KG.cell c1 d1).and (KG.cell c2 d2))))
noncomputable def wit (os : Os) : World :=
  let N := (World.settled Go.Proofs.Tryz.prog os).heap.size
  let T := goPrintTabs
  let w0 := World.holding Go.Proofs.Tryz.prog os ⟨#[
    .cells (intCellsOf .u16 T.p16) (Tryz.lays177_ren.t 49), .cells (intCellsOf .u16 T.n16) (Tryz.lays177_ren.t 49), .cells (intCellsOf .u32 T.p32) (Tryz.lays177_ren.t 51), .cells (intCellsOf .u16 T.n32) (Tryz.lays177_ren.t 49), .cells (intCellsOf .u16 Go.Pinned.isGraphicZ) (Tryz.lays177_ren.t 49), .cells #[.string ⟨#[118, 97, 108, 117, 101, 32, 111, 117, 116, 32, 111, 102, 32, 114, 97, 110, 103, 101]⟩] 115, .cells #[.string ⟨#[105, 110, 118, 97, 108, 105, 100, 32, 115, 121, 110, 116, 97, 120]⟩] 115], #[], []⟩
  let put (h : Array Obj) (g : Nat) (cs : Array Value) : Array Obj := h.modify g fun
    | .cells _ t frozen => .cells cs t frozen
    | o => o
  let h1 := (laidW Go.Proofs.Tryz.prog lA w0).heap
  let h2 := put h1 7 #[.slice (some ⟨N, 0, none⟩) T.p16.length T.p16.length]
  let h3 := put h2 8 #[.slice (some ⟨N + 1, 0, none⟩) T.n16.length T.n16.length]
  let h4 := put h3 9 #[.slice (some ⟨N + 2, 0, none⟩) T.p32.length T.p32.length]
  let h5 := put h4 10 #[.slice (some ⟨N + 3, 0, none⟩) T.n32.length T.n32.length]
  let h6 := put h5 11 #[.slice (some ⟨N + 4, 0, none⟩) Go.Pinned.isGraphicZ.length Go.Pinned.isGraphicZ.length]
  let h7 := put h6 5 (firstTab.map fun z => Value.int .u8 z).toArray
  let h8 := put h7 0 #[.iface 162 (.agg #[.pointer (some ⟨14, 43, none⟩)])]
  let h9 := put (put h8 2 #[.iface 113 (.pointer (some ⟨N + 5, 0, none⟩))]) 1 #[.iface 113 (.pointer (some ⟨N + 6, 0, none⟩))]
  { w0 with heap := h9 }
noncomputable abbrev N0 : Nat := (World.settled Go.Proofs.Tryz.prog default).heap.size
theorem piece0 (os : Os) (args : Array Value) : LaidIn Go.Proofs.Tryz.prog ((wit os).forCall (fun _ _ => 0) ⟨#[], args, []⟩).memory [("math/bits.deBruijn32tab", Rows.laid_math_bits_deBruijn32tab), ("math/bits.deBruijn64tab", Rows.laid_math_bits_deBruijn64tab), ("internal/strconv.uint64pow10", Rows.laid_internal_strconv_uint64pow10), ("unicode/utf8.acceptRanges", Rows.laid_unicode_utf8_acceptRanges), ("strconv.ErrRange", Rows.laid_strconv_ErrRange), ("strconv.ErrSyntax", Rows.laid_strconv_ErrSyntax)] [12, 13, 3, 6, 2, N0 + 5, 1, N0 + 6] :=
  LaidIn.of_run [12, 13, 3, 6, 2, N0 + 5, 1, N0 + 6] 8 (by kernel_rfl) (by kernel_rfl) (by kernel_rfl) (by kernel_rfl)
theorem piece1 (os : Os) (args : Array Value) : LaidIn Go.Proofs.Tryz.prog ((wit os).forCall (fun _ _ => 0) ⟨#[], args, []⟩).memory [("strconv.isGraphic", Rows.laid_strconv_isGraphic)] [11, N0 + 4] :=
  (show Rows.laid_strconv_isGraphic = sliceData .u16 Go.Pinned.isGraphicZ by kernel_rfl) ▸ laidIn_slice (t := Tryz.lays177_ren.t 234) (e := Tryz.lays177_ren.t 49) (te := Tryz.lays177_ren.t 49) Go.Pinned.isGraphicZ (N0 + 4) (by kernel_rfl) (by kernel_rfl) (by kernel_rfl) (by kernel_rfl) (by kernel_rfl) (by kernel_rfl) (by kernel_rfl) (by kernel_rfl) (of_decide_eq_true (by kernel_rfl)) (of_decide_eq_true (by kernel_rfl))
theorem piece2 (os : Os) (args : Array Value) : LaidIn Go.Proofs.Tryz.prog ((wit os).forCall (fun _ _ => 0) ⟨#[], args, []⟩).memory [("strconv.isNotPrint16", Rows.laid_strconv_isNotPrint16)] [8, N0 + 1] :=
  (show Rows.laid_strconv_isNotPrint16 = sliceData .u16 goPrintTabs.n16 by kernel_rfl) ▸ laidIn_slice (t := Tryz.lays177_ren.t 234) (e := Tryz.lays177_ren.t 49) (te := Tryz.lays177_ren.t 49) goPrintTabs.n16 (N0 + 1) (by kernel_rfl) (by kernel_rfl) (by kernel_rfl) (by kernel_rfl) (by kernel_rfl) (by kernel_rfl) (by kernel_rfl) (by kernel_rfl) (of_decide_eq_true (by kernel_rfl)) (of_decide_eq_true (by kernel_rfl))
theorem piece3 (os : Os) (args : Array Value) : LaidIn Go.Proofs.Tryz.prog ((wit os).forCall (fun _ _ => 0) ⟨#[], args, []⟩).memory [("strconv.isNotPrint32", Rows.laid_strconv_isNotPrint32)] [10, N0 + 3] :=
  (show Rows.laid_strconv_isNotPrint32 = sliceData .u16 goPrintTabs.n32 by kernel_rfl) ▸ laidIn_slice (t := Tryz.lays177_ren.t 234) (e := Tryz.lays177_ren.t 49) (te := Tryz.lays177_ren.t 49) goPrintTabs.n32 (N0 + 3) (by kernel_rfl) (by kernel_rfl) (by kernel_rfl) (by kernel_rfl) (by kernel_rfl) (by kernel_rfl) (by kernel_rfl) (by kernel_rfl) (of_decide_eq_true (by kernel_rfl)) (of_decide_eq_true (by kernel_rfl))
theorem piece4 (os : Os) (args : Array Value) : LaidIn Go.Proofs.Tryz.prog ((wit os).forCall (fun _ _ => 0) ⟨#[], args, []⟩).memory [("strconv.isPrint16", Rows.laid_strconv_isPrint16)] [7, N0] :=
  (show Rows.laid_strconv_isPrint16 = sliceData .u16 goPrintTabs.p16 by kernel_rfl) ▸ laidIn_slice (t := Tryz.lays177_ren.t 234) (e := Tryz.lays177_ren.t 49) (te := Tryz.lays177_ren.t 49) goPrintTabs.p16 (N0) (by kernel_rfl) (by kernel_rfl) (by kernel_rfl) (by kernel_rfl) (by kernel_rfl) (by kernel_rfl) (by kernel_rfl) (by kernel_rfl) (of_decide_eq_true (by kernel_rfl)) (of_decide_eq_true (by kernel_rfl))
theorem piece5 (os : Os) (args : Array Value) : LaidIn Go.Proofs.Tryz.prog ((wit os).forCall (fun _ _ => 0) ⟨#[], args, []⟩).memory [("strconv.isPrint32", Rows.laid_strconv_isPrint32)] [9, N0 + 2] :=
  (show Rows.laid_strconv_isPrint32 = sliceData .u32 goPrintTabs.p32 by kernel_rfl) ▸ laidIn_slice (t := Tryz.lays177_ren.t 236) (e := Tryz.lays177_ren.t 51) (te := Tryz.lays177_ren.t 51) goPrintTabs.p32 (N0 + 2) (by kernel_rfl) (by kernel_rfl) (by kernel_rfl) (by kernel_rfl) (by kernel_rfl) (by kernel_rfl) (by kernel_rfl) (by kernel_rfl) (of_decide_eq_true (by kernel_rfl)) (of_decide_eq_true (by kernel_rfl))
theorem piece6 (os : Os) (args : Array Value) : LaidIn Go.Proofs.Tryz.prog ((wit os).forCall (fun _ _ => 0) ⟨#[], args, []⟩).memory [("unicode/utf8.first", Rows.laid_unicode_utf8_first)] [5] :=
  LaidIn.of_run [5] 8 (by kernel_rfl) (by kernel_rfl) (by kernel_rfl) (by kernel_rfl)
theorem wit_met (os : Os) (args : Array Value) : laidMet Go.Proofs.Tryz.prog lA ((wit os).forCall (fun _ _ => 0) ⟨#[], args, []⟩).memory := (((((((piece0 os args).append (piece1 os args) (by kernel_rfl)).append (piece2 os args) (by kernel_rfl)).append (piece3 os args) (by kernel_rfl)).append (piece4 os args) (by kernel_rfl)).append (piece5 os args) (by kernel_rfl)).append (piece6 os args) (by kernel_rfl)).met
theorem wit_metH (os : Os) (args : Array Value) : laidMetH Go.Proofs.Tryz.prog lL ((wit os).forCall (fun _ _ => 0) ⟨#[], args, []⟩).memory :=
  laidMetH_of_parts (lL_none ▸ wit_met os args) (by rw [lL_some]; kernel_rfl)
end Go.Tr
