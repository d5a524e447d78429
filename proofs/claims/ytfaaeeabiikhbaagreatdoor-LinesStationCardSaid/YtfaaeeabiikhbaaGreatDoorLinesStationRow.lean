/- The row of LinesStation, its first form, and its card: the printed function answers true, so the Go function does, wherever it is called. Conditions: none. -/
import Derived.Test.YtfaaeeabiikhbaaGreatDoorLinP
import Derived.Test.YtfaaeeabiikhbaaGreatDoorLinY
import Derived.Test.YtfaaeeabiikhbaaGreatDoorTrW
import Derived.Test.YtfaaeeabiikhbaaGreatDoorBF
import Derived.Test.YtfaaeeabiikhbaaGreatDoorLinR

import Derived.Deep.DeepWitnessRowRef
import Derived.Test.YtfaaeeabiikhbaaGreatDoorCards
import Derived.Test.YtfaaeeabiikhbaaGreatDoorTie
namespace Go.Tr
open Go Go.Proofs Go.Proofs.YtfaaeeabiikhbaaGreatDoor
set_option maxRecDepth 100000
set_option linter.unusedVariables false
set_option maxHeartbeats 0
theorem linesStation_own : ownKnob Tryz.prog.godebug = none := by kernel_rfl
theorem linesStation_laid : laidOutB Tryz.prog = true := by kernel_rfl
theorem linesStation_types : typesIn Tryz.prog 256 = true := by kernel_rfl
theorem linesStation_tabs {W : World} (h : laidMetH Tryz.prog Rows.linesStationRow.laid W) (hs : W.ShapedOpen Tryz.prog) : Tabs.G Tryz.prog W (fun b => b < W.heap.size) := tabs_of h hs
noncomputable def linesStation_X {H : Type} (enc : TypeId × Value → H) (os : Os) : List (DataW H) × List (DataW H) × List MemPlace :=
  (DataW.whole enc Tryz.prog ((wit os).forCall (fun _ _ => 0) ⟨#[], #[.int .u32 0, .agg #[.int .u8 0, .int .u8 0, .int .u8 0, .int .u8 0, .int .u8 0, .int .u8 0], .int .u32 0], []⟩).memory Tryz.f10.params.toList Rows.linesStationSpec.vars false (#[.int .u32 0, .agg #[.int .u8 0, .int .u8 0, .int .u8 0, .int .u8 0, .int .u8 0, .int .u8 0], .int .u32 0] : Array Value).toList 8).getD ([], [], [])
open Go.ChangeShapes Go.WideShapes Go.ChangeAt Go.RowKit in
theorem linesStation_contract (H : Type) (enc : TypeId × Value → H) (W : World) (base : Nat) (args : Array Value) (ds gs : List (DataW H)) (before : List MemPlace)
    (hval : ∀ (j : Nat) t v, Tryz.f10.params[j]? = some t → args[j]? = some v → Value.okWide Tryz.prog W .any base t v)
    (hW : DataW.Whole enc Tryz.prog Tryz.f10.params.toList Rows.linesStationSpec.vars false W args.toList ds gs before) (hL : laidMetH Tryz.prog Rows.linesStationRow.laid W) (hs : W.ShapedOpen Tryz.prog)
    (hz : ∀ m ∈ DataW.weightsEach Tryz.prog Tryz.f10.params.toList ds, m ≤ 140737488351232) :
    Calls Tryz.prog 10 args W fun e W' => ∃ v, e = .returned v ∧ Rows.linesStationSpec.post enc Tryz.prog Tryz.f10 false true false false W args v W' := by
  have hW' := hW
  obtain ⟨p, q, hA0, _, _, _, _⟩ := hW'
  have hA : DataW.TrodAll enc Tryz.prog W 0 (fun _ => true) true Tryz.f10.params.toList args.toList ds p := hA0
  rw [Tryz.params10] at hA
  obtain ⟨v0, vs0, d0, ds0, p0, q0, _, rfl, _, _, r0⟩ := trodAll_cons hA
  obtain ⟨v1, vs1, d1, ds1, p1, q1, _, rfl, _, _, r1⟩ := trodAll_cons r0
  obtain ⟨v2, vs2, d2, ds2, p2, q2, _, rfl, _, _, r2⟩ := trodAll_cons r1
  obtain ⟨_, rfl, _⟩ := trodAll_nil r2
  exact law_post (M := 140737488351232) (P := Tryz.prog) (fn := Tryz.f10) (s := Rows.linesStationSpec) (l := [(false, (.int .u32)), (true, (.pair (.int .u8) (.pair (.int .u8) (.pair (.int .u8) (.pair (.int .u8) (.pair (.int .u8) (.int .u8))))))), (false, (.int .u32))]) (tb := 4) linesStation_laid (by kernel_rfl) rfl (by kernel_rfl) Tryz.underlying4
    (fun x hx => FnX.ok ok_terrierlaw08_LinesStation rfl rfl (x := x) (y := (true, ())) (linesStation_law (u32_wf' hx.1) (m6_wf hx.2.1) (u32_wf' hx.2.2.1))) (linesStation_tabs hL hs) ⟨rfl, rfl, rfl⟩ hval hW hz
open Go.ChangeShapes Go.WideShapes Go.ChangeAt Go.RowKit in
theorem linesStation_lifted (os : Os) (started : os.Started) (H : Type) (enc : TypeId × Value → H) (F : Stop.Interp) :
    ReturnsInHanded {} Tryz.checked os 10 .any ((OpenSpec.ofChange Rows.linesStationSpec).preRow enc Tryz.prog Tryz.f10 Rows.linesStationRow.domain false Rows.linesStationRow.laid) (((OpenSpec.ofChange Rows.linesStationSpec).at F).post enc Tryz.prog Tryz.f10 false true false false) := by
  refine returnsInHanded_of_row (C := Tryz.checked) (s := (OpenSpec.ofChange Rows.linesStationSpec)) linesStation_own started (by kernel_rfl) Tryz.func10
    (witness_row_atRef (enc := enc) (C := Tryz.checked) false (wit os) #[.int .u32 0, .agg #[.int .u8 0, .int .u8 0, .int .u8 0, .int .u8 0, .int .u8 0, .int .u8 0], .int .u32 0] rfl (by kernel_rfl) (by kernel_rfl) (by kernel_rfl)
      (OpenSpec.preRow_of_cond 8 (x := linesStation_X enc os) (by kernel_rfl) (by kernel_rfl) (fun k hk => by cases hk) (by kernel_rfl) (wit_metH os _))) ?_
  intro W base args ds gs before hval hW _ hcond hz hL hs _
  exact linesStation_contract H enc W base args ds gs before hval hW hL hs (reach_le rfl hW hz)
theorem linesStation_said : Rows.LinesStationSaid :=
  OpenClaim.holds_of_cond 10 Tryz.f10 rfl rfl rfl rfl rfl rfl rfl ⟨rfl, rfl, rfl, rfl, rfl⟩ rfl rfl rfl rfl rfl (by kernel_rfl) Tryz.func10 (by kernel_rfl)
    (of_decide_eq_true (by kernel_rfl)) (by unfold Func.isWrapper; first | (rw [if_pos (by decide +kernel)]; kernel_rfl) | (rw [if_neg (by decide +kernel)]; exact ⟨rfl, rfl⟩))
    (fun os started H enc _ F => by rw [OpenClaim.pre_eq_preRow]; exact linesStation_lifted os started H enc F)
theorem linesStation_plain (f : FuncId) (fn : Func) (hf : Tryz.pinned.checked.prog.funcNamed "terrier/terrierlaw08.LinesStation" = some f) (hfn : Tryz.pinned.checked.prog.funcs[f]? = some fn) :
    true = Tryz.pinned.checked.prog.looks [] ∧ ∀ (j : Nat) t, fn.params[j]? = some t → Tryz.pinned.checked.prog.wantsStandIn t = false := by
  obtain rfl : f = 10 := Option.some.inj ((show Tryz.prog.funcNamed "terrier/terrierlaw08.LinesStation" = some 10 by kernel_rfl).symm.trans hf) |>.symm
  obtain rfl : fn = Tryz.f10 := (Option.some.inj (Tryz.func10.symm.trans hfn)).symm
  refine ⟨by kernel_rfl, fun j t ht => ?_⟩
  have hall : (Tryz.f10.params.toList.all fun t => !(Tryz.prog.wantsStandIn t)) = true := by kernel_rfl
  have hm : t ∈ Tryz.f10.params.toList := by rw [← Array.getElem?_toList] at ht; exact List.mem_of_getElem? ht
  have := List.all_eq_true.1 hall t hm
  show Tryz.prog.wantsStandIn t = false
  simpa using this
end Go.Tr
namespace Go.Proofs.YtfaaeeabiikhbaaGreatDoor
open Go.Tr
theorem linesStation_proved : Rows.LinesStationCardSaid :=
  Claim7.holds_tied_plain_at .later [] _ _ _ _ linesStation_said (fun _ h => by cases h) (by kernel_rfl) (fun _ h => by cases h) linesStation_row_tie rfl ⟨rfl, rfl⟩ (by kernel_rfl) rfl linesStation_plain (by kernel_rfl)
end Go.Proofs.YtfaaeeabiikhbaaGreatDoor
