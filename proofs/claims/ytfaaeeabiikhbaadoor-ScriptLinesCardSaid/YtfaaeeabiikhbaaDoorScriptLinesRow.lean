/- The row of ScriptLines, its first form, and its card: the printed function answers true, so the Go function does, wherever it is called. Conditions: none. -/
import Derived.Test.YtfaaeeabiikhbaaDoorSlP
import Derived.Test.YtfaaeeabiikhbaaDoorSliW
import Derived.Test.YtfaaeeabiikhbaaDoorTrW
import Derived.Test.YtfaaeeabiikhbaaDoorBF
import Derived.Test.YtfaaeeabiikhbaaDoorSlR

import Derived.Deep.DeepWitnessRowRef
import Derived.Test.YtfaaeeabiikhbaaDoorCards
import Derived.Test.YtfaaeeabiikhbaaDoorTie
namespace Go.Tr
open Go Go.Proofs Go.Proofs.YtfaaeeabiikhbaaDoor
set_option maxRecDepth 100000
set_option linter.unusedVariables false
set_option maxHeartbeats 0
theorem scriptLines_own : ownKnob Tryd.prog.godebug = none := by kernel_rfl
theorem scriptLines_laid : laidOutB Tryd.prog = true := by kernel_rfl
theorem scriptLines_types : typesIn Tryd.prog 256 = true := by kernel_rfl
theorem scriptLines_tabs {W : World} (h : laidMetH Tryd.prog Rows.scriptLinesRow.laid W) (hs : W.ShapedOpen Tryd.prog) : Tabs.G Tryd.prog W (fun b => b < W.heap.size) := tabs_of h hs
noncomputable def scriptLines_X {H : Type} (enc : TypeId × Value → H) (os : Os) : List (DataW H) × List (DataW H) × List MemPlace :=
  (DataW.whole enc Tryd.prog ((wit os).forCall (fun _ _ => 0) ⟨#[], #[.int .u8 0, .int .u8 0, .int .u8 0], []⟩).memory Tryd.f3.params.toList Rows.scriptLinesSpec.vars false (#[.int .u8 0, .int .u8 0, .int .u8 0] : Array Value).toList 8).getD ([], [], [])
open Go.ChangeShapes Go.WideShapes Go.ChangeAt Go.RowKit in
theorem scriptLines_contract (H : Type) (enc : TypeId × Value → H) (W : World) (base : Nat) (args : Array Value) (ds gs : List (DataW H)) (before : List MemPlace)
    (hval : ∀ (j : Nat) t v, Tryd.f3.params[j]? = some t → args[j]? = some v → Value.okWide Tryd.prog W .any base t v)
    (hW : DataW.Whole enc Tryd.prog Tryd.f3.params.toList Rows.scriptLinesSpec.vars false W args.toList ds gs before) (hL : laidMetH Tryd.prog Rows.scriptLinesRow.laid W) (hs : W.ShapedOpen Tryd.prog)
    (hz : ∀ m ∈ DataW.weightsEach Tryd.prog Tryd.f3.params.toList ds, m ≤ 140737488351232) :
    Calls Tryd.prog 3 args W fun e W' => ∃ v, e = .returned v ∧ Rows.scriptLinesSpec.post enc Tryd.prog Tryd.f3 false true false false W args v W' := by
  have hW' := hW
  obtain ⟨p, q, hA0, _, _, _, _⟩ := hW'
  have hA : DataW.TrodAll enc Tryd.prog W 0 (fun _ => true) true Tryd.f3.params.toList args.toList ds p := hA0
  rw [Tryd.params3] at hA
  obtain ⟨v0, vs0, d0, ds0, p0, q0, _, rfl, _, _, r0⟩ := trodAll_cons hA
  obtain ⟨v1, vs1, d1, ds1, p1, q1, _, rfl, _, _, r1⟩ := trodAll_cons r0
  obtain ⟨v2, vs2, d2, ds2, p2, q2, _, rfl, _, _, r2⟩ := trodAll_cons r1
  obtain ⟨_, rfl, _⟩ := trodAll_nil r2
  exact law_post (M := 140737488351232) (P := Tryd.prog) (fn := Tryd.f3) (s := Rows.scriptLinesSpec) (l := [(false, (.int .u8)), (false, (.int .u8)), (false, (.int .u8))]) (tb := 4) scriptLines_laid (by kernel_rfl) rfl (by kernel_rfl) Tryd.underlying4
    (fun x hx => FnX.ok ok_terrierlaw22_ScriptLines rfl rfl (x := x) (y := (true, ())) (scriptLines_law (by_wf hx.1) (by_wf hx.2.1) (by_wf hx.2.2.1))) (scriptLines_tabs hL hs) ⟨rfl, rfl, rfl⟩ hval hW hz
open Go.ChangeShapes Go.WideShapes Go.ChangeAt Go.RowKit in
theorem scriptLines_lifted (os : Os) (started : os.Started) (H : Type) (enc : TypeId × Value → H) (F : Stop.Interp) :
    ReturnsInHanded {} Tryd.checked os 3 .any ((OpenSpec.ofChange Rows.scriptLinesSpec).preRow enc Tryd.prog Tryd.f3 Rows.scriptLinesRow.domain false Rows.scriptLinesRow.laid) (((OpenSpec.ofChange Rows.scriptLinesSpec).at F).post enc Tryd.prog Tryd.f3 false true false false) := by
  refine returnsInHanded_of_row (C := Tryd.checked) (s := (OpenSpec.ofChange Rows.scriptLinesSpec)) scriptLines_own started (by kernel_rfl) Tryd.func3
    (witness_row_atRef (enc := enc) (C := Tryd.checked) false (wit os) #[.int .u8 0, .int .u8 0, .int .u8 0] rfl (by kernel_rfl) (by kernel_rfl) (by kernel_rfl)
      (OpenSpec.preRow_of_cond 8 (x := scriptLines_X enc os) (by kernel_rfl) (by kernel_rfl) (fun k hk => by cases hk) (by kernel_rfl) (wit_metH os _))) ?_
  intro W base args ds gs before hval hW _ hcond hz hL hs _
  exact scriptLines_contract H enc W base args ds gs before hval hW hL hs (reach_le rfl hW hz)
theorem scriptLines_said : Rows.ScriptLinesSaid :=
  OpenClaim.holds_of_cond 3 Tryd.f3 rfl rfl rfl rfl rfl rfl rfl ⟨rfl, rfl, rfl, rfl, rfl⟩ rfl rfl rfl rfl rfl (by kernel_rfl) Tryd.func3 (by kernel_rfl)
    (of_decide_eq_true (by kernel_rfl)) (by unfold Func.isWrapper; first | (rw [if_pos (by decide +kernel)]; kernel_rfl) | (rw [if_neg (by decide +kernel)]; exact ⟨rfl, rfl⟩))
    (fun os started H enc _ F => by rw [OpenClaim.pre_eq_preRow]; exact scriptLines_lifted os started H enc F)
theorem scriptLines_plain (f : FuncId) (fn : Func) (hf : Tryd.pinned.checked.prog.funcNamed "terrier/terrierlaw22.ScriptLines" = some f) (hfn : Tryd.pinned.checked.prog.funcs[f]? = some fn) :
    false = Tryd.pinned.checked.prog.looks [] ∧ ∀ (j : Nat) t, fn.params[j]? = some t → Tryd.pinned.checked.prog.wantsStandIn t = false := by
  obtain rfl : f = 3 := Option.some.inj ((show Tryd.prog.funcNamed "terrier/terrierlaw22.ScriptLines" = some 3 by kernel_rfl).symm.trans hf) |>.symm
  obtain rfl : fn = Tryd.f3 := (Option.some.inj (Tryd.func3.symm.trans hfn)).symm
  refine ⟨by kernel_rfl, fun j t ht => ?_⟩
  have hall : (Tryd.f3.params.toList.all fun t => !(Tryd.prog.wantsStandIn t)) = true := by kernel_rfl
  have hm : t ∈ Tryd.f3.params.toList := by rw [← Array.getElem?_toList] at ht; exact List.mem_of_getElem? ht
  have := List.all_eq_true.1 hall t hm
  show Tryd.prog.wantsStandIn t = false
  simpa using this
end Go.Tr
namespace Go.Proofs.YtfaaeeabiikhbaaDoor
open Go.Tr
theorem scriptLines_proved : Rows.ScriptLinesCardSaid :=
  Claim7.holds_tied_plain_at .later [] _ _ _ _ scriptLines_said (fun _ h => by cases h) (by kernel_rfl) (fun _ h => by cases h) scriptLines_row_tie rfl ⟨rfl, rfl⟩ (by kernel_rfl) rfl scriptLines_plain (by kernel_rfl)
end Go.Proofs.YtfaaeeabiikhbaaDoor
