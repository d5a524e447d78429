/- The row of ScriptKinds, its first form, and its card: the printed function answers true, so the Go function does, wherever it is called. Conditions: none. -/
import Derived.Test.YtbdgfpfafcjmgaaDoorScriptP
import Derived.Test.YtbdgfpfafcjmgaaDoorScriptW
import Derived.Test.YtbdgfpfafcjmgaaDoorTrW
import Derived.Test.YtbdgfpfafcjmgaaDoorVC
import Derived.Test.YtbdgfpfafcjmgaaDoorScriptB
import Derived.Test.YtbdgfpfafcjmgaaDoorCards
import Derived.Test.YtbdgfpfafcjmgaaDoorTie
namespace Go.Tr
open Go Go.Proofs Go.Proofs.YtbdgfpfafcjmgaaDoor
set_option maxRecDepth 100000
set_option linter.unusedVariables false
set_option maxHeartbeats 0
theorem scriptKinds_own : ownKnob Tryd.prog.godebug = none := by kernel_rfl
theorem scriptKinds_laid : laidOutB Tryd.prog = true := by kernel_rfl
theorem scriptKinds_types : typesIn Tryd.prog 256 = true := by kernel_rfl
theorem scriptKinds_plainL : (Rows.scriptKindsRow.laid.filter fun x => x.2.handleName?.isSome) = [] := by kernel_rfl
theorem scriptKinds_tabs {W : World} (h : laidMetH Tryd.prog Rows.scriptKindsRow.laid W) (hs : W.ShapedOpen Tryd.prog) : Tabs.G Tryd.prog W (fun b => b < W.heap.size) :=
  tabI_laid (i := 2) (by kernel_rfl) scriptKinds_plainL (by kernel_rfl) h
noncomputable def scriptKinds_world (os : Os) : World := laidW Tryd.prog Rows.scriptKindsRow.laid (World.holding Tryd.prog os ⟨#[], #[], []⟩)
noncomputable def scriptKinds_X {H : Type} (enc : TypeId × Value → H) (os : Os) : List (DataW H) × List (DataW H) × List MemPlace :=
  (DataW.whole enc Tryd.prog ((scriptKinds_world os).forCall (fun _ _ => 0) ⟨#[], #[.int .u8 0, .int .u8 0, .int .u8 0, .int .u8 0], []⟩).memory Tryd.f6.params.toList Rows.scriptKindsSpec.vars false (#[.int .u8 0, .int .u8 0, .int .u8 0, .int .u8 0] : Array Value).toList 8).getD ([], [], [])
theorem scriptKinds_met (os : Os) : laidMet Tryd.prog Rows.scriptKindsRow.laid ((scriptKinds_world os).forCall (fun _ _ => 0) ⟨#[], #[.int .u8 0, .int .u8 0, .int .u8 0, .int .u8 0], []⟩).memory :=
  laidMet_of_run' 8 (by kernel_rfl) (by kernel_rfl)
open Go.ChangeShapes Go.WideShapes Go.ChangeAt Go.RowKit in
theorem scriptKinds_contract (H : Type) (enc : TypeId × Value → H) (W : World) (base : Nat) (args : Array Value) (ds gs : List (DataW H)) (before : List MemPlace)
    (hval : ∀ (j : Nat) t v, Tryd.f6.params[j]? = some t → args[j]? = some v → Value.okWide Tryd.prog W .any base t v)
    (hW : DataW.Whole enc Tryd.prog Tryd.f6.params.toList Rows.scriptKindsSpec.vars false W args.toList ds gs before) (hL : laidMetH Tryd.prog Rows.scriptKindsRow.laid W) (hs : W.ShapedOpen Tryd.prog)
    (hz : ∀ m ∈ DataW.weightsEach Tryd.prog Tryd.f6.params.toList ds, m ≤ 140737488351232) :
    Calls Tryd.prog 6 args W fun e W' => ∃ v, e = .returned v ∧ Rows.scriptKindsSpec.post enc Tryd.prog Tryd.f6 false true false false W args v W' := by
  have hW' := hW
  obtain ⟨p, q, hA0, _, _, _, _⟩ := hW'
  have hA : DataW.TrodAll enc Tryd.prog W 0 (fun _ => true) true Tryd.f6.params.toList args.toList ds p := hA0
  rw [Tryd.params6] at hA
  obtain ⟨v0, vs0, d0, ds0, p0, q0, _, rfl, _, _, r0⟩ := trodAll_cons hA
  obtain ⟨v1, vs1, d1, ds1, p1, q1, _, rfl, _, _, r1⟩ := trodAll_cons r0
  obtain ⟨v2, vs2, d2, ds2, p2, q2, _, rfl, _, _, r2⟩ := trodAll_cons r1
  obtain ⟨v3, vs3, d3, ds3, p3, q3, _, rfl, _, _, r3⟩ := trodAll_cons r2
  obtain ⟨_, rfl, _⟩ := trodAll_nil r3
  exact law_post (M := 140737488351232) (P := Tryd.prog) (fn := Tryd.f6) (s := Rows.scriptKindsSpec) (l := [(false, (.int .u8)), (false, (.int .u8)), (false, (.int .u8)), (false, (.int .u8))]) (tb := 4) scriptKinds_laid (by kernel_rfl) rfl (by kernel_rfl) Tryd.underlying4
    (fun x hx => FnX.ok ok_terrierlaw22_ScriptKinds rfl rfl (x := x) (y := (true, ())) (scriptKinds_law (by_wf hx.1) (by_wf hx.2.1) (by_wf hx.2.2.1) (by_wf hx.2.2.2.1))) (scriptKinds_tabs hL hs) ⟨rfl, rfl, rfl⟩ hval hW hz
open Go.ChangeShapes Go.WideShapes Go.ChangeAt Go.RowKit in
theorem scriptKinds_lifted (os : Os) (started : os.Started) (H : Type) (enc : TypeId × Value → H) (F : Stop.Interp) :
    ReturnsInHanded {} Tryd.checked os 6 .any ((OpenSpec.ofChange Rows.scriptKindsSpec).preRow enc Tryd.prog Tryd.f6 Rows.scriptKindsRow.domain false Rows.scriptKindsRow.laid) (((OpenSpec.ofChange Rows.scriptKindsSpec).at F).post enc Tryd.prog Tryd.f6 false true false false) := by
  refine returnsInHanded_of_row (C := Tryd.checked) (s := (OpenSpec.ofChange Rows.scriptKindsSpec)) scriptKinds_own started (by kernel_rfl) Tryd.func6
    (witness_row_at (enc := enc) (C := Tryd.checked) false (scriptKinds_world os) #[.int .u8 0, .int .u8 0, .int .u8 0, .int .u8 0] rfl (by kernel_rfl) (by kernel_rfl) (by kernel_rfl)
      (OpenSpec.preRow_of_cond 8 (x := scriptKinds_X enc os) (by kernel_rfl) (by kernel_rfl) (fun k hk => by cases hk) (by kernel_rfl) (laidMet_to_H scriptKinds_plainL (scriptKinds_met os)))) ?_
  intro W base args ds gs before hval hW _ hcond hz hL hs _
  exact scriptKinds_contract H enc W base args ds gs before hval hW hL hs (reach_le rfl hW hz)
theorem scriptKinds_said : Rows.ScriptKindsSaid :=
  OpenClaim.holds_of_cond 6 Tryd.f6 rfl rfl rfl rfl rfl rfl rfl ⟨rfl, rfl, rfl, rfl, rfl⟩ rfl rfl rfl rfl rfl (by kernel_rfl) Tryd.func6 (by kernel_rfl)
    (of_decide_eq_true (by kernel_rfl)) (by unfold Func.isWrapper; first | (rw [if_pos (by decide +kernel)]; kernel_rfl) | (rw [if_neg (by decide +kernel)]; exact ⟨rfl, rfl⟩))
    (fun os started H enc _ F => by rw [OpenClaim.pre_eq_preRow]; exact scriptKinds_lifted os started H enc F)
theorem scriptKinds_plain (f : FuncId) (fn : Func) (hf : Tryd.pinned.checked.prog.funcNamed "terrier/terrierlaw22.ScriptKinds" = some f) (hfn : Tryd.pinned.checked.prog.funcs[f]? = some fn) :
    false = Tryd.pinned.checked.prog.looks [] ∧ ∀ (j : Nat) t, fn.params[j]? = some t → Tryd.pinned.checked.prog.wantsStandIn t = false := by
  obtain rfl : f = 6 := Option.some.inj ((show Tryd.prog.funcNamed "terrier/terrierlaw22.ScriptKinds" = some 6 by kernel_rfl).symm.trans hf) |>.symm
  obtain rfl : fn = Tryd.f6 := (Option.some.inj (Tryd.func6.symm.trans hfn)).symm
  refine ⟨by kernel_rfl, fun j t ht => ?_⟩
  have hall : (Tryd.f6.params.toList.all fun t => !(Tryd.prog.wantsStandIn t)) = true := by kernel_rfl
  have hm : t ∈ Tryd.f6.params.toList := by rw [← Array.getElem?_toList] at ht; exact List.mem_of_getElem? ht
  have := List.all_eq_true.1 hall t hm
  show Tryd.prog.wantsStandIn t = false
  simpa using this
end Go.Tr
namespace Go.Proofs.YtbdgfpfafcjmgaaDoor
open Go.Tr
theorem scriptKinds_proved : Rows.ScriptKindsCardSaid :=
  Claim7.holds_tied_plain_at .later [] _ _ _ _ scriptKinds_said (fun _ h => by cases h) (by kernel_rfl) (fun _ h => by cases h) scriptKinds_row_tie rfl ⟨rfl, rfl⟩ (by kernel_rfl) rfl scriptKinds_plain (by kernel_rfl)
end Go.Proofs.YtbdgfpfafcjmgaaDoor
