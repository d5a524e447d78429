/- The row of ScriptActs, its second form, and its card: the printed function answers true, so the Go function does, wherever it is called. Conditions: none. -/
import Derived.Test.YtbdgfpfafcjmgaaDoorScriptP
import Derived.Test.YtbdgfpfafcjmgaaDoorScriptW
import Derived.Test.YtbdgfpfafcjmgaaDoorTrW
import Derived.Test.YtbdgfpfafcjmgaaDoorVC
import Derived.Test.YtbdgfpfafcjmgaaDoorScriptB
import Derived.Test.YtbdgfpfafcjmgaaDoorCards
import Derived.Test.YtbdgfpfafcjmgaaDoorTie
namespace Go.Tr
open Go Go.Proofs Go.Proofs.YtbdgfpfafcjmgaaDoor
set_option maxRecDepth 100000
set_option linter.unusedVariables false
set_option maxHeartbeats 0
theorem scriptActs_own : ownKnob Tryd.prog.godebug = none := by kernel_rfl
theorem scriptActs_laid : laidOutB Tryd.prog = true := by kernel_rfl
theorem scriptActs_types : typesIn Tryd.prog 256 = true := by kernel_rfl
theorem scriptActs_plainL : (Rows.scriptActsUptoRow.laid.filter fun x => x.2.handleName?.isSome) = [] := by kernel_rfl
theorem scriptActs_tabs {W : World} (h : laidMetH Tryd.prog Rows.scriptActsUptoRow.laid W) (hs : W.ShapedOpen Tryd.prog) : Tabs.G Tryd.prog W (fun b => b < W.heap.size) :=
  tabI_laid (i := 2) (by kernel_rfl) scriptActs_plainL (by kernel_rfl) h
noncomputable def scriptActs_world (os : Os) : World := laidW Tryd.prog Rows.scriptActsUptoRow.laid (World.holding Tryd.prog os ⟨#[], #[], []⟩)
noncomputable def scriptActs_X {H : Type} (enc : TypeId × Value → H) (os : Os) : List (DataW H) × List (DataW H) × List MemPlace :=
  (DataW.whole enc Tryd.prog ((scriptActs_world os).forCall (fun _ _ => 0) ⟨#[], #[.slice none 0 0], []⟩).memory Tryd.f3.params.toList Rows.scriptActsSpec.vars false (#[.slice none 0 0] : Array Value).toList 8).getD ([], [], [])
theorem scriptActs_met (os : Os) : laidMet Tryd.prog Rows.scriptActsUptoRow.laid ((scriptActs_world os).forCall (fun _ _ => 0) ⟨#[], #[.slice none 0 0], []⟩).memory :=
  laidMet_of_run' 8 (by kernel_rfl) (by kernel_rfl)
open Go.ChangeShapes Go.WideShapes Go.ChangeAt Go.RowKit in
theorem scriptActs_contract (H : Type) (enc : TypeId × Value → H) (W : World) (base : Nat) (args : Array Value) (ds gs : List (DataW H)) (before : List MemPlace)
    (hval : ∀ (j : Nat) t v, Tryd.f3.params[j]? = some t → args[j]? = some v → Value.okWide Tryd.prog W .any base t v)
    (hW : DataW.Whole enc Tryd.prog Tryd.f3.params.toList Rows.scriptActsSpec.vars false W args.toList ds gs before) (hL : laidMetH Tryd.prog Rows.scriptActsUptoRow.laid W) (hs : W.ShapedOpen Tryd.prog)
    (hz : ∀ m ∈ DataW.weightsEach Tryd.prog Tryd.f3.params.toList ds, m ≤ 268435456) :
    Calls Tryd.prog 3 args W fun e W' => ∃ v, e = .returned v ∧ Rows.scriptActsSpec.post enc Tryd.prog Tryd.f3 false true false false W args v W' := by
  have hW' := hW
  obtain ⟨p, q, hA0, _, _, _, _⟩ := hW'
  have hA : DataW.TrodAll enc Tryd.prog W 0 (fun _ => true) true Tryd.f3.params.toList args.toList ds p := hA0
  rw [Tryd.params3] at hA
  obtain ⟨v0, vs0, d0, ds0, p0, q0, _, rfl, _, _, r0⟩ := trodAll_cons hA
  obtain ⟨_, rfl, _⟩ := trodAll_nil r0
  exact law_post (M := 268435456) (P := Tryd.prog) (fn := Tryd.f3) (s := Rows.scriptActsSpec) (l := [(false, (.sl (.int .u8)))]) (tb := 4) scriptActs_laid (by kernel_rfl) rfl (by kernel_rfl) Tryd.underlying4
    (fun x hx => FnX.ok ok_terrierlaw22_ScriptActs rfl rfl (x := x) (y := (true, ())) (scriptActs_law (bys_wf hx.1) (by have := bys_len hx.1; omega))) (scriptActs_tabs hL hs) ⟨rfl, rfl, rfl⟩ hval hW hz
open Go.ChangeShapes Go.WideShapes Go.ChangeAt Go.RowKit in
theorem scriptActs_lifted (os : Os) (started : os.Started) (H : Type) (enc : TypeId × Value → H) (F : Stop.Interp) :
    ReturnsInHanded {} Tryd.checked os 3 .any ((Rows.OpenSpec.upto Rows.scriptActsSpec).preRow enc Tryd.prog Tryd.f3 Rows.scriptActsUptoRow.domain false Rows.scriptActsUptoRow.laid) (((Rows.OpenSpec.upto Rows.scriptActsSpec).at F).post enc Tryd.prog Tryd.f3 false true false false) := by
  refine returnsInHanded_of_row (C := Tryd.checked) (s := (Rows.OpenSpec.upto Rows.scriptActsSpec)) scriptActs_own started (by kernel_rfl) Tryd.func3
    (witness_row_at (enc := enc) (C := Tryd.checked) false (scriptActs_world os) #[.slice none 0 0] rfl (by kernel_rfl) (by kernel_rfl) (by kernel_rfl)
      (OpenSpec.preRow_of_cond 8 (x := scriptActs_X enc os) (by kernel_rfl) (by kernel_rfl) (fun k hk => by cases hk; kernel_rfl) (by kernel_rfl) (laidMet_to_H scriptActs_plainL (scriptActs_met os)))) ?_
  intro W base args ds gs before hval hW _ hcond hz hL hs _
  have hk : Rows.uptoSmall H (ds ++ gs) = true := hcond _ rfl
  have hts : ∀ t ∈ Tryd.f3.params.toList, t < Tryd.prog.types.size := by
    have : (Tryd.f3.params.toList.all fun t => Nat.blt t Tryd.prog.types.size) = true := by kernel_rfl
    intro t ht
    simpa using List.all_eq_true.1 this t ht
  exact scriptActs_contract H enc W base args ds gs before hval hW hL hs (upto_le scriptActs_types (by decide) hk hts)
theorem scriptActs_said : Rows.ScriptActsUptoSaid :=
  OpenClaim.holds_of_cond 3 Tryd.f3 rfl rfl rfl rfl rfl rfl rfl ⟨rfl, rfl, rfl, rfl, rfl⟩ rfl rfl rfl rfl rfl (by kernel_rfl) Tryd.func3 (by kernel_rfl)
    (of_decide_eq_true (by kernel_rfl)) (by unfold Func.isWrapper; first | (rw [if_pos (by decide +kernel)]; kernel_rfl) | (rw [if_neg (by decide +kernel)]; exact ⟨rfl, rfl⟩))
    (fun os started H enc _ F => by rw [OpenClaim.pre_eq_preRow]; exact scriptActs_lifted os started H enc F)
theorem scriptActs_plain (f : FuncId) (fn : Func) (hf : Tryd.pinned.checked.prog.funcNamed "terrier/terrierlaw22.ScriptActs" = some f) (hfn : Tryd.pinned.checked.prog.funcs[f]? = some fn) :
    false = Tryd.pinned.checked.prog.looks [] ∧ ∀ (j : Nat) t, fn.params[j]? = some t → Tryd.pinned.checked.prog.wantsStandIn t = false := by
  obtain rfl : f = 3 := Option.some.inj ((show Tryd.prog.funcNamed "terrier/terrierlaw22.ScriptActs" = some 3 by kernel_rfl).symm.trans hf) |>.symm
  obtain rfl : fn = Tryd.f3 := (Option.some.inj (Tryd.func3.symm.trans hfn)).symm
  refine ⟨by kernel_rfl, fun j t ht => ?_⟩
  have hall : (Tryd.f3.params.toList.all fun t => !(Tryd.prog.wantsStandIn t)) = true := by kernel_rfl
  have hm : t ∈ Tryd.f3.params.toList := by rw [← Array.getElem?_toList] at ht; exact List.mem_of_getElem? ht
  have := List.all_eq_true.1 hall t hm
  show Tryd.prog.wantsStandIn t = false
  simpa using this
end Go.Tr
namespace Go.Proofs.YtbdgfpfafcjmgaaDoor
open Go.Tr
theorem scriptActs_proved : Rows.ScriptActsUptoCardSaid :=
  Claim7.holds_tied_plain_at .later [] _ _ _ _ scriptActs_said (fun _ h => by cases h) (by kernel_rfl) (fun _ h => by cases h) scriptActsUpto_row_tie rfl ⟨rfl, rfl⟩ (by kernel_rfl) rfl scriptActs_plain (by kernel_rfl)
end Go.Proofs.YtbdgfpfafcjmgaaDoor
