/- The row of ScriptTail, its second form, and its card: the printed function answers true, so the Go function does, wherever it is called. Conditions: none. -/
import Derived.Test.YtbdgfpfafcjmgaaDoorScriptP
import Derived.Test.YtbdgfpfafcjmgaaDoorScriptW
import Derived.Test.YtbdgfpfafcjmgaaDoorTrW
import Derived.Test.YtbdgfpfafcjmgaaDoorVC
import Derived.Test.YtbdgfpfafcjmgaaDoorScriptB
import Derived.Test.YtbdgfpfafcjmgaaDoorCards
import Derived.Test.YtbdgfpfafcjmgaaDoorTie
namespace Go.Tr
open Go Go.Proofs Go.Proofs.YtbdgfpfafcjmgaaDoor
set_option maxRecDepth 100000
set_option linter.unusedVariables false
set_option maxHeartbeats 0
theorem scriptTail_own : ownKnob Tryd.prog.godebug = none := by kernel_rfl
theorem scriptTail_laid : laidOutB Tryd.prog = true := by kernel_rfl
theorem scriptTail_types : typesIn Tryd.prog 256 = true := by kernel_rfl
theorem scriptTail_plainL : (Rows.scriptTailUptoRow.laid.filter fun x => x.2.handleName?.isSome) = [] := by kernel_rfl
theorem scriptTail_tabs {W : World} (h : laidMetH Tryd.prog Rows.scriptTailUptoRow.laid W) (hs : W.ShapedOpen Tryd.prog) : Tabs.G Tryd.prog W (fun b => b < W.heap.size) :=
  tabI_laid (i := 2) (by kernel_rfl) scriptTail_plainL (by kernel_rfl) h
noncomputable def scriptTail_world (os : Os) : World := laidW Tryd.prog Rows.scriptTailUptoRow.laid (World.holding Tryd.prog os ⟨#[], #[], []⟩)
noncomputable def scriptTail_X {H : Type} (enc : TypeId × Value → H) (os : Os) : List (DataW H) × List (DataW H) × List MemPlace :=
  (DataW.whole enc Tryd.prog ((scriptTail_world os).forCall (fun _ _ => 0) ⟨#[], #[.slice none 0 0, .slice none 0 0], []⟩).memory Tryd.f5.params.toList Rows.scriptTailSpec.vars false (#[.slice none 0 0, .slice none 0 0] : Array Value).toList 8).getD ([], [], [])
theorem scriptTail_met (os : Os) : laidMet Tryd.prog Rows.scriptTailUptoRow.laid ((scriptTail_world os).forCall (fun _ _ => 0) ⟨#[], #[.slice none 0 0, .slice none 0 0], []⟩).memory :=
  laidMet_of_run' 8 (by kernel_rfl) (by kernel_rfl)
open Go.ChangeShapes Go.WideShapes Go.ChangeAt Go.RowKit in
theorem scriptTail_contract (H : Type) (enc : TypeId × Value → H) (W : World) (base : Nat) (args : Array Value) (ds gs : List (DataW H)) (before : List MemPlace)
    (hval : ∀ (j : Nat) t v, Tryd.f5.params[j]? = some t → args[j]? = some v → Value.okWide Tryd.prog W .any base t v)
    (hW : DataW.Whole enc Tryd.prog Tryd.f5.params.toList Rows.scriptTailSpec.vars false W args.toList ds gs before) (hL : laidMetH Tryd.prog Rows.scriptTailUptoRow.laid W) (hs : W.ShapedOpen Tryd.prog)
    (hz : ∀ m ∈ DataW.weightsEach Tryd.prog Tryd.f5.params.toList ds, m ≤ 268435456) :
    Calls Tryd.prog 5 args W fun e W' => ∃ v, e = .returned v ∧ Rows.scriptTailSpec.post enc Tryd.prog Tryd.f5 false true false false W args v W' := by
  have hW' := hW
  obtain ⟨p, q, hA0, _, _, _, _⟩ := hW'
  have hA : DataW.TrodAll enc Tryd.prog W 0 (fun _ => true) true Tryd.f5.params.toList args.toList ds p := hA0
  rw [Tryd.params5] at hA
  obtain ⟨v0, vs0, d0, ds0, p0, q0, _, rfl, _, _, r0⟩ := trodAll_cons hA
  obtain ⟨v1, vs1, d1, ds1, p1, q1, _, rfl, _, _, r1⟩ := trodAll_cons r0
  obtain ⟨_, rfl, _⟩ := trodAll_nil r1
  exact law_post (M := 268435456) (P := Tryd.prog) (fn := Tryd.f5) (s := Rows.scriptTailSpec) (l := [(false, (.sl (.int .u8))), (false, (.sl (.int .u8)))]) (tb := 4) scriptTail_laid (by kernel_rfl) rfl (by kernel_rfl) Tryd.underlying4
    (fun x hx => FnX.ok ok_terrierlaw22_ScriptTail rfl rfl (x := x) (y := (true, ())) (scriptTail_law (bys_wf hx.1) (bys_wf hx.2.1) (by have := bys_len hx.1; omega))) (scriptTail_tabs hL hs) ⟨rfl, rfl, rfl⟩ hval hW hz
open Go.ChangeShapes Go.WideShapes Go.ChangeAt Go.RowKit in
theorem scriptTail_lifted (os : Os) (started : os.Started) (H : Type) (enc : TypeId × Value → H) (F : Stop.Interp) :
    ReturnsInHanded {} Tryd.checked os 5 .any ((Rows.OpenSpec.upto Rows.scriptTailSpec).preRow enc Tryd.prog Tryd.f5 Rows.scriptTailUptoRow.domain false Rows.scriptTailUptoRow.laid) (((Rows.OpenSpec.upto Rows.scriptTailSpec).at F).post enc Tryd.prog Tryd.f5 false true false false) := by
  refine returnsInHanded_of_row (C := Tryd.checked) (s := (Rows.OpenSpec.upto Rows.scriptTailSpec)) scriptTail_own started (by kernel_rfl) Tryd.func5
    (witness_row_at (enc := enc) (C := Tryd.checked) false (scriptTail_world os) #[.slice none 0 0, .slice none 0 0] rfl (by kernel_rfl) (by kernel_rfl) (by kernel_rfl)
      (OpenSpec.preRow_of_cond 8 (x := scriptTail_X enc os) (by kernel_rfl) (by kernel_rfl) (fun k hk => by cases hk; kernel_rfl) (by kernel_rfl) (laidMet_to_H scriptTail_plainL (scriptTail_met os)))) ?_
  intro W base args ds gs before hval hW _ hcond hz hL hs _
  have hk : Rows.uptoSmall H (ds ++ gs) = true := hcond _ rfl
  have hts : ∀ t ∈ Tryd.f5.params.toList, t < Tryd.prog.types.size := by
    have : (Tryd.f5.params.toList.all fun t => Nat.blt t Tryd.prog.types.size) = true := by kernel_rfl
    intro t ht
    simpa using List.all_eq_true.1 this t ht
  exact scriptTail_contract H enc W base args ds gs before hval hW hL hs (upto_le scriptTail_types (by decide) hk hts)
theorem scriptTail_said : Rows.ScriptTailUptoSaid :=
  OpenClaim.holds_of_cond 5 Tryd.f5 rfl rfl rfl rfl rfl rfl rfl ⟨rfl, rfl, rfl, rfl, rfl⟩ rfl rfl rfl rfl rfl (by kernel_rfl) Tryd.func5 (by kernel_rfl)
    (of_decide_eq_true (by kernel_rfl)) (by unfold Func.isWrapper; first | (rw [if_pos (by decide +kernel)]; kernel_rfl) | (rw [if_neg (by decide +kernel)]; exact ⟨rfl, rfl⟩))
    (fun os started H enc _ F => by rw [OpenClaim.pre_eq_preRow]; exact scriptTail_lifted os started H enc F)
theorem scriptTail_plain (f : FuncId) (fn : Func) (hf : Tryd.pinned.checked.prog.funcNamed "terrier/terrierlaw22.ScriptTail" = some f) (hfn : Tryd.pinned.checked.prog.funcs[f]? = some fn) :
    false = Tryd.pinned.checked.prog.looks [] ∧ ∀ (j : Nat) t, fn.params[j]? = some t → Tryd.pinned.checked.prog.wantsStandIn t = false := by
  obtain rfl : f = 5 := Option.some.inj ((show Tryd.prog.funcNamed "terrier/terrierlaw22.ScriptTail" = some 5 by kernel_rfl).symm.trans hf) |>.symm
  obtain rfl : fn = Tryd.f5 := (Option.some.inj (Tryd.func5.symm.trans hfn)).symm
  refine ⟨by kernel_rfl, fun j t ht => ?_⟩
  have hall : (Tryd.f5.params.toList.all fun t => !(Tryd.prog.wantsStandIn t)) = true := by kernel_rfl
  have hm : t ∈ Tryd.f5.params.toList := by rw [← Array.getElem?_toList] at ht; exact List.mem_of_getElem? ht
  have := List.all_eq_true.1 hall t hm
  show Tryd.prog.wantsStandIn t = false
  simpa using this
end Go.Tr
namespace Go.Proofs.YtbdgfpfafcjmgaaDoor
open Go.Tr
theorem scriptTail_proved : Rows.ScriptTailUptoCardSaid :=
  Claim7.holds_tied_plain_at .later [] _ _ _ _ scriptTail_said (fun _ h => by cases h) (by kernel_rfl) (fun _ h => by cases h) scriptTailUpto_row_tie rfl ⟨rfl, rfl⟩ (by kernel_rfl) rfl scriptTail_plain (by kernel_rfl)
end Go.Proofs.YtbdgfpfafcjmgaaDoor
