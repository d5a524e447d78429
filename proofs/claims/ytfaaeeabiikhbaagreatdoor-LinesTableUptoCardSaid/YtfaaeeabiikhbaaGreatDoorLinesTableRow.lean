/- The row of LinesTable, its second form, and its card: the printed function answers true, so the Go function does, wherever it is called. Conditions: none. -/
import Derived.Test.YtfaaeeabiikhbaaGreatDoorLinP
import Derived.Test.YtfaaeeabiikhbaaGreatDoorLinI
import Derived.Test.YtfaaeeabiikhbaaGreatDoorTrW
import Derived.Test.YtfaaeeabiikhbaaGreatDoorBF
import Derived.Test.YtfaaeeabiikhbaaGreatDoorLinR
import Derived.Test.YtfaaeeabiikhbaaGreatDoorLinB
import Derived.Deep.DeepWitnessRowRef
import Derived.Test.YtfaaeeabiikhbaaGreatDoorCards
import Derived.Test.YtfaaeeabiikhbaaGreatDoorTie
namespace Go.Tr
open Go Go.Proofs Go.Proofs.YtfaaeeabiikhbaaGreatDoor
set_option maxRecDepth 100000
set_option linter.unusedVariables false
set_option maxHeartbeats 0
theorem linesTable_own : ownKnob Tryz.prog.godebug = none := by kernel_rfl
theorem linesTable_laid : laidOutB Tryz.prog = true := by kernel_rfl
theorem linesTable_types : typesIn Tryz.prog 256 = true := by kernel_rfl
theorem linesTable_tabs {W : World} (h : laidMetH Tryz.prog Rows.linesTableUptoRow.laid W) (hs : W.ShapedOpen Tryz.prog) : Tabs.G Tryz.prog W (fun b => b < W.heap.size) := tabs_of h hs
noncomputable def linesTable_X {H : Type} (enc : TypeId × Value → H) (os : Os) : List (DataW H) × List (DataW H) × List MemPlace :=
  (DataW.whole enc Tryz.prog ((wit os).forCall (fun _ _ => 0) ⟨#[], #[.slice none 0 0, .bool false], []⟩).memory Tryz.f11.params.toList Rows.linesTableSpec.vars false (#[.slice none 0 0, .bool false] : Array Value).toList 8).getD ([], [], [])
open Go.ChangeShapes Go.WideShapes Go.ChangeAt Go.RowKit in
theorem linesTable_contract (H : Type) (enc : TypeId × Value → H) (W : World) (base : Nat) (args : Array Value) (ds gs : List (DataW H)) (before : List MemPlace)
    (hval : ∀ (j : Nat) t v, Tryz.f11.params[j]? = some t → args[j]? = some v → Value.okWide Tryz.prog W .any base t v)
    (hW : DataW.Whole enc Tryz.prog Tryz.f11.params.toList Rows.linesTableSpec.vars false W args.toList ds gs before) (hL : laidMetH Tryz.prog Rows.linesTableUptoRow.laid W) (hs : W.ShapedOpen Tryz.prog)
    (hz : ∀ m ∈ DataW.weightsEach Tryz.prog Tryz.f11.params.toList ds, m ≤ 268435456) :
    Calls Tryz.prog 11 args W fun e W' => ∃ v, e = .returned v ∧ Rows.linesTableSpec.post enc Tryz.prog Tryz.f11 false true false false W args v W' := by
  have hW' := hW
  obtain ⟨p, q, hA0, _, _, _, _⟩ := hW'
  have hA : DataW.TrodAll enc Tryz.prog W 0 (fun _ => true) true Tryz.f11.params.toList args.toList ds p := hA0
  rw [Tryz.params11] at hA
  obtain ⟨v0, vs0, d0, ds0, p0, q0, _, rfl, _, _, r0⟩ := trodAll_cons hA
  obtain ⟨v1, vs1, d1, ds1, p1, q1, _, rfl, _, _, r1⟩ := trodAll_cons r0
  obtain ⟨_, rfl, _⟩ := trodAll_nil r1
  exact law_post (M := 268435456) (P := Tryz.prog) (fn := Tryz.f11) (s := Rows.linesTableSpec) (l := [(false, (.sl (.pair (.int .u32) (.pair (.pair (.int .u8) (.pair (.int .u8) (.pair (.int .u8) (.pair (.int .u8) (.pair (.int .u8) (.int .u8)))))) (.pair (.int .u8) (.pair (.int .i64) (.pair (.int .u8) .str))))))), (false, .bool)]) (tb := 4) linesTable_laid (by kernel_rfl) rfl (by kernel_rfl) Tryz.underlying4
    (fun x hx => FnX.ok ok_terrierlaw08_LinesTable rfl rfl (x := x) (y := (true, ())) (linesTable_law (wordss_wf (by decide) hx.1).1 (wordss_wf (M := 268435456) (by decide) hx.1).2 x.2.1)) (linesTable_tabs hL hs) ⟨rfl, rfl, rfl⟩ hval hW hz
open Go.ChangeShapes Go.WideShapes Go.ChangeAt Go.RowKit in
theorem linesTable_lifted (os : Os) (started : os.Started) (H : Type) (enc : TypeId × Value → H) (F : Stop.Interp) :
    ReturnsInHanded {} Tryz.checked os 11 .any ((Rows.OpenSpec.upto Rows.linesTableSpec).preRow enc Tryz.prog Tryz.f11 Rows.linesTableUptoRow.domain false Rows.linesTableUptoRow.laid) (((Rows.OpenSpec.upto Rows.linesTableSpec).at F).post enc Tryz.prog Tryz.f11 false true false false) := by
  refine returnsInHanded_of_row (C := Tryz.checked) (s := (Rows.OpenSpec.upto Rows.linesTableSpec)) linesTable_own started (by kernel_rfl) Tryz.func11
    (witness_row_atRef (enc := enc) (C := Tryz.checked) false (wit os) #[.slice none 0 0, .bool false] rfl (by kernel_rfl) (by kernel_rfl) (by kernel_rfl)
      (OpenSpec.preRow_of_cond 8 (x := linesTable_X enc os) (by kernel_rfl) (by kernel_rfl) (fun k hk => by cases hk; kernel_rfl) (by kernel_rfl) (wit_metH os _))) ?_
  intro W base args ds gs before hval hW _ hcond hz hL hs _
  have hk : Rows.uptoSmall H (ds ++ gs) = true := hcond _ rfl
  have hts : ∀ t ∈ Tryz.f11.params.toList, t < Tryz.prog.types.size := by
    have : (Tryz.f11.params.toList.all fun t => Nat.blt t Tryz.prog.types.size) = true := by kernel_rfl
    intro t ht
    simpa using List.all_eq_true.1 this t ht
  exact linesTable_contract H enc W base args ds gs before hval hW hL hs (upto_le linesTable_types (by decide) hk hts)
theorem linesTable_said : Rows.LinesTableUptoSaid :=
  OpenClaim.holds_of_cond 11 Tryz.f11 rfl rfl rfl rfl rfl rfl rfl ⟨rfl, rfl, rfl, rfl, rfl⟩ rfl rfl rfl rfl rfl (by kernel_rfl) Tryz.func11 (by kernel_rfl)
    (of_decide_eq_true (by kernel_rfl)) (by unfold Func.isWrapper; first | (rw [if_pos (by decide +kernel)]; kernel_rfl) | (rw [if_neg (by decide +kernel)]; exact ⟨rfl, rfl⟩))
    (fun os started H enc _ F => by rw [OpenClaim.pre_eq_preRow]; exact linesTable_lifted os started H enc F)
theorem linesTable_plain (f : FuncId) (fn : Func) (hf : Tryz.pinned.checked.prog.funcNamed "terrier/terrierlaw08.LinesTable" = some f) (hfn : Tryz.pinned.checked.prog.funcs[f]? = some fn) :
    true = Tryz.pinned.checked.prog.looks [] ∧ ∀ (j : Nat) t, fn.params[j]? = some t → Tryz.pinned.checked.prog.wantsStandIn t = false := by
  obtain rfl : f = 11 := Option.some.inj ((show Tryz.prog.funcNamed "terrier/terrierlaw08.LinesTable" = some 11 by kernel_rfl).symm.trans hf) |>.symm
  obtain rfl : fn = Tryz.f11 := (Option.some.inj (Tryz.func11.symm.trans hfn)).symm
  refine ⟨by kernel_rfl, fun j t ht => ?_⟩
  have hall : (Tryz.f11.params.toList.all fun t => !(Tryz.prog.wantsStandIn t)) = true := by kernel_rfl
  have hm : t ∈ Tryz.f11.params.toList := by rw [← Array.getElem?_toList] at ht; exact List.mem_of_getElem? ht
  have := List.all_eq_true.1 hall t hm
  show Tryz.prog.wantsStandIn t = false
  simpa using this
end Go.Tr
namespace Go.Proofs.YtfaaeeabiikhbaaGreatDoor
open Go.Tr
theorem linesTable_proved : Rows.LinesTableUptoCardSaid :=
  Claim7.holds_tied_plain_at .later [] _ _ _ _ linesTable_said (fun _ h => by cases h) (by kernel_rfl) (fun _ h => by cases h) linesTableUpto_row_tie rfl ⟨rfl, rfl⟩ (by kernel_rfl) rfl linesTable_plain (by kernel_rfl)
end Go.Proofs.YtfaaeeabiikhbaaGreatDoor
