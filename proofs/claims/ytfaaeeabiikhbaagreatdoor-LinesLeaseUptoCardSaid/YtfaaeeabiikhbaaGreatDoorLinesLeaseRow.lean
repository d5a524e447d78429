/- The row of LinesLease, its second form, and its card: the printed function answers true, so the Go function does, wherever it is called. Conditions: none. -/
import Derived.Test.YtfaaeeabiikhbaaGreatDoorLinP
import Derived.Test.YtfaaeeabiikhbaaGreatDoorLinW
import Derived.Test.YtfaaeeabiikhbaaGreatDoorTrW
import Derived.Test.YtfaaeeabiikhbaaGreatDoorBF
import Derived.Test.YtfaaeeabiikhbaaGreatDoorLinR
import Derived.Test.YtfaaeeabiikhbaaGreatDoorLinB
import Derived.Deep.DeepWitnessRowRef
import Derived.Test.YtfaaeeabiikhbaaGreatDoorCards
import Derived.Test.YtfaaeeabiikhbaaGreatDoorTie
namespace Go.Tr
open Go Go.Proofs Go.Proofs.YtfaaeeabiikhbaaGreatDoor
set_option maxRecDepth 100000
set_option linter.unusedVariables false
set_option maxHeartbeats 0
theorem linesLease_own : ownKnob Tryz.prog.godebug = none := by kernel_rfl
theorem linesLease_laid : laidOutB Tryz.prog = true := by kernel_rfl
theorem linesLease_types : typesIn Tryz.prog 256 = true := by kernel_rfl
theorem linesLease_tabs {W : World} (h : laidMetH Tryz.prog Rows.linesLeaseUptoRow.laid W) (hs : W.ShapedOpen Tryz.prog) : Tabs.G Tryz.prog W (fun b => b < W.heap.size) := tabs_of h hs
noncomputable def linesLease_X {H : Type} (enc : TypeId × Value → H) (os : Os) : List (DataW H) × List (DataW H) × List MemPlace :=
  (DataW.whole enc Tryz.prog ((wit os).forCall (fun _ _ => 0) ⟨#[], #[.agg #[.int .u32 0, .int .u8 0, .int .u8 0, .int .u8 0, .int .u8 0, .int .u8 0, .int .u8 0, .int .u8 0, .int .i64 0, .int .u8 0, .string ⟨#[]⟩], .string ⟨#[]⟩], []⟩).memory Tryz.f9.params.toList Rows.linesLeaseSpec.vars false (#[.agg #[.int .u32 0, .int .u8 0, .int .u8 0, .int .u8 0, .int .u8 0, .int .u8 0, .int .u8 0, .int .u8 0, .int .i64 0, .int .u8 0, .string ⟨#[]⟩], .string ⟨#[]⟩] : Array Value).toList 8).getD ([], [], [])
open Go.ChangeShapes Go.WideShapes Go.ChangeAt Go.RowKit in
theorem linesLease_contract (H : Type) (enc : TypeId × Value → H) (W : World) (base : Nat) (args : Array Value) (ds gs : List (DataW H)) (before : List MemPlace)
    (hval : ∀ (j : Nat) t v, Tryz.f9.params[j]? = some t → args[j]? = some v → Value.okWide Tryz.prog W .any base t v)
    (hW : DataW.Whole enc Tryz.prog Tryz.f9.params.toList Rows.linesLeaseSpec.vars false W args.toList ds gs before) (hL : laidMetH Tryz.prog Rows.linesLeaseUptoRow.laid W) (hs : W.ShapedOpen Tryz.prog)
    (hz : ∀ m ∈ DataW.weightsEach Tryz.prog Tryz.f9.params.toList ds, m ≤ 268435456) :
    Calls Tryz.prog 9 args W fun e W' => ∃ v, e = .returned v ∧ Rows.linesLeaseSpec.post enc Tryz.prog Tryz.f9 false true false false W args v W' := by
  have hW' := hW
  obtain ⟨p, q, hA0, _, _, _, _⟩ := hW'
  have hA : DataW.TrodAll enc Tryz.prog W 0 (fun _ => true) true Tryz.f9.params.toList args.toList ds p := hA0
  rw [Tryz.params9] at hA
  obtain ⟨v0, vs0, d0, ds0, p0, q0, _, rfl, _, _, r0⟩ := trodAll_cons hA
  obtain ⟨v1, vs1, d1, ds1, p1, q1, _, rfl, _, _, r1⟩ := trodAll_cons r0
  obtain ⟨_, rfl, _⟩ := trodAll_nil r1
  exact law_post (M := 268435456) (P := Tryz.prog) (fn := Tryz.f9) (s := Rows.linesLeaseSpec) (l := [(true, (.pair (.int .u32) (.pair (.pair (.int .u8) (.pair (.int .u8) (.pair (.int .u8) (.pair (.int .u8) (.pair (.int .u8) (.int .u8)))))) (.pair (.int .u8) (.pair (.int .i64) (.pair (.int .u8) .str)))))), (false, .str)]) (tb := 4) linesLease_laid (by kernel_rfl) rfl (by kernel_rfl) Tryz.underlying4
    (fun x hx => FnX.ok ok_terrierlaw08_LinesLease rfl rfl (x := x) (y := (true, ())) (linesLease_law (words_wf hx.1) (str_wf' hx.2.1))) (linesLease_tabs hL hs) ⟨rfl, rfl, rfl⟩ hval hW hz
open Go.ChangeShapes Go.WideShapes Go.ChangeAt Go.RowKit in
theorem linesLease_lifted (os : Os) (started : os.Started) (H : Type) (enc : TypeId × Value → H) (F : Stop.Interp) :
    ReturnsInHanded {} Tryz.checked os 9 .any ((Rows.OpenSpec.upto Rows.linesLeaseSpec).preRow enc Tryz.prog Tryz.f9 Rows.linesLeaseUptoRow.domain false Rows.linesLeaseUptoRow.laid) (((Rows.OpenSpec.upto Rows.linesLeaseSpec).at F).post enc Tryz.prog Tryz.f9 false true false false) := by
  refine returnsInHanded_of_row (C := Tryz.checked) (s := (Rows.OpenSpec.upto Rows.linesLeaseSpec)) linesLease_own started (by kernel_rfl) Tryz.func9
    (witness_row_atRef (enc := enc) (C := Tryz.checked) false (wit os) #[.agg #[.int .u32 0, .int .u8 0, .int .u8 0, .int .u8 0, .int .u8 0, .int .u8 0, .int .u8 0, .int .u8 0, .int .i64 0, .int .u8 0, .string ⟨#[]⟩], .string ⟨#[]⟩] rfl (by kernel_rfl) (by kernel_rfl) (by kernel_rfl)
      (OpenSpec.preRow_of_cond 8 (x := linesLease_X enc os) (by kernel_rfl) (by kernel_rfl) (fun k hk => by cases hk; kernel_rfl) (by kernel_rfl) (wit_metH os _))) ?_
  intro W base args ds gs before hval hW _ hcond hz hL hs _
  have hk : Rows.uptoSmall H (ds ++ gs) = true := hcond _ rfl
  have hts : ∀ t ∈ Tryz.f9.params.toList, t < Tryz.prog.types.size := by
    have : (Tryz.f9.params.toList.all fun t => Nat.blt t Tryz.prog.types.size) = true := by kernel_rfl
    intro t ht
    simpa using List.all_eq_true.1 this t ht
  exact linesLease_contract H enc W base args ds gs before hval hW hL hs (upto_le linesLease_types (by decide) hk hts)
theorem linesLease_said : Rows.LinesLeaseUptoSaid :=
  OpenClaim.holds_of_cond 9 Tryz.f9 rfl rfl rfl rfl rfl rfl rfl ⟨rfl, rfl, rfl, rfl, rfl⟩ rfl rfl rfl rfl rfl (by kernel_rfl) Tryz.func9 (by kernel_rfl)
    (of_decide_eq_true (by kernel_rfl)) (by unfold Func.isWrapper; first | (rw [if_pos (by decide +kernel)]; kernel_rfl) | (rw [if_neg (by decide +kernel)]; exact ⟨rfl, rfl⟩))
    (fun os started H enc _ F => by rw [OpenClaim.pre_eq_preRow]; exact linesLease_lifted os started H enc F)
theorem linesLease_plain (f : FuncId) (fn : Func) (hf : Tryz.pinned.checked.prog.funcNamed "terrier/terrierlaw08.LinesLease" = some f) (hfn : Tryz.pinned.checked.prog.funcs[f]? = some fn) :
    true = Tryz.pinned.checked.prog.looks [] ∧ ∀ (j : Nat) t, fn.params[j]? = some t → Tryz.pinned.checked.prog.wantsStandIn t = false := by
  obtain rfl : f = 9 := Option.some.inj ((show Tryz.prog.funcNamed "terrier/terrierlaw08.LinesLease" = some 9 by kernel_rfl).symm.trans hf) |>.symm
  obtain rfl : fn = Tryz.f9 := (Option.some.inj (Tryz.func9.symm.trans hfn)).symm
  refine ⟨by kernel_rfl, fun j t ht => ?_⟩
  have hall : (Tryz.f9.params.toList.all fun t => !(Tryz.prog.wantsStandIn t)) = true := by kernel_rfl
  have hm : t ∈ Tryz.f9.params.toList := by rw [← Array.getElem?_toList] at ht; exact List.mem_of_getElem? ht
  have := List.all_eq_true.1 hall t hm
  show Tryz.prog.wantsStandIn t = false
  simpa using this
end Go.Tr
namespace Go.Proofs.YtfaaeeabiikhbaaGreatDoor
open Go.Tr
theorem linesLease_proved : Rows.LinesLeaseUptoCardSaid :=
  Claim7.holds_tied_plain_at .later [] _ _ _ _ linesLease_said (fun _ h => by cases h) (by kernel_rfl) (fun _ h => by cases h) linesLeaseUpto_row_tie rfl ⟨rfl, rfl⟩ (by kernel_rfl) rfl linesLease_plain (by kernel_rfl)
end Go.Proofs.YtfaaeeabiikhbaaGreatDoor
