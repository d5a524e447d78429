/- The row of SweepOnce: the printed function answers true, so the Go function does, wherever it is called. Conditions: none. -/
import Derived.Test.YtdbpknejbpiebaaSwoP
import Derived.Test.YtdbpknejbpiebaaSwoW
import Derived.Test.YtdbpknejbpiebaaTrW
import Derived.Test.YtdbpknejbpiebaaRows
namespace Go.Tr
open Go Go.Proofs
set_option maxRecDepth 100000
set_option linter.unusedVariables false
set_option maxHeartbeats 0
theorem sweepOnce_own : ownKnob Try.prog.godebug = none := by kernel_rfl
theorem sweepOnce_laid : laidOutB Try.prog = true := by kernel_rfl
open Ytdbpknejbpiebaa in
open Go.ChangeShapes Go.WideShapes Go.ChangeAt Go.RowKit in
theorem sweepOnce_lifted (os : Os) (started : os.Started) (H : Type) (enc : TypeId × Value → H) :
    ReturnsInHanded {} Try.checked os 5 .any (Rows.sweepOnceSpec.pre6 enc Try.prog Try.f5 Rows.sweepOnceRow.domain false) (Rows.sweepOnceSpec.post enc Try.prog Try.f5 false true false false) := by
  refine returnsInHanded_of_change_sized (C := Try.checked) sweepOnce_own started (by kernel_rfl) Try.func5
    (ChangeSpec.witness6 (enc := enc) (C := Try.checked) false ⟨#[], #[.agg #[.int .u8 0, .int .u8 0, .int .u8 0, .int .u8 0, .int .u8 0, .int .u8 0, .int .u8 0, .int .u8 0, .int .u8 0], .slice none 0 0, .int .u8 0], []⟩ 8 (by kernel_rfl) (by kernel_rfl) (by kernel_rfl) (by kernel_rfl)) ?_
  intro W base args ds gs before hval hW _ hz _
  have hW' := hW
  obtain ⟨p, q, hA0, _, _, _, _⟩ := hW'
  have hA : DataW.TrodAll enc Try.prog W 0 (fun _ => true) true Try.f5.params.toList args.toList ds p := hA0
  rw [Try.params5] at hA
  obtain ⟨v0, vs0, d0, ds0, p0, q0, _, rfl, _, _, r0⟩ := trodAll_cons hA
  obtain ⟨v1, vs1, d1, ds1, p1, q1, _, rfl, _, _, r1⟩ := trodAll_cons r0
  obtain ⟨v2, vs2, d2, ds2, p2, q2, _, rfl, _, _, r2⟩ := trodAll_cons r1
  obtain ⟨_, rfl, _⟩ := trodAll_nil r2
  exact law_post (M := 140737488351232) (P := Try.prog) (fn := Try.f5) (s := Rows.sweepOnceSpec) (l := [(true, (.pair (.int .u8) (.pair (.int .u8) (.pair (.int .u8) (.pair (.int .u8) (.pair (.int .u8) (.pair (.int .u8) (.pair (.int .u8) (.pair (.int .u8) (.int .u8)))))))))), (false, (.sl (.pair (.int .u8) (.pair (.int .u16) (.int .u8))))), (false, (.int .u8))]) (tb := 4) sweepOnce_laid (by kernel_rfl) rfl (by kernel_rfl) Try.underlying4
    (fun x hx => FnX.ok ok_terrierlaw14_SweepOnce rfl rfl (x := x) (y := (true, ())) (sweepOnce_law (b8_wf hx.2.2.1))) trivial ⟨rfl, rfl, rfl⟩ hval hW (reach_le rfl hW hz)
theorem sweepOnce_over : Ytdbpknejbpiebaa.Rows.SweepOnceSaid :=
  OpenClaim.holds_of_wide 5 Try.f5 rfl rfl rfl rfl rfl rfl rfl ⟨rfl, rfl, rfl, rfl, rfl⟩ rfl rfl rfl rfl rfl (by kernel_rfl) Try.func5 (by kernel_rfl)
    (of_decide_eq_true (by kernel_rfl)) (by unfold Func.isWrapper; first | (rw [if_pos (by decide +kernel)]; kernel_rfl) | (rw [if_neg (by decide +kernel)]; exact ⟨rfl, rfl⟩))
    (fun os started H enc _ => sweepOnce_lifted os started H enc)
end Go.Tr
namespace Go.Proofs.Ytdbpknejbpiebaa
theorem sweepOnce_proved : Rows.SweepOnceSaid := Go.Tr.sweepOnce_over
end Go.Proofs.Ytdbpknejbpiebaa
