/- The row of SweepRight: the printed function answers true, so the Go function does, wherever it is called. Conditions: none. -/
import Derived.Test.YtdbpknejbpiebaaSweepP
import Derived.Test.YtdbpknejbpiebaaSweepW
import Derived.Test.YtdbpknejbpiebaaTrW
import Derived.Test.YtdbpknejbpiebaaRows
namespace Go.Tr
open Go Go.Proofs
set_option maxRecDepth 100000
set_option linter.unusedVariables false
set_option maxHeartbeats 0
theorem sweepRight_own : ownKnob Try.prog.godebug = none := by kernel_rfl
theorem sweepRight_laid : laidOutB Try.prog = true := by kernel_rfl
open Ytdbpknejbpiebaa in
open Go.ChangeShapes Go.WideShapes Go.ChangeAt Go.RowKit in
theorem sweepRight_lifted (os : Os) (started : os.Started) (H : Type) (enc : TypeId × Value → H) :
    ReturnsInHanded {} Try.checked os 7 .any (Rows.sweepRightSpec.pre6 enc Try.prog Try.f7 Rows.sweepRightRow.domain false) (Rows.sweepRightSpec.post enc Try.prog Try.f7 false true false false) := by
  refine returnsInHanded_of_change_sized (C := Try.checked) sweepRight_own started (by kernel_rfl) Try.func7
    (ChangeSpec.witness6 (enc := enc) (C := Try.checked) false ⟨#[], #[.slice none 0 0, .agg #[.int .u8 0, .int .u8 0, .int .u8 0, .int .u8 0, .int .u8 0, .int .u8 0, .int .u8 0, .int .u8 0, .int .u8 0], .slice none 0 0, .int .u8 0, .agg #[.int .u32 0, .int .i64 0, .int .i64 0, .int .i64 0]], []⟩ 8 (by kernel_rfl) (by kernel_rfl) (by kernel_rfl) (by kernel_rfl)) ?_
  intro W base args ds gs before hval hW _ hz _
  have hW' := hW
  obtain ⟨p, q, hA0, _, _, _, _⟩ := hW'
  have hA : DataW.TrodAll enc Try.prog W 0 (fun _ => true) true Try.f7.params.toList args.toList ds p := hA0
  rw [Try.params7] at hA
  obtain ⟨v0, vs0, d0, ds0, p0, q0, _, rfl, _, _, r0⟩ := trodAll_cons hA
  obtain ⟨v1, vs1, d1, ds1, p1, q1, _, rfl, _, _, r1⟩ := trodAll_cons r0
  obtain ⟨v2, vs2, d2, ds2, p2, q2, _, rfl, _, _, r2⟩ := trodAll_cons r1
  obtain ⟨v3, vs3, d3, ds3, p3, q3, _, rfl, _, _, r3⟩ := trodAll_cons r2
  obtain ⟨v4, vs4, d4, ds4, p4, q4, _, rfl, _, _, r4⟩ := trodAll_cons r3
  obtain ⟨_, rfl, _⟩ := trodAll_nil r4
  exact law_post (M := 140737488351232) (P := Try.prog) (fn := Try.f7) (s := Rows.sweepRightSpec) (l := [(false, (.sl (.pair (.pair (.int .u32) (.int .i64)) (.pair (.int .i64) (.int .i64))))), (true, (.pair (.int .u8) (.pair (.int .u8) (.pair (.int .u8) (.pair (.int .u8) (.pair (.int .u8) (.pair (.int .u8) (.pair (.int .u8) (.pair (.int .u8) (.int .u8)))))))))), (false, (.sl (.pair (.int .u8) (.pair (.int .u16) (.int .u8))))), (false, (.int .u8)), (true, (.pair (.pair (.int .u32) (.int .i64)) (.pair (.int .i64) (.int .i64))))]) (tb := 4) sweepRight_laid (by kernel_rfl) rfl (by kernel_rfl) Try.underlying4
    (fun x hx => FnX.ok ok_terrierlaw14_SweepRight rfl rfl (x := x) (y := (true, ())) (sweepRight_law (raws_wf (by decide) hx.1).1 (raws_wf (by decide) hx.1).2 (u32_wf hx.2.2.2.2.1.1.1) (by_wf hx.2.2.2.1))) trivial ⟨rfl, rfl, rfl⟩ hval hW (reach_le rfl hW hz)
theorem sweepRight_over : Ytdbpknejbpiebaa.Rows.SweepRightSaid :=
  OpenClaim.holds_of_wide 7 Try.f7 rfl rfl rfl rfl rfl rfl rfl ⟨rfl, rfl, rfl, rfl, rfl⟩ rfl rfl rfl rfl rfl (by kernel_rfl) Try.func7 (by kernel_rfl)
    (of_decide_eq_true (by kernel_rfl)) (by unfold Func.isWrapper; first | (rw [if_pos (by decide +kernel)]; kernel_rfl) | (rw [if_neg (by decide +kernel)]; exact ⟨rfl, rfl⟩))
    (fun os started H enc _ => sweepRight_lifted os started H enc)
end Go.Tr
namespace Go.Proofs.Ytdbpknejbpiebaa
theorem sweepRight_proved : Rows.SweepRightSaid := Go.Tr.sweepRight_over
end Go.Proofs.Ytdbpknejbpiebaa
