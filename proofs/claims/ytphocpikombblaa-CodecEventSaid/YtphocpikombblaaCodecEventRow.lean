/- The row of CodecEvent: the printed function answers true, so the Go function does, wherever it is called. Conditions: none. -/
import Derived.Test.YtphocpikombblaaCodec1P
import Derived.Test.YtphocpikombblaaCodecW
import Derived.Test.YtphocpikombblaaTrW
import Derived.Test.YtphocpikombblaaRows
namespace Go.Tr
open Go Go.Proofs
set_option maxRecDepth 100000
set_option linter.unusedVariables false
set_option maxHeartbeats 0
theorem codecEvent_own : ownKnob Try.prog.godebug = none := by kernel_rfl
theorem codecEvent_laid : laidOutB Try.prog = true := by kernel_rfl
open Ytphocpikombblaa in
open Go.ChangeShapes Go.WideShapes Go.ChangeAt Go.RowKit in
theorem codecEvent_lifted (os : Os) (started : os.Started) (H : Type) (enc : TypeId × Value → H) :
    ReturnsInHanded {} Try.checked os 3 .any (Rows.codecEventSpec.pre6 enc Try.prog Try.f3 Rows.codecEventRow.domain false) (Rows.codecEventSpec.post enc Try.prog Try.f3 false true false false) := by
  refine returnsInHanded_of_change_sized (C := Try.checked) codecEvent_own started (by kernel_rfl) Try.func3
    (ChangeSpec.witness6 (enc := enc) (C := Try.checked) false ⟨#[], #[.agg #[.int .i64 0, .int .u32 0, .string ⟨#[]⟩, .int .u8 0, .int .u8 0, .int .u8 0, .int .u8 0, .int .u8 0, .int .u8 0, .int .u32 0, .int .i64 0, .int .i64 0, .int .u8 0, .int .u8 0, .int .u8 0, .int .u8 0, .int .u8 0, .int .u8 0, .int .i64 0]], []⟩ 8 (by kernel_rfl) (by kernel_rfl) (by kernel_rfl) (by kernel_rfl)) ?_
  intro W base args ds gs before hval hW _ hz _
  have hW' := hW
  obtain ⟨p, q, hA0, _, _, _, _⟩ := hW'
  have hA : DataW.TrodAll enc Try.prog W 0 (fun _ => true) true Try.f3.params.toList args.toList ds p := hA0
  rw [Try.params3] at hA
  obtain ⟨v0, vs0, d0, ds0, p0, q0, _, rfl, _, _, r0⟩ := trodAll_cons hA
  obtain ⟨_, rfl, _⟩ := trodAll_nil r0
  exact law_post (M := 140737488351232) (P := Try.prog) (fn := Try.f3) (s := Rows.codecEventSpec) (l := [(true, (.pair (.int .i64) (.pair (.pair (.int .u32) (.pair .str (.pair (.int .u8) (.pair (.int .u8) (.pair (.int .u8) (.pair (.int .u8) (.pair (.int .u8) (.int .u8)))))))) (.pair (.pair (.int .u32) (.int .i64)) (.pair (.int .i64) (.pair (.pair (.int .u8) (.pair (.int .u8) (.pair (.int .u8) (.pair (.int .u8) (.pair (.int .u8) (.int .u8)))))) (.int .i64)))))))]) (tb := 4) codecEvent_laid (by kernel_rfl) rfl (by kernel_rfl) Try.underlying4
    (fun x hx => FnX.ok ok_terrierlaw19_CodecEvent rfl rfl (x := x) (y := (true, ())) (codecEvent_law (u32_wf hx.1.2.1.1) (m6_wf hx.1.2.1.2.2) (u32_wf hx.1.2.2.1.1) (m6_wf hx.1.2.2.2.2.1) (i64_wf hx.1.1) (by have := str_wf hx.1.2.1.2.1; omega))) trivial ⟨rfl, rfl, rfl⟩ hval hW (reach_le rfl hW hz)
theorem codecEvent_over : Ytphocpikombblaa.Rows.CodecEventSaid :=
  OpenClaim.holds_of_wide 3 Try.f3 rfl rfl rfl rfl rfl rfl rfl ⟨rfl, rfl, rfl, rfl, rfl⟩ rfl rfl rfl rfl rfl (by kernel_rfl) Try.func3 (by kernel_rfl)
    (of_decide_eq_true (by kernel_rfl)) (by unfold Func.isWrapper; first | (rw [if_pos (by decide +kernel)]; kernel_rfl) | (rw [if_neg (by decide +kernel)]; exact ⟨rfl, rfl⟩))
    (fun os started H enc _ => codecEvent_lifted os started H enc)
end Go.Tr
namespace Go.Proofs.Ytphocpikombblaa
theorem codecEvent_proved : Rows.CodecEventSaid := Go.Tr.codecEvent_over
end Go.Proofs.Ytphocpikombblaa
