/- The row of CodecRaw: the printed function answers true, so the Go function does, wherever it is called. Conditions: none. -/
import Derived.Test.YtphocpikombblaaCodec2P
import Derived.Test.YtphocpikombblaaCodecW2
import Derived.Test.YtphocpikombblaaTrW
import Derived.Test.YtphocpikombblaaRows
namespace Go.Tr
open Go Go.Proofs
set_option maxRecDepth 100000
set_option linter.unusedVariables false
set_option maxHeartbeats 0
theorem codecRaw_own : ownKnob Try.prog.godebug = none := by kernel_rfl
theorem codecRaw_laid : laidOutB Try.prog = true := by kernel_rfl
open Ytphocpikombblaa in
open Go.ChangeShapes Go.WideShapes Go.ChangeAt Go.RowKit in
theorem codecRaw_lifted (os : Os) (started : os.Started) (H : Type) (enc : TypeId × Value → H) :
    ReturnsInHanded {} Try.checked os 5 .any (Rows.codecRawSpec.pre6 enc Try.prog Try.f5 Rows.codecRawRow.domain false) (Rows.codecRawSpec.post enc Try.prog Try.f5 false true false false) := by
  refine returnsInHanded_of_change_sized (C := Try.checked) codecRaw_own started (by kernel_rfl) Try.func5
    (ChangeSpec.witness6 (enc := enc) (C := Try.checked) false ⟨#[], #[.agg #[.int .i64 0, .int .i64 0, .slice none 0 0, .slice none 0 0, .slice none 0 0, .slice none 0 0, .slice none 0 0]], []⟩ 8 (by kernel_rfl) (by kernel_rfl) (by kernel_rfl) (by kernel_rfl)) ?_
  intro W base args ds gs before hval hW _ hz _
  have hW' := hW
  obtain ⟨p, q, hA0, _, _, _, _⟩ := hW'
  have hA : DataW.TrodAll enc Try.prog W 0 (fun _ => true) true Try.f5.params.toList args.toList ds p := hA0
  rw [Try.params5] at hA
  obtain ⟨v0, vs0, d0, ds0, p0, q0, _, rfl, _, _, r0⟩ := trodAll_cons hA
  obtain ⟨_, rfl, _⟩ := trodAll_nil r0
  exact law_post (M := 140737488351232) (P := Try.prog) (fn := Try.f5) (s := Rows.codecRawSpec) (l := [(true, (.pair (.int .i64) (.pair (.int .i64) (.pair (.sl (.pair (.int .u32) (.pair .str (.pair (.int .u8) (.pair (.int .u8) (.pair (.int .u8) (.pair (.int .u8) (.pair (.int .u8) (.int .u8))))))))) (.pair (.sl (.pair (.pair (.int .u32) (.int .i64)) (.pair (.int .i64) (.int .i64)))) (.pair (.sl (.pair (.int .u32) (.sl (.pair (.int .i64) (.pair (.pair (.int .u8) (.pair (.int .u8) (.pair (.int .u8) (.pair (.int .u8) (.pair (.int .u8) (.int .u8)))))) (.int .i64)))))) (.pair (.sl (.pair (.int .u32) (.pair (.int .i64) (.pair (.int .i64) (.pair (.int .i64) (.int .i64)))))) (.sl (.pair (.int .u32) (.pair (.int .i64) (.pair (.int .i64) (.int .i64))))))))))))]) (tb := 4) codecRaw_laid (by kernel_rfl) rfl (by kernel_rfl) Try.underlying4
    (fun x hx => FnX.ok ok_terrierlaw19_CodecRaw rfl rfl (x := x) (y := (true, ())) (codecRaw_law (raw_wf (by decide) hx.1))) trivial ⟨rfl, rfl, rfl⟩ hval hW (reach_le rfl hW hz)
theorem codecRaw_over : Ytphocpikombblaa.Rows.CodecRawSaid :=
  OpenClaim.holds_of_wide 5 Try.f5 rfl rfl rfl rfl rfl rfl rfl ⟨rfl, rfl, rfl, rfl, rfl⟩ rfl rfl rfl rfl rfl (by kernel_rfl) Try.func5 (by kernel_rfl)
    (of_decide_eq_true (by kernel_rfl)) (by unfold Func.isWrapper; first | (rw [if_pos (by decide +kernel)]; kernel_rfl) | (rw [if_neg (by decide +kernel)]; exact ⟨rfl, rfl⟩))
    (fun os started H enc _ => codecRaw_lifted os started H enc)
end Go.Tr
namespace Go.Proofs.Ytphocpikombblaa
theorem codecRaw_proved : Rows.CodecRawSaid := Go.Tr.codecRaw_over
end Go.Proofs.Ytphocpikombblaa
