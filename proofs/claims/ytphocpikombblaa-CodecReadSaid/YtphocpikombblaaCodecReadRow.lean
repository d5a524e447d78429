/- The row of CodecRead: the printed function answers true, so the Go function does, wherever it is called. Conditions: none. -/
import Derived.Test.YtphocpikombblaaCodec4P
import Derived.Test.YtphocpikombblaaCodecW3
import Derived.Test.YtphocpikombblaaTrW
import Derived.Test.YtphocpikombblaaRows
namespace Go.Tr
open Go Go.Proofs
set_option maxRecDepth 100000
set_option linter.unusedVariables false
set_option maxHeartbeats 0
theorem codecRead_own : ownKnob Try.prog.godebug = none := by kernel_rfl
theorem codecRead_laid : laidOutB Try.prog = true := by kernel_rfl
open Ytphocpikombblaa in
open Go.ChangeShapes Go.WideShapes Go.ChangeAt Go.RowKit in
theorem codecRead_lifted (os : Os) (started : os.Started) (H : Type) (enc : TypeId × Value → H) :
    ReturnsInHanded {} Try.checked os 4 .any (Rows.codecReadSpec.pre6 enc Try.prog Try.f4 Rows.codecReadRow.domain false) (Rows.codecReadSpec.post enc Try.prog Try.f4 false true false false) := by
  refine returnsInHanded_of_change_sized (C := Try.checked) codecRead_own started (by kernel_rfl) Try.func4
    (ChangeSpec.witness6 (enc := enc) (C := Try.checked) false ⟨#[], #[.slice none 0 0, .slice none 0 0, .int .u8 0, .int .u8 0], []⟩ 8 (by kernel_rfl) (by kernel_rfl) (by kernel_rfl) (by kernel_rfl)) ?_
  intro W base args ds gs before hval hW _ hz _
  have hW' := hW
  obtain ⟨p, q, hA0, _, _, _, _⟩ := hW'
  have hA : DataW.TrodAll enc Try.prog W 0 (fun _ => true) true Try.f4.params.toList args.toList ds p := hA0
  rw [Try.params4] at hA
  obtain ⟨v0, vs0, d0, ds0, p0, q0, _, rfl, _, _, r0⟩ := trodAll_cons hA
  obtain ⟨v1, vs1, d1, ds1, p1, q1, _, rfl, _, _, r1⟩ := trodAll_cons r0
  obtain ⟨v2, vs2, d2, ds2, p2, q2, _, rfl, _, _, r2⟩ := trodAll_cons r1
  obtain ⟨v3, vs3, d3, ds3, p3, q3, _, rfl, _, _, r3⟩ := trodAll_cons r2
  obtain ⟨_, rfl, _⟩ := trodAll_nil r3
  exact law_post (M := 140737488351232) (P := Try.prog) (fn := Try.f4) (s := Rows.codecReadSpec) (l := [(false, (.sl (.int .u8))), (false, (.sl (.pair (.int .u8) (.pair (.int .u8) (.pair (.int .u8) (.pair (.int .u8) (.pair (.int .u8) (.int .u8)))))))), (false, (.int .u8)), (false, (.int .u8))]) (tb := 4) codecRead_laid (by kernel_rfl) rfl (by kernel_rfl) Try.underlying4
    (fun x hx => FnX.ok ok_terrierlaw19_CodecRead rfl rfl (x := x) (y := (true, ())) (codecRead_law (bys_wf hx.1) (acts6_wf hx.2.1) (u8b_wf hx.2.2.1) (u8b_wf hx.2.2.2.1))) trivial ⟨rfl, rfl, rfl⟩ hval hW (reach_le rfl hW hz)
theorem codecRead_over : Ytphocpikombblaa.Rows.CodecReadSaid :=
  OpenClaim.holds_of_wide 4 Try.f4 rfl rfl rfl rfl rfl rfl rfl ⟨rfl, rfl, rfl, rfl, rfl⟩ rfl rfl rfl rfl rfl (by kernel_rfl) Try.func4 (by kernel_rfl)
    (of_decide_eq_true (by kernel_rfl)) (by unfold Func.isWrapper; first | (rw [if_pos (by decide +kernel)]; kernel_rfl) | (rw [if_neg (by decide +kernel)]; exact ⟨rfl, rfl⟩))
    (fun os started H enc _ => codecRead_lifted os started H enc)
end Go.Tr
namespace Go.Proofs.Ytphocpikombblaa
theorem codecRead_proved : Rows.CodecReadSaid := Go.Tr.codecRead_over
end Go.Proofs.Ytphocpikombblaa
