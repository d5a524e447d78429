/- The row of MacKinds: the printed function answers true, so the Go function does, wherever it is called. Conditions: none. -/
import Derived.Test.YthbkpjlimmckaaaMacP
import Derived.Test.YthbkpjlimmckaaaMacW
import Derived.Test.YthbkpjlimmckaaaTrW
import Derived.Test.YthbkpjlimmckaaaRows
namespace Go.Tr
open Go Go.Proofs
set_option maxRecDepth 100000
set_option linter.unusedVariables false
set_option maxHeartbeats 0
theorem macKinds_own : ownKnob Try.prog.godebug = none := by kernel_rfl
theorem macKinds_laid : laidOutB Try.prog = true := by kernel_rfl
open Ythbkpjlimmckaaa in
open Go.ChangeShapes Go.WideShapes Go.ChangeAt Go.RowKit in
theorem macKinds_lifted (os : Os) (started : os.Started) (H : Type) (enc : TypeId × Value → H) :
    ReturnsInHanded {} Try.checked os 5 .any (Rows.macKindsSpec.pre6 enc Try.prog Try.f5 Rows.macKindsRow.domain false) (Rows.macKindsSpec.post enc Try.prog Try.f5 false true false false) := by
  refine returnsInHanded_of_change_sized (C := Try.checked) macKinds_own started (by kernel_rfl) Try.func5
    (ChangeSpec.witness6 (enc := enc) (C := Try.checked) false ⟨#[], #[.agg #[.int .u8 0, .int .u8 0, .int .u8 0, .int .u8 0, .int .u8 0, .int .u8 0]], []⟩ 8 (by kernel_rfl) (by kernel_rfl) (by kernel_rfl) (by kernel_rfl)) ?_
  intro W base args ds gs before hval hW _ hz _
  have hW' := hW
  obtain ⟨p, q, hA0, _, _, _, _⟩ := hW'
  have hA : DataW.TrodAll enc Try.prog W 0 (fun _ => true) true Try.f5.params.toList args.toList ds p := hA0
  rw [Try.params5] at hA
  obtain ⟨v0, vs0, d0, ds0, p0, q0, _, rfl, _, _, r0⟩ := trodAll_cons hA
  obtain ⟨_, rfl, _⟩ := trodAll_nil r0
  exact law_post (M := 140737488351232) (P := Try.prog) (fn := Try.f5) (s := Rows.macKindsSpec) (l := [(true, (.pair (.int .u8) (.pair (.int .u8) (.pair (.int .u8) (.pair (.int .u8) (.pair (.int .u8) (.int .u8)))))))]) (tb := 4) macKinds_laid (by kernel_rfl) rfl (by kernel_rfl) Try.underlying4
    (fun x hx => FnX.ok ok_terrierlaw02_MacKinds rfl rfl (x := x) (y := (true, ())) (macKinds_law (m6_wf hx.1))) trivial ⟨rfl, rfl, rfl⟩ hval hW (reach_le rfl hW hz)
theorem macKinds_over : Ythbkpjlimmckaaa.Rows.MacKindsSaid :=
  OpenClaim.holds_of_wide 5 Try.f5 rfl rfl rfl rfl rfl rfl rfl ⟨rfl, rfl, rfl, rfl, rfl⟩ rfl rfl rfl rfl rfl (by kernel_rfl) Try.func5 (by kernel_rfl)
    (of_decide_eq_true (by kernel_rfl)) (by unfold Func.isWrapper; first | (rw [if_pos (by decide +kernel)]; kernel_rfl) | (rw [if_neg (by decide +kernel)]; exact ⟨rfl, rfl⟩))
    (fun os started H enc _ => macKinds_lifted os started H enc)
end Go.Tr
namespace Go.Proofs.Ythbkpjlimmckaaa
theorem macKinds_proved : Rows.MacKindsSaid := Go.Tr.macKinds_over
end Go.Proofs.Ythbkpjlimmckaaa
