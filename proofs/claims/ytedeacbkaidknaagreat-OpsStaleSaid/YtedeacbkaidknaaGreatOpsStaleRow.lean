/- The row of OpsStale: the printed function answers true, so the Go function does, wherever it is called. Conditions: none. -/
import Derived.Test.YtedeacbkaidknaaGreatOpsP
import Derived.Test.YtedeacbkaidknaaGreatOpsSt
import Derived.Test.YtedeacbkaidknaaGreatTrW
import Derived.Test.YtedeacbkaidknaaGreatRows
namespace Go.Tr
open Go Go.Proofs
set_option maxRecDepth 100000
set_option linter.unusedVariables false
set_option maxHeartbeats 0
theorem opsStale_own : ownKnob Tryz.prog.godebug = none := by kernel_rfl
theorem opsStale_laid : laidOutB Tryz.prog = true := by kernel_rfl
open YtedeacbkaidknaaGreat in
open Go.ChangeShapes Go.WideShapes Go.ChangeAt Go.RowKit in
theorem opsStale_lifted (os : Os) (started : os.Started) (H : Type) (enc : TypeId × Value → H) :
    ReturnsInHanded {} Tryz.checked os 8 .any (Rows.opsStaleSpec.pre6 enc Tryz.prog Tryz.f8 Rows.opsStaleRow.domain false) (Rows.opsStaleSpec.post enc Tryz.prog Tryz.f8 false true false false) := by
  refine returnsInHanded_of_change_sized (C := Tryz.checked) opsStale_own started (by kernel_rfl) Tryz.func8
    (ChangeSpec.witness6 (enc := enc) (C := Tryz.checked) false ⟨#[], #[.agg #[.int .u8 0, .int .u8 0, .int .u8 0, .int .u8 0, .int .u8 0, .int .u8 0, .int .u8 0, .int .u8 0, .int .u8 0], .int .u8 0, .bool false], []⟩ 8 (by kernel_rfl) (by kernel_rfl) (by kernel_rfl) (by kernel_rfl)) ?_
  intro W base args ds gs before hval hW _ hz _
  have hW' := hW
  obtain ⟨p, q, hA0, _, _, _, _⟩ := hW'
  have hA : DataW.TrodAll enc Tryz.prog W 0 (fun _ => true) true Tryz.f8.params.toList args.toList ds p := hA0
  rw [Tryz.params8] at hA
  obtain ⟨v0, vs0, d0, ds0, p0, q0, _, rfl, _, _, r0⟩ := trodAll_cons hA
  obtain ⟨v1, vs1, d1, ds1, p1, q1, _, rfl, _, _, r1⟩ := trodAll_cons r0
  obtain ⟨v2, vs2, d2, ds2, p2, q2, _, rfl, _, _, r2⟩ := trodAll_cons r1
  obtain ⟨_, rfl, _⟩ := trodAll_nil r2
  exact law_post (M := 140737488351232) (P := Tryz.prog) (fn := Tryz.f8) (s := Rows.opsStaleSpec) (l := [(true, (.pair (.int .u8) (.pair (.int .u8) (.pair (.int .u8) (.pair (.int .u8) (.pair (.int .u8) (.pair (.int .u8) (.pair (.int .u8) (.pair (.int .u8) (.int .u8)))))))))), (false, (.int .u8)), (false, .bool)]) (tb := 4) opsStale_laid (by kernel_rfl) rfl (by kernel_rfl) Tryz.underlying4
    (fun x hx => FnX.ok ok_terrierlaw18_OpsStale rfl rfl (x := x) (y := (true, ())) (opsStale_law (c9_wf hx.1) (u8b_wf hx.2.1) x.2.2.1)) trivial ⟨rfl, rfl, rfl⟩ hval hW (reach_le rfl hW hz)
theorem opsStale_over : YtedeacbkaidknaaGreat.Rows.OpsStaleSaid :=
  OpenClaim.holds_of_wide 8 Tryz.f8 rfl rfl rfl rfl rfl rfl rfl ⟨rfl, rfl, rfl, rfl, rfl⟩ rfl rfl rfl rfl rfl (by kernel_rfl) Tryz.func8 (by kernel_rfl)
    (of_decide_eq_true (by kernel_rfl)) (by unfold Func.isWrapper; first | (rw [if_pos (by decide +kernel)]; kernel_rfl) | (rw [if_neg (by decide +kernel)]; exact ⟨rfl, rfl⟩))
    (fun os started H enc _ => opsStale_lifted os started H enc)
end Go.Tr
namespace Go.Proofs.YtedeacbkaidknaaGreat
theorem opsStale_proved : Rows.OpsStaleSaid := Go.Tr.opsStale_over
end Go.Proofs.YtedeacbkaidknaaGreat
