/- The row of DaemonDo: the printed function answers true, so the Go function does, wherever it is called. Conditions: none. -/
import Derived.Test.YtploofmfghjijaaGreatDaeP
import Derived.Test.YtploofmfghjijaaGreatDaeWk
import Derived.Test.YtploofmfghjijaaGreatTrW
import Derived.Test.YtploofmfghjijaaGreatRows
namespace Go.Tr
open Go Go.Proofs
set_option maxRecDepth 100000
set_option linter.unusedVariables false
set_option maxHeartbeats 0
theorem daemonDo_own : ownKnob Tryz.prog.godebug = none := by kernel_rfl
theorem daemonDo_laid : laidOutB Tryz.prog = true := by kernel_rfl
open YtploofmfghjijaaGreat in
open Go.ChangeShapes Go.WideShapes Go.ChangeAt Go.RowKit in
theorem daemonDo_lifted (os : Os) (started : os.Started) (H : Type) (enc : TypeId × Value → H) :
    ReturnsInHanded {} Tryz.checked os 6 .any (Rows.daemonDoSpec.pre6 enc Tryz.prog Tryz.f6 Rows.daemonDoRow.domain false) (Rows.daemonDoSpec.post enc Tryz.prog Tryz.f6 false true false false) := by
  refine returnsInHanded_of_change_sized (C := Tryz.checked) daemonDo_own started (by kernel_rfl) Tryz.func6
    (ChangeSpec.witness6 (enc := enc) (C := Tryz.checked) false ⟨#[], #[.agg #[.int .u8 0, .int .u8 0, .int .u8 0, .int .u8 0, .int .u8 0, .int .u8 0, .int .u8 0, .int .u8 0, .int .u8 0], .slice none 0 0, .int .u8 0], []⟩ 8 (by kernel_rfl) (by kernel_rfl) (by kernel_rfl) (by kernel_rfl)) ?_
  intro W base args ds gs before hval hW _ hz _
  have hW' := hW
  obtain ⟨p, q, hA0, _, _, _, _⟩ := hW'
  have hA : DataW.TrodAll enc Tryz.prog W 0 (fun _ => true) true Tryz.f6.params.toList args.toList ds p := hA0
  rw [Tryz.params6] at hA
  obtain ⟨v0, vs0, d0, ds0, p0, q0, _, rfl, _, _, r0⟩ := trodAll_cons hA
  obtain ⟨v1, vs1, d1, ds1, p1, q1, _, rfl, _, _, r1⟩ := trodAll_cons r0
  obtain ⟨v2, vs2, d2, ds2, p2, q2, _, rfl, _, _, r2⟩ := trodAll_cons r1
  obtain ⟨_, rfl, _⟩ := trodAll_nil r2
  exact law_post (M := 140737488351232) (P := Tryz.prog) (fn := Tryz.f6) (s := Rows.daemonDoSpec) (l := [(true, (.pair (.int .u8) (.pair (.int .u8) (.pair (.int .u8) (.pair (.int .u8) (.pair (.int .u8) (.pair (.int .u8) (.pair (.int .u8) (.pair (.int .u8) (.int .u8)))))))))), (false, (.sl (.pair (.int .u8) (.pair (.int .u8) (.pair (.int .u8) (.pair (.int .u8) (.pair (.int .u8) (.int .u8)))))))), (false, (.int .u8))]) (tb := 4) daemonDo_laid (by kernel_rfl) rfl (by kernel_rfl) Tryz.underlying4
    (fun x hx => FnX.ok ok_terrierlaw20_DaemonDo rfl rfl (x := x) (y := (true, ())) (daemonDo_law (c9_wf hx.1) (acts6_wf hx.2.1) (u8b_wf hx.2.2.1))) trivial ⟨rfl, rfl, rfl⟩ hval hW (reach_le rfl hW hz)
theorem daemonDo_over : YtploofmfghjijaaGreat.Rows.DaemonDoSaid :=
  OpenClaim.holds_of_wide 6 Tryz.f6 rfl rfl rfl rfl rfl rfl rfl ⟨rfl, rfl, rfl, rfl, rfl⟩ rfl rfl rfl rfl rfl (by kernel_rfl) Tryz.func6 (by kernel_rfl)
    (of_decide_eq_true (by kernel_rfl)) (by unfold Func.isWrapper; first | (rw [if_pos (by decide +kernel)]; kernel_rfl) | (rw [if_neg (by decide +kernel)]; exact ⟨rfl, rfl⟩))
    (fun os started H enc _ => daemonDo_lifted os started H enc)
end Go.Tr
namespace Go.Proofs.YtploofmfghjijaaGreat
theorem daemonDo_proved : Rows.DaemonDoSaid := Go.Tr.daemonDo_over
end Go.Proofs.YtploofmfghjijaaGreat
