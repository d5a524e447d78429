/- The row of DaemonRefused: the printed function answers true, so the Go function does, wherever it is called. Conditions: none. -/
import Derived.Test.YtploofmfghjijaaGreatDaeP
import Derived.Test.YtploofmfghjijaaGreatDaeWr
import Derived.Test.YtploofmfghjijaaGreatTrW
import Derived.Test.YtploofmfghjijaaGreatRows
namespace Go.Tr
open Go Go.Proofs
set_option maxRecDepth 100000
set_option linter.unusedVariables false
set_option maxHeartbeats 0
theorem daemonRefused_own : ownKnob Tryz.prog.godebug = none := by kernel_rfl
theorem daemonRefused_laid : laidOutB Tryz.prog = true := by kernel_rfl
open YtploofmfghjijaaGreat in
open Go.ChangeShapes Go.WideShapes Go.ChangeAt Go.RowKit in
theorem daemonRefused_lifted (os : Os) (started : os.Started) (H : Type) (enc : TypeId × Value → H) :
    ReturnsInHanded {} Tryz.checked os 5 .any (Rows.daemonRefusedSpec.pre6 enc Tryz.prog Tryz.f5 Rows.daemonRefusedRow.domain false) (Rows.daemonRefusedSpec.post enc Tryz.prog Tryz.f5 false true false false) := by
  refine returnsInHanded_of_change_sized (C := Tryz.checked) daemonRefused_own started (by kernel_rfl) Tryz.func5
    (ChangeSpec.witness6 (enc := enc) (C := Tryz.checked) false ⟨#[], #[.agg #[.int .u8 0, .int .u8 0, .int .u8 0, .int .u8 0, .int .u8 0, .int .u8 0, .int .u8 0, .int .u8 0, .int .u8 0], .slice none 0 0, .agg #[.int .i64 0, .int .u32 0, .string ⟨#[]⟩, .int .u8 0, .int .u8 0, .int .u8 0, .int .u8 0, .int .u8 0, .int .u8 0, .int .u32 0, .int .i64 0, .int .i64 0, .int .u8 0, .int .u8 0, .int .u8 0, .int .u8 0, .int .u8 0, .int .u8 0, .int .i64 0]], []⟩ 8 (by kernel_rfl) (by kernel_rfl) (by kernel_rfl) (by kernel_rfl)) ?_
  intro W base args ds gs before hval hW _ hz _
  have hW' := hW
  obtain ⟨p, q, hA0, _, _, _, _⟩ := hW'
  have hA : DataW.TrodAll enc Tryz.prog W 0 (fun _ => true) true Tryz.f5.params.toList args.toList ds p := hA0
  rw [Tryz.params5] at hA
  obtain ⟨v0, vs0, d0, ds0, p0, q0, _, rfl, _, _, r0⟩ := trodAll_cons hA
  obtain ⟨v1, vs1, d1, ds1, p1, q1, _, rfl, _, _, r1⟩ := trodAll_cons r0
  obtain ⟨v2, vs2, d2, ds2, p2, q2, _, rfl, _, _, r2⟩ := trodAll_cons r1
  obtain ⟨_, rfl, _⟩ := trodAll_nil r2
  exact law_post (M := 140737488351232) (P := Tryz.prog) (fn := Tryz.f5) (s := Rows.daemonRefusedSpec) (l := [(true, (.pair (.int .u8) (.pair (.int .u8) (.pair (.int .u8) (.pair (.int .u8) (.pair (.int .u8) (.pair (.int .u8) (.pair (.int .u8) (.pair (.int .u8) (.int .u8)))))))))), (false, (.sl (.pair (.int .u8) (.pair (.int .u8) (.pair (.int .u8) (.pair (.int .u8) (.pair (.int .u8) (.int .u8)))))))), (true, (.pair (.int .i64) (.pair (.pair (.int .u32) (.pair .str (.pair (.int .u8) (.pair (.int .u8) (.pair (.int .u8) (.pair (.int .u8) (.pair (.int .u8) (.int .u8)))))))) (.pair (.pair (.int .u32) (.int .i64)) (.pair (.int .i64) (.pair (.pair (.int .u8) (.pair (.int .u8) (.pair (.int .u8) (.pair (.int .u8) (.pair (.int .u8) (.int .u8)))))) (.int .i64)))))))]) (tb := 4) daemonRefused_laid (by kernel_rfl) rfl (by kernel_rfl) Tryz.underlying4
    (fun x hx => FnX.ok ok_terrierlaw20_DaemonRefused rfl rfl (x := x) (y := (true, ())) (daemonRefused_law (c9_wf hx.1) (acts6_wf hx.2.1) (u32_wf hx.2.2.1.2.1.1) (m6_wf hx.2.2.1.2.1.2.2) (u32_wf hx.2.2.1.2.2.1.1) (m6_wf hx.2.2.1.2.2.2.2.1) (i64_wf hx.2.2.1.1) (by have := str_wf hx.2.2.1.2.1.2.1; omega))) trivial ⟨rfl, rfl, rfl⟩ hval hW (reach_le rfl hW hz)
theorem daemonRefused_over : YtploofmfghjijaaGreat.Rows.DaemonRefusedSaid :=
  OpenClaim.holds_of_wide 5 Tryz.f5 rfl rfl rfl rfl rfl rfl rfl ⟨rfl, rfl, rfl, rfl, rfl⟩ rfl rfl rfl rfl rfl (by kernel_rfl) Tryz.func5 (by kernel_rfl)
    (of_decide_eq_true (by kernel_rfl)) (by unfold Func.isWrapper; first | (rw [if_pos (by decide +kernel)]; kernel_rfl) | (rw [if_neg (by decide +kernel)]; exact ⟨rfl, rfl⟩))
    (fun os started H enc _ => daemonRefused_lifted os started H enc)
end Go.Tr
namespace Go.Proofs.YtploofmfghjijaaGreat
theorem daemonRefused_proved : Rows.DaemonRefusedSaid := Go.Tr.daemonRefused_over
end Go.Proofs.YtploofmfghjijaaGreat
