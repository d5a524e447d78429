/- A part of the proof: contracts of functions of this program, by the evaluator. Conditions: none. -/
import Derived.Test.YthbkpjlimmckaaaM8
import Derived.Test.YthbkpjlimmckaaaRows
namespace Go.Tr
open Go Go.Proofs
set_option maxRecDepth 4000
set_option linter.unusedSimpArgs false
set_option linter.unusedVariables false
set_option maxHeartbeats 0
theorem macKinds_ok (a b c d e f : Int) (ha : b8 a) : FnOK Try.prog 5 [mac6 a b c d e f] (.bool true) := by
  refine FnOK.of_ev (ctxP_ok T3_ok) mix Try.func5 rfl (by decide) (by simp [AV.nms, AV.nm, mac6]) (by show 1 ≤ Try.f5.ntmps; decide) ?_
  repeat' (first | (intro h; exact absurd h (by decide)) | (refine Trip.rounds (ctxP_ok T3_ok) mix 7 ?_) | apply And.intro | intro _ | refine Obe.mk ?_)
  any_goals (first | (refine Ob.mk ?_; with_reducible assumption) | exact Ob.mk True.intro | (refine Ob.mk ?_; decide) | (with_reducible refine chk_of ?_; kernel_rfl) | (refine Ob.mk ?_; exact fun h => h) | (refine Ob.mk ?_; exact ha.1) | skip)
  any_goals (refine leA_of_eq (congrArg AV.bool ?_))
  rw [Int.tmod_eq_emod_of_nonneg ha.1]
  simp [Bool.and_assoc]
def sh6 : Sh := .pair (.int .u8) (.pair (.int .u8) (.pair (.int .u8) (.pair (.int .u8) (.pair (.int .u8) (.int .u8)))))
theorem wf8 {a : Int} (h : wfS (.int .u8) a) : b8 a := by
  have h1 : (0 : Int) ≤ a := h.1
  have h2 : a ≤ 255 := h.2
  exact ⟨h1, by omega⟩
theorem own : ownKnob Try.prog.godebug = none := by kernel_rfl
theorem laid : laidOutB Try.prog = true := by kernel_rfl
open Ythbkpjlimmckaaa in
open Go.ChangeShapes Go.WideShapes Go.ChangeAt Go.RowKit in
set_option maxRecDepth 100000 in
theorem macKinds_lifted (os : Os) (started : os.Started) (H : Type) (enc : TypeId × Value → H) :
    ReturnsInHanded {} Try.checked os 5 .any (Rows.macKindsSpec.pre6 enc Try.prog Try.f5 Rows.macKindsRow.domain false) (Rows.macKindsSpec.post enc Try.prog Try.f5 false true false false) := by
  refine returnsInHanded_of_change_sized (C := Try.checked) own started (by kernel_rfl) Try.func5
    (ChangeSpec.witness6 (enc := enc) (C := Try.checked) false ⟨#[], #[.agg #[.int .u8 0, .int .u8 0, .int .u8 0, .int .u8 0, .int .u8 0, .int .u8 0]], []⟩ 8 (by kernel_rfl) (by kernel_rfl) (by kernel_rfl) (by kernel_rfl)) ?_
  intro W base args ds gs before hval hW _ hz _
  have hW' := hW
  obtain ⟨p, q, hA0, _, _, _, _⟩ := hW'
  have hA : DataW.TrodAll enc Try.prog W 0 (fun _ => true) true Try.f5.params.toList args.toList ds p := hA0
  rw [Try.params5] at hA
  obtain ⟨v0, vs0, d0, ds0, p0, q0, _, rfl, _, _, r0⟩ := trodAll_cons hA
  obtain ⟨_, rfl, _⟩ := trodAll_nil r0
  refine law_post (P := Try.prog) (fn := Try.f5) (s := Rows.macKindsSpec) (l := [(true, sh6)]) (tb := 4) laid (by kernel_rfl) rfl (by kernel_rfl) Try.underlying4 (fun x hx => ?_) ⟨rfl, rfl, rfl⟩ hval hW hz
  obtain ⟨⟨a, b, c, d, e, f⟩, ⟨⟩⟩ := x
  exact macKinds_ok a b c d e f (wf8 hx.1.1)
theorem macKinds_over : Ythbkpjlimmckaaa.Rows.MacKindsSaid :=
  OpenClaim.holds_of_wide 5 Try.f5 rfl rfl rfl rfl rfl rfl rfl ⟨rfl, rfl, rfl, rfl, rfl⟩ rfl rfl rfl rfl rfl (by kernel_rfl) Try.func5 (by kernel_rfl)
    (of_decide_eq_true (by kernel_rfl)) (by unfold Func.isWrapper; first | (rw [if_pos (by decide +kernel)]; kernel_rfl) | (rw [if_neg (by decide +kernel)]; exact ⟨rfl, rfl⟩))
    (fun os started H enc _ => macKinds_lifted os started H enc)
end Go.Tr
namespace Go.Proofs.Ythbkpjlimmckaaa
theorem macKinds_proved : Rows.MacKindsSaid := Go.Tr.macKinds_over
end Go.Proofs.Ythbkpjlimmckaaa
