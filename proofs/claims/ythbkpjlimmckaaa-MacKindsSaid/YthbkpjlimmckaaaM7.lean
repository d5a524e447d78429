/- A part of the proof: contracts of functions of this program, by the evaluator. Conditions: none. -/
import Derived.Test.YthbkpjlimmckaaaM6
namespace Go.Tr
open Go Go.Proofs
set_option maxRecDepth 4000
set_option linter.unusedSimpArgs false
set_option linter.unusedVariables false
set_option maxHeartbeats 0
def mac6 (a b c d e f : Int) : AV := .agg [.int .u8 a, .int .u8 b, .int .u8 c, .int .u8 d, .int .u8 e, .int .u8 f]
theorem none_ok (a b c d e f : Int) : FnOK Try.prog 12 [mac6 a b c d e f] (.bool (a == 0 && (b == 0 && (c == 0 && (d == 0 && (e == 0 && f == 0)))))) := by
  refine FnOK.of_ev (ctxP_ok (noP_ok _)) mix Try.func12 rfl (by decide) (by simp [AV.nms, AV.nm, mac6]) (by show 1 ≤ Try.f12.ntmps; decide) ?_
  repeat' (first | (intro h; exact absurd h (by decide)) | apply And.intro | intro _ | refine Obe.mk ?_)
  exact leA_refl _
theorem group_ok (a b c d e f : Int) (h : 0 ≤ a) : FnOK Try.prog 13 [mac6 a b c d e f] (.bool (a % 2 == 1)) := by
  refine FnOK.of_ev (ctxP_ok (noP_ok _)) mix Try.func13 rfl (by decide) (by simp [AV.nms, AV.nm, mac6]) (by show 1 ≤ Try.f13.ntmps; decide) ?_
  repeat' (first | (intro h; exact absurd h (by decide)) | apply And.intro | intro _ | refine Obe.mk ?_)
  any_goals (refine Ob.mk ?_; decide)
  refine leA_of_eq (congrArg AV.bool ?_)
  rw [and1 a h]
def hexsG : List UInt8 := [48, 49, 50, 51, 52, 53, 54, 55, 56, 57, 65, 66, 67, 68, 69, 70]
def pairV (g : Bool) (c : Int) : List UInt8 := if g then [hexsG.getD (c / 16).toNat 0, hexsG.getD (c % 16).toNat 0] else two c
theorem slice_one (n : Int) (h0 : 0 ≤ n) (h1 : n < 16) : sliceA n.toNat (n + 1).toNat hexs = [hexs.getD n.toNat 0] ∧ sliceA n.toNat (n + 1).toNat hexsG = [hexsG.getD n.toNat 0] := by
  have key : ∀ x : Fin 16, sliceA x.val (x.val + 1) hexs = [hexs.getD x.val 0] ∧ sliceA x.val (x.val + 1) hexsG = [hexsG.getD x.val 0] := by decide
  have := key ⟨n.toNat, by omega⟩
  rw [show (n + 1).toNat = n.toNat + 1 by omega]
  exact this
theorem quo16 (c : Int) (h0 : 0 ≤ c) (h1 : c < 256) : IntKind.u8.wrap (c.tdiv 16) = c / 16 := by
  rw [u8_wrap, Int.tdiv_eq_ediv_of_nonneg h0]; omega
theorem rem16 (c : Int) (h0 : 0 ≤ c) : c.tmod 16 = c % 16 := Int.tmod_eq_emod_of_nonneg h0
theorem inc8 (n : Int) (h0 : 0 ≤ n) (h1 : n < 255) : IntKind.u8.wrap (n + 1) = n + 1 := by rw [u8_wrap]; omega
theorem pair_ok (c : Int) (g : Bool) (h0 : 0 ≤ c) (h1 : c < 256) : FnOK Try.prog 9 [.int .u8 c, .bool g] (.str (pairV g c)) := by
  have e1 := quo16 c h0 h1
  have e2 := rem16 c h0
  have e3 := inc8 (c / 16) (by omega) (by omega)
  have e4 := inc8 (c % 16) (by omega) (by omega)
  have e5 := slice_one (c / 16) (by omega) (by omega)
  have e6 := slice_one (c % 16) (by omega) (by omega)
  refine FnOK.of_ev (ctxP_ok (noP_ok _)) mix Try.func9 rfl (by decide) (by simp [AV.nms, AV.nm, mac6]) (by show 2 ≤ Try.f9.ntmps; decide) ?_
  repeat' (first | (intro h; exact absurd h (by decide)) | apply And.intro | intro _ | refine Obe.mk ?_)
  any_goals (first | (with_reducible refine chk_of ?_; kernel_rfl) | (refine Ob.mk ?_; decide) | skip)
  any_goals (first | (refine Ob.mk ?_; simp only [e1, e2, e3, e4]; refine ⟨?_, ?_, ?_⟩; omega; omega; (show _ ≤ (16 : Int); omega)) | skip)
  any_goals (first | (refine Ob.mk ?_; simp only [e1, e2, e3, e4]; (first | (show ((List.length (sliceA _ _ hexsG) + List.length (sliceA _ _ hexsG) : Nat) : Int) ≤ _; rw [e5.2, e6.2]; simp; done) | (show ((List.length (sliceA _ _ hexs) + List.length (sliceA _ _ hexs) : Nat) : Int) ≤ _; rw [e5.1, e6.1]; simp; done))) | skip)
  · rename_i hg; subst hg; refine leA_of_eq (congrArg AV.str ?_); simp only [e1, e2, e3, e4]; show sliceA _ _ hexsG ++ sliceA _ _ hexsG = _; rw [e5.2, e6.2]; rfl
  · rename_i hg; subst hg; refine leA_of_eq (congrArg AV.str ?_); simp only [e1, e2, e3, e4]; show sliceA _ _ hexs ++ sliceA _ _ hexs = _; rw [e5.1, e6.1]; rfl
def macT : List AV → Option ((Int × Int × Int × Int × Int × Int) × List AV)
  | .agg [.int .u8 a, .int .u8 b, .int .u8 c, .int .u8 d, .int .u8 e, .int .u8 f] :: r => some ((a, b, c, d, e, f), r)
  | _ => none
end Go.Tr
