/- A part of the proof: contracts of functions of this program, by the evaluator. Conditions: none. -/
import Derived.Test.YthbkpjlimmckaaaM4
namespace Go.Tr
open Go Go.Proofs
set_option maxRecDepth 4000
set_option linter.unusedSimpArgs false
set_option linter.unusedVariables false
def hexs : List UInt8 := [48, 49, 50, 51, 52, 53, 54, 55, 56, 57, 97, 98, 99, 100, 101, 102]
def hex (n : Int) : UInt8 := hexs.getD n.toNat 0
def two (c : Int) : List UInt8 := [hex (c / 16), hex (c % 16)]
def textV (a b c d e f : Int) : List UInt8 := two a ++ 58 :: two b ++ 58 :: two c ++ 58 :: two d ++ 58 :: two e ++ 58 :: two f
set_option maxHeartbeats 0
theorem text_ok (a b c d e f : Int) (ha : 0 ≤ a ∧ a < 256) (hb : 0 ≤ b ∧ b < 256) (hc : 0 ≤ c ∧ c < 256) (hd : 0 ≤ d ∧ d < 256) (he : 0 ≤ e ∧ e < 256) (hf : 0 ≤ f ∧ f < 256) : FnOK Try.prog 11 [.agg [.int .u8 a, .int .u8 b, .int .u8 c, .int .u8 d, .int .u8 e, .int .u8 f]] (.str (textV a b c d e f)) := by
  refine FnOK.of_ev (ctxP_ok (noP_ok _)) mix Try.func11 rfl (by decide) (by simp [AV.nms, AV.nm]) (by show 1 ≤ Try.f11.ntmps; decide) ?_
  obtain ⟨ha0, ha1⟩ := ha
  obtain ⟨hb0, hb1⟩ := hb
  obtain ⟨hc0, hc1⟩ := hc
  obtain ⟨hd0, hd1⟩ := hd
  obtain ⟨he0, he1⟩ := he
  obtain ⟨hf0, hf1⟩ := hf
  repeat' (first | (intro h; exact absurd h (by decide)) | (refine Trip.rounds (ctxP_ok (noP_ok _)) mix 7 ?_) | apply And.intro | intro _ | refine Obe.mk ?_)
  any_goals (first | (with_reducible refine chk_of ?_; kernel_rfl) | skip)
  any_goals (first | (refine Ob.mk ?_; decide) | (refine Ob.mk ?_; simp only [shr4, and15, *]; constructor; omega; (show _ < (16 : Int); omega)) | skip)
  any_goals (first | (refine Ob.mk ?_; simp [sliceA]; done) | (refine Ob.mk ⟨rfl, by simp [sliceA], ?_⟩; show _ * Nat.succ _ ≤ _; simp [sliceA]; done) | (refine Ob.mk ⟨by decide, by decide, by decide, ?_⟩; show _ * Nat.succ _ ≤ _; decide) | skip)
  refine leA_of_eq (congrArg AV.str ?_)
  simp only [shr4, and15, *]
  simp [sliceA, toBytes, textV, two, hex, hexs]
end Go.Tr
