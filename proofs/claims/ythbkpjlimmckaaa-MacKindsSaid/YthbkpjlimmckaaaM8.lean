/- A part of the proof: contracts of functions of this program, by the evaluator. Conditions: none. -/
import Derived.Test.YthbkpjlimmckaaaM7
namespace Go.Tr
open Go Go.Proofs
set_option maxRecDepth 4000
set_option linter.unusedSimpArgs false
set_option linter.unusedVariables false
set_option maxHeartbeats 0
set_option linter.unusedVariables false
abbrev b8 (a : Int) : Prop := 0 ≤ a ∧ a < 256
def textT : List AV → Option (Prop × AV)
  | [.agg [.int .u8 a, .int .u8 b, .int .u8 c, .int .u8 d, .int .u8 e, .int .u8 f]] => some (b8 a ∧ b8 b ∧ b8 c ∧ b8 d ∧ b8 e ∧ b8 f, .str (textV a b c d e f))
  | _ => none
def parseT : List AV → Option (Prop × AV)
  | [.str s] => some (True, .tup [macV s, .bool (macOk s)])
  | _ => none
def noneT : List AV → Option (Prop × AV)
  | [.agg [.int .u8 a, .int .u8 b, .int .u8 c, .int .u8 d, .int .u8 e, .int .u8 f]] => some (True, .bool (a == 0 && (b == 0 && (c == 0 && (d == 0 && (e == 0 && f == 0))))))
  | _ => none
def groupT : List AV → Option (Prop × AV)
  | [.agg [.int .u8 a, .int .u8 b, .int .u8 c, .int .u8 d, .int .u8 e, .int .u8 f]] => some (0 ≤ a, .bool (a % 2 == 1))
  | _ => none
def pairT : List AV → Option (Prop × AV)
  | [.int .u8 c, .bool g] => some (b8 c, .str (pairV g c))
  | _ => none
def T2 : Pure := addP 11 textT <| addP 10 parseT <| addP 12 noneT <| addP 13 groupT <| addP 9 pairT noP
theorem T2_ok : PureOK Try.prog T2 := by
  refine addP_ok (addP_ok (addP_ok (addP_ok (addP_ok (noP_ok _) ?_) ?_) ?_) ?_) ?_
  · intro args p r h
    unfold pairT at h
    split at h
    · simp only [Option.some.injEq, Prod.mk.injEq] at h
      obtain ⟨rfl, rfl⟩ := h
      exact ⟨fun hp => pair_ok _ _ hp.1 hp.2, by simp [AV.nm]⟩
    · simp at h
  · intro args p r h
    unfold groupT at h
    split at h
    · simp only [Option.some.injEq, Prod.mk.injEq] at h
      obtain ⟨rfl, rfl⟩ := h
      exact ⟨fun hp => group_ok _ _ _ _ _ _ hp, by simp [AV.nm]⟩
    · simp at h
  · intro args p r h
    unfold noneT at h
    split at h
    · simp only [Option.some.injEq, Prod.mk.injEq] at h
      obtain ⟨rfl, rfl⟩ := h
      exact ⟨fun hp => none_ok _ _ _ _ _ _, by simp [AV.nm]⟩
    · simp at h
  · intro args p r h
    unfold parseT at h
    split at h
    · simp only [Option.some.injEq, Prod.mk.injEq] at h
      obtain ⟨rfl, rfl⟩ := h
      exact ⟨fun hp => parse_all _, by simp [AV.nm, AV.nms, macV]⟩
    · simp at h
  · intro args p r h
    unfold textT at h
    split at h
    · simp only [Option.some.injEq, Prod.mk.injEq] at h
      obtain ⟨rfl, rfl⟩ := h
      exact ⟨fun hp => text_ok _ _ _ _ _ _ hp.1 hp.2.1 hp.2.2.1 hp.2.2.2.1 hp.2.2.2.2.1 hp.2.2.2.2.2, by simp [AV.nm]⟩
    · simp at h
theorem awake_ok : FnOK Try.prog 8 [] (.bool true) := by
  refine FnOK.of_ev (ctxP_ok T2_ok) mix Try.func8 rfl (by decide) (by simp [AV.nms]) (by show 0 ≤ Try.f8.ntmps; decide) ?_
  repeat' (first | (intro h; exact absurd h (by decide)) | apply And.intro | intro _ | refine Obe.mk ?_)
  any_goals (first | (refine Ob.mk ?_; with_reducible assumption) | exact Ob.mk True.intro | (refine Ob.mk ?_; decide) | (with_reducible refine chk_of ?_; kernel_rfl) | skip)
  any_goals (first | (refine Ob.mk ?_; simp_all; done) | (refine leA_of_eq (congrArg AV.bool ?_); decide) | skip)
def awakeT : List AV → Option (Prop × AV)
  | [] => some (True, .bool true)
  | _ => none
def T3 : Pure := addP 8 awakeT T2
theorem T3_ok : PureOK Try.prog T3 := by
  refine addP_ok T2_ok fun args p r h => ?_
  unfold awakeT at h
  split at h
  · simp only [Option.some.injEq, Prod.mk.injEq] at h
    obtain ⟨rfl, rfl⟩ := h
    exact ⟨fun hp => awake_ok, by simp [AV.nm]⟩
  · simp at h
end Go.Tr
