/- Acts of bytes: what the printed functions of layer 22 come to. Acts of bytes: one act, all of them. The laws of acts of bytes. Conditions: none but those that each theorem states. -/
import Derived.Test.YtfaaeeabiikhbaaGreatDoorMacS
import Derived.Test.YtfaaeeabiikhbaaGreatDoorAddrS
import Derived.Test.YtfaaeeabiikhbaaGreatDoorScriptD
namespace Go.Tr
open Go
set_option linter.unusedVariables false
set_option linter.unusedSimpArgs false
set_option maxRecDepth 100000
set_option maxHeartbeats 4000000
def wordS (w : Int) : List UInt8 :=
  if w = 1 then [104, 111, 108, 100] else if w = 2 then [100, 114, 111, 112] else if w = 3 then [119, 97, 116, 99, 104] else if w = 4 then [105, 103, 110, 111, 114, 101]
  else if w = 6 then [97, 112, 112, 114, 111, 118, 101] else if w = 7 then [114, 101, 106, 101, 99, 116] else []
theorem word_eq (w : Int) : command_word w = some (wordS w, ()) := by
  unfold command_word
  by_cases h : 0 ≤ w ∧ w < 8
  · have : ∀ n : Fin 8, ([[], [(104 : UInt8), 111, 108, 100], [100, 114, 111, 112], [119, 97, 116, 99, 104], [105, 103, 110, 111, 114, 101], [], [97, 112, 112, 114, 111, 118, 101], [114, 101, 106, 101, 99, 116]] : List (List UInt8)).getD n.val [] = wordS (n.val : Int) := by decide
    have h2 := this ⟨w.toNat, by omega⟩
    simp only [Int.toNat_of_nonneg h.1] at h2
    simp only [chk_same, chk_nn, ltO_def]
    have e8 : (decide (w < 0) || decide (w ≥ 8)) = false := by simp; omega
    rw [e8, cnd_false, chk_pos h, chk_pos (by omega)]
    exact congrArg (fun l => some (l, ())) h2
  · have e : wordS w = [] := by
      unfold wordS
      repeat rw [if_neg (by omega)]
    simp only [chk_same, chk_nn, ltO_def]
    have e8 : (decide (w < 0) || decide (w ≥ 8)) = true := by simp; omega
    rw [e8, cnd_true, e]
def cmdT (e : TEv) : List UInt8 :=
  if e.1 = 3 ∨ e.1 = 4 then wordS e.1 ++ [32] ++ bt e.2.2.1
  else if e.1 = 1 then (if e.2.1.2.2 = (0, 0, 0, 0, 0, 0) then wordS 1 ++ [32] ++ adT e.2.1.1 ++ [32] ++ e.2.1.2.1 else wordS 1 ++ [32] ++ adT e.2.1.1 ++ [32] ++ e.2.1.2.1 ++ [32] ++ lowT e.2.1.2.2)
  else if e.1 = 2 ∨ e.1 = 6 ∨ e.1 = 7 then wordS e.1 ++ [32] ++ adT e.2.1.1 else []
structure EvOk (e : TEv) : Prop where
  a : in32 e.2.1.1
  m : M6ok e.2.1.2.2
  o : e.2.1.2.1.length ≤ 140737488355328
  b : in32 e.2.2.1.1
  bb : e.1 = 3 ∨ e.1 = 4 → bo e.2.2.1.2
theorem ds_len {u : Nat} : (ds u).length ≤ 3 := by
  unfold ds; split <;> (try split) <;> simp
theorem wordS_len (w : Int) : (wordS w).length ≤ 7 := by
  unfold wordS; (repeat' split) <;> decide
theorem bt_len (b : Int × Int) : (bt b).length ≤ 19 := by
  unfold bt
  have := adT_len b.1
  have := ds_len (u := b.2.toNat)
  simp; omega
theorem lowT_len (m : M6) : (lowT m).length = 17 := rfl
theorem cmd_eq {e : TEv} (h : EvOk e) : command_Text e = some (cmdT e, ()) := by
  unfold command_Text cmdT
  have ha := adT_len e.2.1.1
  have hb := bt_len e.2.2.1
  have hw := wordS_len e.1
  have ho := h.o
  simp only [ltO_def, cnd_ite, beq_iff_eq, word_eq, bnd_val, Text_eq h.a, none_eq, text_eq h.m]
  by_cases h3 : e.1 = 3
  · simp only [if_pos h3, h3, BlockText_eq h.b (h.bb (.inl h3)), bnd_val]
    rw [h3] at hw
    rw [chk_pos (by omega), chk_pos (by simp only [List.length_append, List.length_cons, List.length_nil]; omega)]; simp
  by_cases h4 : e.1 = 4
  · simp only [if_neg h3, if_pos h4, h4, BlockText_eq h.b (h.bb (.inr h4)), bnd_val]
    rw [h4] at hw
    rw [chk_pos (by omega), chk_pos (by simp only [List.length_append, List.length_cons, List.length_nil]; omega)]; simp
  simp only [if_neg h3, if_neg h4, h3, h4, or_self, if_false]
  by_cases h1 : e.1 = 1
  · simp only [if_pos h1]
    have hl := lowT_len e.2.1.2.2
    rw [chk_pos (by omega), chk_pos (by simp only [List.length_append, List.length_cons, List.length_nil]; omega), chk_pos (by simp only [List.length_append, List.length_cons, List.length_nil]; omega)]
    by_cases hm : e.2.1.2.2 = (0, 0, 0, 0, 0, 0)
    · rw [if_pos hm, if_pos hm]; simp [wordS]
    · rw [if_neg hm, if_neg hm, chk_pos (by simp only [List.length_append, List.length_cons, List.length_nil]; omega), chk_pos (by simp only [List.length_append, List.length_cons, List.length_nil]; omega)]
      simp [wordS]
  simp only [if_neg h1]
  by_cases h2 : e.1 = 2
  · simp only [if_pos h2, h2, true_or, if_true]
    rw [h2] at hw
    rw [chk_pos (by omega), chk_pos (by simp only [List.length_append, List.length_cons, List.length_nil]; omega)]
  by_cases h6 : e.1 = 6
  · simp only [if_neg h2, if_pos h6, h6, true_or, or_true, if_true]
    rw [h6] at hw
    rw [chk_pos (by omega), chk_pos (by simp only [List.length_append, List.length_cons, List.length_nil]; omega)]
    simp
  by_cases h7 : e.1 = 7
  · simp only [if_neg h2, if_neg h6, if_pos h7, h7, or_true, if_true]
    rw [h7] at hw
    rw [chk_pos (by omega), chk_pos (by simp only [List.length_append, List.length_cons, List.length_nil]; omega)]
    simp
  · simp only [if_neg h2, if_neg h6, if_neg h7, h2, h6, h7, or_self, if_false]
end Go.Tr
namespace Go.Tr
open Go
set_option linter.unusedVariables false
set_option linter.unusedSimpArgs false
set_option maxRecDepth 100000
set_option maxHeartbeats 4000000
end Go.Tr
namespace Go.Tr
open Go
set_option linter.unusedVariables false
set_option linter.unusedSimpArgs false
set_option maxRecDepth 100000
set_option maxHeartbeats 4000000
end Go.Tr
