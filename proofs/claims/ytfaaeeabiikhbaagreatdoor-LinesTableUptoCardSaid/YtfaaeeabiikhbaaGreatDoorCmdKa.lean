/- What a command means: the program's reading of words. What a command means: the program reads it as the words say. Conditions: none but those that each theorem states. -/
import Derived.Test.YtfaaeeabiikhbaaGreatDoorCmdD
import Derived.Test.YtfaaeeabiikhbaaGreatDoorErrL
import Derived.Test.YtfaaeeabiikhbaaGreatDoorAddrS
import Derived.Test.YtfaaeeabiikhbaaGreatDoorMacS
import Derived.Test.YtfaaeeabiikhbaaGreatDoorCodecS
import Derived.Test.YtfaaeeabiikhbaaGreatDoorScriptS
import Derived.Lib.ItoaLen
namespace Go.Tr
open Go
set_option linter.unusedVariables false
set_option linter.unusedSimpArgs false
set_option maxRecDepth 100000
set_option maxHeartbeats 4000000
def macP (s : List UInt8) : TMac := (vlP s 0, vlP s 1, vlP s 2, vlP s 3, vlP s 4, vlP s 5)
end Go.Tr
namespace Go.Tr
open Go
set_option linter.unusedVariables false
set_option linter.unusedSimpArgs false
set_option maxRecDepth 100000
set_option maxHeartbeats 4000000
theorem split_len (c : UInt8) : ∀ s : List UInt8, ∀ w ∈ splitC c s, w.length ≤ s.length
  | [], w, h => by simp [splitC] at h; simp [h]
  | b :: l, w, h => by
    have ih := split_len c l
    unfold splitC at h
    split at h
    · rcases List.mem_cons.1 h with rfl | h
      · simp
      · have := ih w h; simp; omega
    · split at h
      · rename_i x t hx
        rw [hx] at ih
        rcases List.mem_cons.1 h with rfl | h
        · have := ih x (by simp); simp; omega
        · have := ih w (by simp [h]); simp; omega
      · simp at h; subst h; simp
theorem split_pos (c : UInt8) (s : List UInt8) : 0 < (splitC c s).length := by
  have := splitC_ne c s
  cases h : splitC c s with
  | nil => exact absurd h this
  | cons a l => simp
theorem getD_len {f : List (List UInt8)} {n : Nat} (h : ∀ w ∈ f, w.length ≤ n) (i : Nat) : (f.getD i []).length ≤ n := by
  rw [List.getD_eq_getElem?_getD]
  cases hi : f[i]? with
  | none => simp
  | some w => simpa using h w (List.mem_of_getElem? hi)
theorem vlP_ok {s : List UInt8} (h : okP s = true) : by8 (vlP s 0) := by
  unfold okP cnP at h
  simp only [Bool.and_eq_true] at h
  have q := h.2.2.1
  unfold vlP by8
  have a := dgS_ok q.1
  have b := dgS_ok q.2.1
  omega
end Go.Tr
