/- Bounds of the statement on tables. Conditions: none. -/
import Derived.Test.YtfaaeeabiikhbaaGreatDoorLinW
import Derived.Test.YtfaaeeabiikhbaaGreatDoorLinKc
namespace Go.Tr
open Go
theorem wordss_wf {M : Nat} (hM : M ≤ 281474976710656) {l : List TWords} (h : wfS M (.sl sWords) l) : (∀ w ∈ l, WordsOk M w) ∧ l.length ≤ 281474976710656 := by
  have hl : l.length * sWords.nb ≤ M := h.1
  have h2 : ∀ i (hi : i < l.length), wfS M sWords (l[i]'hi) := h.2
  refine ⟨fun w hw => ?_, ?_⟩
  · obtain ⟨i, hi, rfl⟩ := List.mem_iff_getElem.1 hw
    exact words_wf (h2 i hi)
  · have : 1 ≤ sWords.nb := by decide
    have := Nat.mul_le_mul_left l.length this
    omega
end Go.Tr
