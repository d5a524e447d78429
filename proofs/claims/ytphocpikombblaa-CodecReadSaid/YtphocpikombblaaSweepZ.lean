/- Rules for loops that look for the first one, and the like. Deed by deed: whom ticks ask, what is taken, what is put. Deed by deed: the law. Conditions: none but those that each theorem states. -/
import Derived.Test.YtphocpikombblaaRightS
import Derived.Test.YtphocpikombblaaSweep2D
import Derived.Test.YtphocpikombblaaSweepY
namespace Go.Tr
open Go
set_option linter.unusedVariables false
set_option linter.unusedSimpArgs false
theorem idxS_lt {α : Type} {p : α → Bool} : ∀ {l : List α} {k : Nat}, 0 ≤ idxS p l k → ∃ j, ∃ h : j < l.length, idxS p l k = ((k + j : Nat) : Int) ∧ p l[j] = true ∧ ∀ i (h : i < j), p (l[i]'(by omega)) = false
  | [], k, h => by simp [idxS] at h
  | x :: l, k, h => by
    by_cases hx : p x = true
    · exact ⟨0, by simp, by rw [idxS_pos hx]; simp, hx, fun i h => by omega⟩
    · rw [idxS_next hx] at h ⊢
      obtain ⟨j, hj, h1, h2, h3⟩ := idxS_lt h
      refine ⟨j + 1, by simp; omega, by rw [h1]; omega, by simpa using h2, fun i hi => ?_⟩
      cases i with
      | zero => simpa using hx
      | succ i => simpa using h3 i (by omega)
theorem getD_hit {α : Type} (l : List α) (k : Nat) (z : α) (h : k < l.length) : l.getD k z = l[k] := by
  rw [List.getD_eq_getElem?_getD, List.getElem?_eq_getElem h]; rfl
end Go.Tr
namespace Go.Tr
open Go
set_option linter.unusedVariables false
set_option linter.unusedSimpArgs false
set_option maxRecDepth 100000
set_option maxHeartbeats 4000000
theorem RowR.sub {l m : List TSweep} (h : RowR l) (hs : m.Sublist l) : RowR m := ⟨Nat.le_trans hs.length_le h.len, fun s hm => h.all s (hs.mem hm), h.ap.sublist hs⟩
theorem dropk_sub {α : Type} (l : List α) (k : Nat) : (l.take k ++ l.drop (k + 1)).Sublist l := by
  have h : (l.take k ++ l.drop (k + 1)).Sublist (l.take k ++ l.drop k) := List.Sublist.append (List.Sublist.refl _) (by
    rw [← List.drop_drop]; exact List.drop_sublist _ _)
  rwa [List.take_append_drop] at h
end Go.Tr
namespace Go.Tr
open Go
set_option linter.unusedVariables false
set_option linter.unusedSimpArgs false
set_option maxRecDepth 100000
set_option maxHeartbeats 4000000
end Go.Tr
