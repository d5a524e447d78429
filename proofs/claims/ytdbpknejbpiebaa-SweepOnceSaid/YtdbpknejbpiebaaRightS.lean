/- Rows of a state: when they are right. Rows of a state: when they are right: prefixes that are swept, sightings, cases. Rows of a state: sightings; a state that is right. Conditions: none but those that each theorem states. -/
import Derived.Test.YtdbpknejbpiebaaCodecS
import Derived.Test.YtdbpknejbpiebaaCodec2D
namespace Go.Tr
open Go
set_option linter.unusedVariables false
set_option linter.unusedSimpArgs false
set_option maxRecDepth 100000
set_option maxHeartbeats 4000000
theorem recD {α : Type} (z : α) (o : Option α) : Option.rec (motive := fun _ => α) z (fun v => v) o = o.getD z := by cases o <;> rfl
theorem getD_toNat {α : Type} (l : List α) (i : Nat) (z : α) : (l[(i : Int).toNat]?).getD z = l.getD i z := by simp [List.getD_eq_getElem?_getD]
def clampS (n : Int) : Int := if n < 0 then 0 else if n > 1099511627776 then 1099511627776 else n
theorem clamp_eq' (n : Int) : clock_Clamp n = some (clampS n, ()) := clamp_eq
def idxS {α : Type} (p : α → Bool) : List α → Nat → Int
  | [], _ => -1
  | x :: l, k => if p x = true then (k : Int) else idxS p l (k + 1)
theorem idxS_pos {α : Type} {p : α → Bool} {x : α} {l : List α} {k : Nat} (h : p x = true) : idxS p (x :: l) k = (k : Int) := by
  unfold idxS; rw [if_pos h]
theorem idxS_next {α : Type} {p : α → Bool} {x : α} {l : List α} {k : Nat} (h : ¬ p x = true) : idxS p (x :: l) k = idxS p l (k + 1) := by
  conv => lhs; unfold idxS
  rw [if_neg h]
theorem idxS_iff {α : Type} {p : α → Bool} : ∀ {l : List α} {k : Nat}, 0 ≤ idxS p l k ↔ l.any p = true
  | [], k => by simp [idxS]
  | x :: l, k => by
    have ih := idxS_iff (p := p) (l := l) (k := k + 1)
    simp only [List.any_cons, Bool.or_eq_true]
    by_cases h : p x = true
    · rw [idxS_pos h]; simp [h]
    · rw [idxS_next h, ih]; simp [h]
def idxR (v : Int) : Unit ⊕ (Int × Unit) := if v = -1 then .inl () else .inr (v, ())
theorem idxS_neg {α : Type} {p : α → Bool} {l : List α} {k : Nat} : (decide (idxS p l k ≥ 0)) = l.any p := by
  rw [Bool.eq_iff_iff, decide_eq_true_eq]
  exact idxS_iff
end Go.Tr
namespace Go.Tr
open Go
set_option linter.unusedVariables false
set_option linter.unusedSimpArgs false
set_option maxRecDepth 100000
set_option maxHeartbeats 4000000
end Go.Tr
namespace Go.Tr
open Go
set_option linter.unusedVariables false
set_option linter.unusedSimpArgs false
set_option maxRecDepth 100000
set_option maxHeartbeats 4000000
end Go.Tr
