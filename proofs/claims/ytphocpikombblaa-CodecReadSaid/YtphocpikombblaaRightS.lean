/- Rows of a state: when they are right. Rows of a state: when they are right: prefixes that are swept, sightings, cases. Rows of a state: sightings; a state that is right. Conditions: none but those that each theorem states. -/
import Derived.Test.YtphocpikombblaaCodecS
import Derived.Test.YtphocpikombblaaCodec2D
namespace Go.Tr
open Go
set_option linter.unusedVariables false
set_option linter.unusedSimpArgs false
set_option maxRecDepth 100000
set_option maxHeartbeats 4000000
theorem recD {α : Type} (z : α) (o : Option α) : Option.rec (motive := fun _ => α) z (fun v => v) o = o.getD z := by cases o <;> rfl
theorem getD_toNat {α : Type} (l : List α) (i : Nat) (z : α) : (l[(i : Int).toNat]?).getD z = l.getD i z := by simp [List.getD_eq_getElem?_getD]
def clampS (n : Int) : Int := if n < 0 then 0 else if n > 1099511627776 then 1099511627776 else n
def idxS {α : Type} (p : α → Bool) : List α → Nat → Int
  | [], _ => -1
  | x :: l, k => if p x = true then (k : Int) else idxS p l (k + 1)
theorem idxS_pos {α : Type} {p : α → Bool} {x : α} {l : List α} {k : Nat} (h : p x = true) : idxS p (x :: l) k = (k : Int) := by
  unfold idxS; rw [if_pos h]
theorem idxS_next {α : Type} {p : α → Bool} {x : α} {l : List α} {k : Nat} (h : ¬ p x = true) : idxS p (x :: l) k = idxS p l (k + 1) := by
  conv => lhs; unfold idxS
  rw [if_neg h]
theorem idxS_iff {α : Type} {p : α → Bool} : ∀ {l : List α} {k : Nat}, 0 ≤ idxS p l k ↔ l.any p = true
  | [], k => by simp [idxS]
  | x :: l, k => by
    have ih := idxS_iff (p := p) (l := l) (k := k + 1)
    simp only [List.any_cons, Bool.or_eq_true]
    by_cases h : p x = true
    · rw [idxS_pos h]; simp [h]
    · rw [idxS_next h, ih]; simp [h]
end Go.Tr
namespace Go.Tr
open Go
set_option linter.unusedVariables false
set_option linter.unusedSimpArgs false
set_option maxRecDepth 100000
set_option maxHeartbeats 4000000
def openS (c : TCase) : Bool := c.2.2.2 == 0 || c.2.2.2 == 1
def findC (l : List TCase) (a : Int) : Int := idxS (fun c : TCase => c.1 == a && openS c) l 0
end Go.Tr
namespace Go.Tr
open Go
set_option linter.unusedVariables false
set_option linter.unusedSimpArgs false
set_option maxRecDepth 100000
set_option maxHeartbeats 4000000
structure StWf (s : TState) : Prop where
  h : ∀ x ∈ s.2.2.1, in32 x.1 ∧ x.2.1.length ≤ 140737488355328 ∧ M6ok x.2.2
  hn : s.2.2.1.length ≤ 140737488355328
  w : ∀ x ∈ s.2.2.2.1, in32 x.1.1
  wn : s.2.2.2.1.length ≤ 140737488355328
  k : ∀ x ∈ s.2.2.2.2.1, in32 x.1 ∧ ∀ y ∈ x.2, M6ok y.2.1
  kn : s.2.2.2.2.1.length ≤ 140737488355328
  p : ∀ x ∈ s.2.2.2.2.2.1, in32 x.1
  pn : s.2.2.2.2.2.1.length ≤ 140737488355328
  c : ∀ x ∈ s.2.2.2.2.2.2, in32 x.1
  cn : s.2.2.2.2.2.2.length ≤ 140737488355328
end Go.Tr
