/- What is read of bytes has these bytes. Conditions: none but that bytes are bytes. -/
import Derived.Test.YtklmhllelgjglaaGreatCodecT
namespace Go.Tr
open Go
set_option linter.unusedVariables false
set_option linter.unusedSimpArgs false
set_option maxRecDepth 100000
set_option maxHeartbeats 4000000
structure Forth {α : Type} (part : Rd8 → α × Rd8) (g : α → List Int) : Prop where
  keep : ∀ r, by8s r.1 → by8s (part r).2.1
  flag : ∀ r, r.2 = true → (part r).2.2 = true
  eq : ∀ r, by8s r.1 → (part r).2.2 = false → r.1 = g (part r).1 ++ (part r).2.1
theorem Forth.ok {α : Type} {part : Rd8 → α × Rd8} {g : α → List Int} (hp : Forth part g) {r : Rd8} (hf : (part r).2.2 = false) : r.2 = false := by
  cases hq : r.2 with
  | false => rfl
  | true => rw [hp.flag _ hq] at hf; simp at hf
end Go.Tr
