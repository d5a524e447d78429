/- Functions of Go's library, by their contracts off the shelf, as contracts of ours. Rows that list package variables: what their lists give, and a world that fits them. Conditions: none but those that each theorem states. -/
import Derived.Test.YtdbpknejbpiebaaBE
import Derived.Below
import Derived.Sort.Grow
import Derived.Deep.Draws
import Derived.Lib.LaidTab
import Derived.LaidLaws
import Derived.Deep.DeepHandedRow
namespace Go.Tr
open Go Go.RowKit
set_option linter.unusedVariables false
set_option linter.unusedSimpArgs false
def VarIs (P : Program) (name : String) (p : Array Value → Prop) (w : World) (fz : Nat → Prop) : Prop :=
  ∃ g c, P.globalNamed name = some g ∧ fz g ∧ w.var? P name = some c ∧ p c
theorem VarIs.mono {P : Program} {name : String} {p : Array Value → Prop} {w w' : World} {fz fz' : Nat → Prop} (h : ∀ b, fz b → fz' b ∧ w'.heap[b]? = w.heap[b]?) (hv : VarIs P name p w fz) : VarIs P name p w' fz' := by
  obtain ⟨g, c, h1, h2, h3, h4⟩ := hv
  refine ⟨g, c, h1, (h g h2).1, ?_, h4⟩
  unfold World.var? at h3 ⊢
  rw [h1] at h3 ⊢
  simp only [Option.bind_some] at h3 ⊢
  rw [(h g h2).2]; exact h3
def CellIs (g : Nat) (p : Value → Prop) (w : World) (fz : Nat → Prop) : Prop := ∃ v, fz g ∧ w.cell? ⟨g, 0, none⟩ = some v ∧ p v
theorem CellIs.mono {g : Nat} {p : Value → Prop} {w w' : World} {fz fz' : Nat → Prop} (h : ∀ b, fz b → fz' b ∧ w'.heap[b]? = w.heap[b]?) (hv : CellIs g p w fz) : CellIs g p w' fz' := by
  obtain ⟨v, h1, h2, h3⟩ := hv
  refine ⟨v, (h g h1).1, ?_, h3⟩
  unfold World.cell? at h2 ⊢
  simp only at h2 ⊢
  rw [(h g h1).2]; exact h2
theorem CellIs.of {g : Nat} {p : Value → Prop} {w : World} {v : Value} (h : w.cell? ⟨g, 0, none⟩ = some v) (hp : p v) : CellIs g p w (fun b => b < w.heap.size) := by
  refine ⟨v, ?_, h, hp⟩
  unfold World.cell? at h
  simp only at h
  cases hb : w.heap[g]? with
  | none => rw [hb] at h; simp at h
  | some o => exact (Array.getElem?_eq_some_iff.1 hb).1
theorem FnX.none {P : Program} [Tabs P] {F : FuncId} {D : FD} (hc : callable P F) : FnX P F D (fun _ => none) := ⟨hc, fun x y h => by simp at h⟩
end Go.Tr
namespace Go.Tr
open Go
set_option linter.unusedVariables false
end Go.Tr
