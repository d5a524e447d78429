/- Whose address a tick takes: what was so before. An address is taken by a tick only where somebody approved that. Conditions: none but those that each theorem states. -/
import Derived.Test.YtklmhllelgjglaaGreatOpsKd
namespace Go.Tr
open Go
set_option linter.unusedVariables false
set_option linter.unusedSimpArgs false
set_option maxRecDepth 100000
set_option maxHeartbeats 4000000
def OpenR (s : TState) : Prop := ∀ k ∈ s.2.2.2.2.2.2, openS k = true → hasK kK s.2.2.2.2.1 k.1 = true → lastK s.2.2.2.2.1 k.1 ≤ k.2.1
def SubC (xs cs : List TCase) : Prop := ∀ x ∈ xs, openS x = true → ∃ y ∈ cs, openS y = true ∧ y.1 = x.1 ∧ y.2.1 = x.2.1
theorem SubC.refl (cs : List TCase) : SubC cs cs := fun x hx ho => ⟨x, hx, ho, rfl, rfl⟩
theorem SubC.nil (cs : List TCase) : SubC [] cs := fun x hx => by simp at hx
theorem OpenR.sub {s t : TState} (h : OpenR s) (hc : SubC t.2.2.2.2.2.2 s.2.2.2.2.2.2) (hk : ∀ x ∈ t.2.2.2.2.2.2, openS x = true → hasK kK t.2.2.2.2.1 x.1 = true → hasK kK s.2.2.2.2.1 x.1 = true ∧ lastK t.2.2.2.2.1 x.1 = lastK s.2.2.2.2.1 x.1) : OpenR t := by
  intro x hx ho hh
  obtain ⟨y, hy, h1, h2, h3⟩ := hc x hx ho
  obtain ⟨k1, k2⟩ := hk x hx ho hh
  have := h y hy h1 (by rw [h2]; exact k1)
  rw [h2, h3] at this
  rw [k2]
  exact this
theorem raiseC_mem {f : TCfg} {cs : List TCase} {a now : Int} {x : TCase} (h : x ∈ (raiseC f cs a now).2) : x ∈ cs ∨ x = newC a now := by
  unfold raiseC at h
  split at h
  · simp at h
  · split at h
    · simp at h
    · split at h
      · split at h
        · simp at h
        · rcases List.mem_append.1 h with h | h
          · rcases List.mem_append.1 h with h | h
            · exact .inl (List.take_subset _ _ h)
            · exact .inl (List.drop_subset _ _ h)
          · exact .inr (by simpa using h)
      · rcases List.mem_append.1 h with h | h
        · exact .inl h
        · exact .inr (by simpa using h)
end Go.Tr
namespace Go.Tr
open Go
set_option linter.unusedVariables false
set_option linter.unusedSimpArgs false
set_option maxRecDepth 100000
set_option maxHeartbeats 4000000
end Go.Tr
