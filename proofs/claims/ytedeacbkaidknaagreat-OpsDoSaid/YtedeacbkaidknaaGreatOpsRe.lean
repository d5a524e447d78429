/- Whose address a tick takes: what was so before. Conditions: none but that states are right. -/
import Derived.Test.YtedeacbkaidknaaGreatOpsSt
namespace Go.Tr
open Go
set_option linter.unusedVariables false
set_option linter.unusedSimpArgs false
set_option maxRecDepth 100000
set_option maxHeartbeats 4000000
def OpenR (s : TState) : Prop := ∀ k ∈ s.2.2.2.2.2.2, openS k = true → hasK kK s.2.2.2.2.1 k.1 = true → lastK s.2.2.2.2.1 k.1 ≤ k.2.1
def SubC (xs cs : List TCase) : Prop := ∀ x ∈ xs, openS x = true → ∃ y ∈ cs, openS y = true ∧ y.1 = x.1 ∧ y.2.1 = x.2.1
theorem SubC.refl (cs : List TCase) : SubC cs cs := fun x hx ho => ⟨x, hx, ho, rfl, rfl⟩
theorem SubC.nil (cs : List TCase) : SubC [] cs := fun x hx => by simp at hx
theorem OpenR.sub {s t : TState} (h : OpenR s) (hc : SubC t.2.2.2.2.2.2 s.2.2.2.2.2.2) (hk : ∀ x ∈ t.2.2.2.2.2.2, openS x = true → hasK kK t.2.2.2.2.1 x.1 = true → hasK kK s.2.2.2.2.1 x.1 = true ∧ lastK t.2.2.2.2.1 x.1 = lastK s.2.2.2.2.1 x.1) : OpenR t := by
  intro x hx ho hh
  obtain ⟨y, hy, h1, h2, h3⟩ := hc x hx ho
  obtain ⟨k1, k2⟩ := hk x hx ho hh
  have := h y hy h1 (by rw [h2]; exact k1)
  rw [h2, h3] at this
  rw [k2]
  exact this
theorem ofK_mem {l : List TKnown} (hr : Rise kK l) {k : TKnown} (hk : k ∈ l) : ofK l k.1 = k.2 := by
  have hh : hasK kK l k.1 = true := List.any_eq_true.2 ⟨k, hk, by simp [kK]⟩
  obtain ⟨g1, g2⟩ := hr.at hh
  obtain ⟨j, hj, rfl⟩ := List.getElem_of_mem hk
  unfold ofK
  rw [hh]
  simp only [if_true]
  rw [getD_hit _ _ _ g1]
  rcases Nat.lt_trichotomy j (lowB kK l l[j].1) with hlt | heq | hgt
  · have h1 : l[j].1 < kK (l[lowB kK l l[j].1]) := hr.lt hlt g1
    rw [g2] at h1
    omega
  · congr 1
    exact getElem_congr_idx heq.symm
  · have h1 : kK (l[lowB kK l l[j].1]) < l[j].1 := hr.lt hgt hj
    rw [g2] at h1
    omega
end Go.Tr
