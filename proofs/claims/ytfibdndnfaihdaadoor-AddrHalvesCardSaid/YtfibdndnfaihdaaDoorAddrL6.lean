/- The laws of addresses: prefixes that are none. Conditions: none but the numbers' bounds. -/
import Derived.Test.YtfibdndnfaihdaaDoorAddrL5
namespace Go.Tr
open Go
set_option linter.unusedVariables false
set_option linter.unusedSimpArgs false
set_option maxRecDepth 100000
set_option maxHeartbeats 1000000

theorem wi_self {x : Int × Int} (h : rB x = true) : wiB x x = true := by
  have h2 := (rB_bo h).2
  unfold wiB
  rw [h, h2]; simp
theorem wi_rB {x y : Int × Int} (h : wiB x y = true) : rB x = true ∧ rB y = true := by
  unfold wiB at h
  simp only [Bool.and_eq_true] at h
  exact ⟨h.1.1.1, h.1.1.2⟩

theorem Wd_half {n : Int} (h : bo n) (h2 : n ≠ 32) : bo (n + 1) ∧ Wd n = 2 * Wd (n + 1) := by
  unfold bo at h
  have hb : bo (n + 1) := by unfold bo; omega
  refine ⟨hb, ?_⟩
  rcases (Wd_bd hb).2.2.1 with h' | h'
  · omega
  · rw [← h']; congr 1; omega

theorem ha_rB {b x y : Int × Int} (h : haB b = (x, y, true, ())) : rB x = true ∧ rB y = true ∧ x.1 = b.1 ∧ y.1 = b.1 + Wd (b.2 + 1) ∧ x.2 = b.2 + 1 ∧ y.2 = b.2 + 1 ∧ rB b = true ∧ b.2 ≠ 32 := by
  unfold haB at h
  split at h
  · rename_i hh
    obtain ⟨h1, h2⟩ := hh
    obtain ⟨g1, g2⟩ := rB_bo h1
    obtain ⟨k1, k2⟩ := Wd_half g1 h2
    simp only [Prod.mk.injEq, and_true] at h
    obtain ⟨rfl, rfl⟩ := h
    have bd := Wd_bd k1
    have d1 : b.1 % Wd (b.2 + 1) = 0 := by
      rw [k2] at g2
      have := Int.dvd_of_emod_eq_zero g2
      exact Int.emod_eq_zero_of_dvd (Int.dvd_trans (Int.dvd_mul_left 2 _) this)
    refine ⟨?_, ?_, rfl, rfl, rfl, rfl, h1, h2⟩
    · unfold rB; rw [Bool.and_eq_true, decide_eq_true_eq, beq_iff_eq]; exact ⟨k1, d1⟩
    · unfold rB; rw [Bool.and_eq_true, decide_eq_true_eq, beq_iff_eq]
      refine ⟨k1, ?_⟩
      show (b.1 + Wd (b.2 + 1)) % Wd (b.2 + 1) = 0
      rw [Int.add_emod, d1, Int.emod_self]; rfl
  · simp at h

theorem addrRaw_law {x y : Int × Int} {a : Int} (hx : in32 x.1) (hy : in32 y.1) (ha : in32 a) (k : Int) : terrierlaw01_AddrRaw x y a k = some (true, ()) := by
  have r1 : ∀ b : Int × Int, ((b.1, b.2) : Int × Int) = b := fun b => rfl
  unfold terrierlaw01_AddrRaw
  simp only [r1]
  rw [awakeA_eq, right_eq hx, right_eq hy, Within_eq hx hx, Overlap_eq hy hy, Halves_eq hx, Whole_eq hx, At_eq hx, Within_eq hx hy, Overlap_eq hx hy, Size_eq hx, Has_eq hx ha]
  simp only [bnd_val, bndG_val, Bool.not_true, cnd_false, ltO_def, chk_same, chk_nn, chk_and]
  cases h1 : rB x with
  | true =>
    cases h2 : rB y with
    | true => simp [wi_self h1, wi_self h2]
    | false =>
      have w1 : wiB x y = false := by
        cases h : wiB x y with
        | false => rfl
        | true => rw [(wi_rB h).2] at h2; simp at h2
      have w2 : wiB y x = false := by
        cases h : wiB y x with
        | false => rfl
        | true => rw [(wi_rB h).1] at h2; simp at h2
      have e : ¬ (x.2 ≠ 0 ∧ haB (x.1 - x.1 % Wd (x.2 - 1), x.2 - 1) = (x, y, true, ())) := by
        rintro ⟨_, h⟩
        rw [(ha_rB h).2.1] at h2; simp at h2
      simp [w1, w2, e]
  | false =>
    have w1 : wiB x y = false := by
      cases h : wiB x y with
      | false => rfl
      | true => rw [(wi_rB h).1] at h1; simp at h1
    have w2 : wiB y x = false := by
      cases h : wiB y x with
      | false => rfl
      | true => rw [(wi_rB h).2] at h1; simp at h1
    have e1 : haB x = ((0, 0), (0, 0), false, ()) := by unfold haB; rw [h1]; simp
    have e2 : szB x = 0 := by unfold szB; rw [h1]; simp
    have e3 : ¬ (0 ≤ k ∧ k < szB x) := by rw [e2]; omega
    rw [if_neg e3, e1, e2]
    simp [w1, w2]

end Go.Tr
