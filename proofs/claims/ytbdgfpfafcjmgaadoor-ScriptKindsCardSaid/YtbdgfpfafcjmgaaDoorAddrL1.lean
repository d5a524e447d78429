/- Texts of addresses are read as they are written. Conditions: none but the numbers' bounds. -/
import Derived.Test.YtbdgfpfafcjmgaaDoorAddrL
namespace Go.Tr
open Go
set_option linter.unusedVariables false
set_option linter.unusedSimpArgs false
set_option maxRecDepth 100000
set_option maxHeartbeats 400000

theorem ptI (a : Int) : ((pt a 3 : Nat) : Int) = a / 16777216 % 256 ∧ ((pt a 2 : Nat) : Int) = a / 65536 % 256 ∧ ((pt a 1 : Nat) : Int) = a / 256 % 256 ∧ ((pt a 0 : Nat) : Int) = a % 256 := by
  have h : ∀ k, ((pt a k : Nat) : Int) = a / 2 ^ (8 * k) % 256 := fun k => by
    unfold pt; exact Int.toNat_of_nonneg (Int.emod_nonneg _ (by decide))
  refine ⟨h 3, h 2, h 1, (h 0).trans ?_⟩
  rw [Nat.mul_zero, Int.pow_zero, Int.ediv_one]

theorem rd_mk {p q r t : Nat} (hp : p < 256) (hq : q < 256) (hr : r < 256) (ht : t < 256) : rdA (ds p ++ 46 :: (ds q ++ 46 :: (ds r ++ 46 :: ds t))) = some ((((p * 256 + q) * 256 + r) * 256 + t : Nat) : Int) := by
  have no : ∀ {u : Nat}, u < 256 → 46 ∉ ds u := fun h => ds_no (by omega) (.inl rfl)
  have ok : ∀ {u : Nat}, u < 256 → okB (ds u) = true ∧ valN (ds u) = u := fun {u} h => by
    obtain ⟨h1, h2, _⟩ := ds_ok (show u < 1000 by omega)
    refine ⟨?_, h2⟩
    unfold okB; rw [h1, h2, decide_eq_true (by omega)]; rfl
  unfold rdA
  rw [splitC_app _ (no hp), splitC_app _ (no hq), splitC_app _ (no hr), splitC_none (no ht)]
  simp only [(ok hp).1, (ok hq).1, (ok hr).1, (ok ht).1, (ok hp).2, (ok hq).2, (ok hr).2, (ok ht).2, Bool.and_self, if_true]

theorem rd_adT {a : Int} (ha : in32 a) : rdA (adT a) = some a := by
  have h := rd_mk (@pt_lt a 3) (@pt_lt a 2) (@pt_lt a 1) (@pt_lt a 0)
  obtain ⟨e3, e2, e1, e0⟩ := ptI a
  obtain ⟨h0, h1⟩ := ha
  unfold adT
  rw [h]
  congr 1
  generalize pt a 3 = p3 at *
  generalize pt a 2 = p2 at *
  generalize pt a 1 = p1 at *
  generalize pt a 0 = p0 at *
  omega

theorem pt_mk {p q r t : Nat} (hp : p ≤ 255) (hq : q ≤ 255) (hr : r ≤ 255) (ht : t ≤ 255) : adT ((((p * 256 + q) * 256 + r) * 256 + t : Nat) : Int) = ds p ++ 46 :: (ds q ++ 46 :: (ds r ++ 46 :: ds t)) := by
  have e : ∀ (n k : Nat), pt (n : Int) k = n / 2 ^ (8 * k) % 256 := by
    intro n k
    unfold pt
    have : ((n : Int) / 2 ^ (8 * k) % 256) = ((n / 2 ^ (8 * k) % 256 : Nat) : Int) := by simp
    rw [this, Int.toNat_natCast]
  unfold adT
  rw [e, e, e, e]
  have e3 : (((p * 256 + q) * 256 + r) * 256 + t) / 2 ^ (8 * 3) % 256 = p := by simp only [Nat.reduceMul, Nat.reducePow]; omega
  have e2 : (((p * 256 + q) * 256 + r) * 256 + t) / 2 ^ (8 * 2) % 256 = q := by simp only [Nat.reduceMul, Nat.reducePow]; omega
  have e1 : (((p * 256 + q) * 256 + r) * 256 + t) / 2 ^ (8 * 1) % 256 = r := by simp only [Nat.reduceMul, Nat.reducePow]; omega
  have e0 : (((p * 256 + q) * 256 + r) * 256 + t) / 2 ^ (8 * 0) % 256 = t := by simp only [Nat.reduceMul, Nat.reducePow]; omega
  rw [e3, e2, e1, e0]

theorem adT_rd {s : List UInt8} {a : Int} (h : rdA s = some a) : in32 a ∧ adT a = s := by
  unfold rdA at h
  split at h
  · rename_i p q r t hs
    split at h
    · rename_i hb
      simp only [okB, Bool.and_eq_true, decide_eq_true_eq] at hb
      obtain ⟨⟨g0, b0⟩, ⟨g1, b1⟩, ⟨g2, b2⟩, g3, b3⟩ := hb
      have hj := splitC_join 46 s
      rw [hs, Lib.join_cons] at hj
      have hm := pt_mk b0 b1 b2 b3
      rw [(good_ds g0).2, (good_ds g1).2, (good_ds g2).2, (good_ds g3).2] at hm
      have ha := Option.some.inj h
      rw [ha] at hm
      refine ⟨?_, ?_⟩
      · rw [← ha]; exact ⟨Int.natCast_nonneg _, by omega⟩
      · rw [hm, ← hj]; simp [Lib.joinTail]
    · simp at h
  · simp at h

end Go.Tr
