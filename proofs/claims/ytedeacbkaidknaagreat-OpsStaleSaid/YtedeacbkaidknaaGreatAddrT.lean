/- The laws of addresses: four numbers. The laws of addresses: prefixes made, written and read. The laws of addresses: prefixes that are none. The laws of addresses: which prefixes lie in which. The laws of addresses: halves. Conditions: none but those that each theorem states. -/
import Derived.Test.YtedeacbkaidknaaGreatAddrS
namespace Go.Tr
open Go
set_option linter.unusedVariables false
set_option linter.unusedSimpArgs false
set_option maxRecDepth 100000
set_option maxHeartbeats 1000000
end Go.Tr
namespace Go.Tr
open Go
set_option linter.unusedVariables false
set_option linter.unusedSimpArgs false
set_option maxRecDepth 100000
set_option maxHeartbeats 1000000
end Go.Tr
namespace Go.Tr
open Go
set_option linter.unusedVariables false
set_option linter.unusedSimpArgs false
set_option maxRecDepth 100000
set_option maxHeartbeats 1000000
end Go.Tr
namespace Go.Tr
open Go
set_option linter.unusedVariables false
set_option linter.unusedSimpArgs false
set_option maxRecDepth 100000
set_option maxHeartbeats 1000000
structure BlkOK (b : Int × Int) : Prop where
  r : rB b = true
  i : in32 b.1
  n : 20 ≤ b.2 ∧ b.2 ≤ 32
  w : 1 ≤ Wd b.2 ∧ Wd b.2 ≤ 4096
  d : b.1 % Wd b.2 = 0
  t : b.1 + Wd b.2 ≤ 4294967296
theorem has_iff {x b W : Int} (hW : 0 < W) (hd : b % W = 0) : x - x % W = b ↔ b ≤ x ∧ x < b + W := by
  have m0 := Int.emod_nonneg x (show W ≠ 0 by omega)
  have m1 := Int.emod_lt_of_pos x hW
  constructor
  · intro h; omega
  · rintro ⟨h1, h2⟩
    have e : (x - b) % W = x % W := by rw [Int.sub_emod, hd, Int.sub_zero, Int.emod_emod_of_dvd _ (Int.dvd_refl _)]
    have e2 : (x - b) % W = x - b := Int.emod_eq_of_lt (by omega) (by omega)
    omega
theorem Wd_dvd : ∀ m n : Fin 33, n.val ≤ m.val → Wd (n.val : Int) % Wd (m.val : Int) = 0 := by decide +kernel
theorem Wd_dv {m n : Int} (hm : bo m) (hn : bo n) (h : n ≤ m) : Wd m ∣ Wd n := by
  obtain ⟨a0, a1⟩ := hm
  obtain ⟨b0, b1⟩ := hn
  have := Wd_dvd ⟨m.toNat, by omega⟩ ⟨n.toNat, by omega⟩ (by show n.toNat ≤ m.toNat; omega)
  simp only [Int.toNat_of_nonneg a0, Int.toNat_of_nonneg b0] at this
  exact Int.dvd_of_emod_eq_zero this
theorem mul_step {A u v : Int} (hA : 0 < A) (hu : A ∣ u) (hv : A ∣ v) (h : u < v) : u + A ≤ v := by
  obtain ⟨p, rfl⟩ := hu
  obtain ⟨q, rfl⟩ := hv
  have : p < q := Int.lt_of_mul_lt_mul_left h (by omega)
  have : A * (p + 1) ≤ A * q := Int.mul_le_mul_of_nonneg_left (by omega) (by omega)
  rw [Int.mul_add] at this
  omega
theorem nest_ge {x y : Int × Int} (hx : BlkOK x) (hy : BlkOK y) (h : y.2 ≤ x.2) :
    (y.1 ≤ x.1 ∧ x.1 < y.1 + Wd y.2 ↔ y.1 ≤ x.1 ∧ x.1 + Wd x.2 ≤ y.1 + Wd y.2) ∧ (y.1 ≤ x.1 ∧ x.1 < y.1 + Wd y.2 ↔ x.1 < y.1 + Wd y.2 ∧ y.1 < x.1 + Wd x.2) := by
  have dv := Wd_dv (rB_bo hx.r).1 (rB_bo hy.r).1 h
  have dx := Int.dvd_of_emod_eq_zero hx.d
  have dy := Int.dvd_trans dv (Int.dvd_of_emod_eq_zero hy.d)
  have dyb := Int.dvd_add dy dv
  have h1 := hx.w.1
  refine ⟨⟨fun ⟨a, b⟩ => ⟨a, mul_step (by omega) dx dyb b⟩, fun ⟨a, b⟩ => ⟨a, by omega⟩⟩, ⟨fun ⟨a, b⟩ => ⟨b, by omega⟩, fun ⟨a, b⟩ => ⟨?_, a⟩⟩⟩
  have := mul_step (by omega) dy (Int.dvd_add dx (Int.dvd_refl _)) b
  omega
theorem wi_ge {x y : Int × Int} (hx : BlkOK x) (hy : BlkOK y) (h : y.2 ≤ x.2) : wiB x y = (decide (y.1 ≤ x.1) && decide (x.1 < y.1 + Wd y.2)) := by
  unfold wiB
  rw [hx.r, hy.r, decide_eq_true (show x.2 ≥ y.2 from h)]
  apply Bool.eq_iff_iff.2
  simp only [Bool.and_eq_true, beq_iff_eq, decide_eq_true_eq, true_and]
  exact has_iff (by have := hy.w.1; omega) hy.d
theorem wi_lt {x y : Int × Int} (h : x.2 < y.2) : wiB x y = false := by
  unfold wiB
  rw [decide_eq_false (show ¬ x.2 ≥ y.2 from by omega)]; simp
end Go.Tr
namespace Go.Tr
open Go
set_option linter.unusedVariables false
set_option linter.unusedSimpArgs false
set_option maxRecDepth 100000
set_option maxHeartbeats 1000000
end Go.Tr
