/- The laws of addresses: four numbers. The laws of addresses: prefixes made, written and read. The laws of addresses: prefixes that are none. The laws of addresses: which prefixes lie in which. The laws of addresses: halves. Conditions: none but those that each theorem states. -/
import Derived.Test.YtdbpknejbpiebaaAddrS
namespace Go.Tr
open Go
set_option linter.unusedVariables false
set_option linter.unusedSimpArgs false
set_option maxRecDepth 100000
set_option maxHeartbeats 1000000
end Go.Tr
namespace Go.Tr
open Go
set_option linter.unusedVariables false
set_option linter.unusedSimpArgs false
set_option maxRecDepth 100000
set_option maxHeartbeats 1000000
theorem mk_ok {a n : Int} (ha : in32 a) (h : bo n) : in32 (a - a % Wd n) ∧ rB (a - a % Wd n, n) = true ∧ a - a % Wd n ≤ a := by
  have bd := Wd_bd h
  have m0 := Int.emod_nonneg a (show Wd n ≠ 0 by omega)
  have m2 : a % Wd n ≤ a := by
    have := Int.mul_ediv_add_emod a (Wd n)
    have : 0 ≤ a / Wd n := Int.ediv_nonneg ha.1 (by omega)
    have : 0 ≤ Wd n * (a / Wd n) := Int.mul_nonneg (by omega) this
    omega
  refine ⟨by have := ha.2; exact ⟨by omega, by omega⟩, ?_, by omega⟩
  unfold rB
  rw [Bool.and_eq_true, decide_eq_true_eq, beq_iff_eq]
  refine ⟨h, ?_⟩
  show (a - a % Wd n) % Wd n = 0
  rw [Int.sub_emod, Int.emod_emod_of_dvd _ (Int.dvd_refl _), Int.sub_self, Int.zero_emod]
end Go.Tr
namespace Go.Tr
open Go
set_option linter.unusedVariables false
set_option linter.unusedSimpArgs false
set_option maxRecDepth 100000
set_option maxHeartbeats 1000000
end Go.Tr
namespace Go.Tr
open Go
set_option linter.unusedVariables false
set_option linter.unusedSimpArgs false
set_option maxRecDepth 100000
set_option maxHeartbeats 1000000
def bB (a bits : Int) : Int × Int := (a - a % Wd (20 + bits % 13), 20 + bits % 13)
theorem Wd_small : ∀ k : Fin 13, Wd (20 + (k.val : Int)) ≤ 4096 := by decide
theorem Block_eq {a bits : Int} (ha : in32 a) (hb : 0 ≤ bits) : terrierlaw01_Block a bits = some (bB a bits, ()) := by
  unfold terrierlaw01_Block
  rw [chk_pos (by decide), Int.tmod_eq_emod_of_nonneg hb, ltO_def, w64 (n := bits % 13) (by omega) (by omega), ltO_def, w64 (n := 20 + bits % 13) (by omega) (by omega), ltO_def]
  have hbo : bo (20 + bits % 13) := by unfold bo; omega
  obtain ⟨j, hj, e0, e⟩ := Wd_nat hbo
  have e1 : (32 : Int) - (20 + bits % 13) = (j : Int) := by omega
  rw [w64 (n := 32 - (20 + bits % 13)) (by omega) (by omega), ltO_def, chk_pos (by omega), e1, shr_eq (k := .u32) j hj, ltO_def, ltO_def, chk_pos (by omega), shl_eq (k := .u32) j hj, ltO_def]
  have bd := Wd_bd hbo
  have m0 := Int.emod_nonneg a (show Wd (20 + bits % 13) ≠ 0 by omega)
  have md := Int.mul_ediv_add_emod a (Wd (20 + bits % 13))
  have hq : 0 ≤ a / Wd (20 + bits % 13) := Int.ediv_nonneg ha.1 (by omega)
  have hq2 : 0 ≤ Wd (20 + bits % 13) * (a / Wd (20 + bits % 13)) := Int.mul_nonneg (by omega) hq
  have := ha.2
  rw [← e, Int.mul_comm, wu32 (by omega) (by omega)]
  unfold bB
  congr 3
  omega
structure BlkOK (b : Int × Int) : Prop where
  r : rB b = true
  i : in32 b.1
  n : 20 ≤ b.2 ∧ b.2 ≤ 32
  w : 1 ≤ Wd b.2 ∧ Wd b.2 ≤ 4096
  d : b.1 % Wd b.2 = 0
  t : b.1 + Wd b.2 ≤ 4294967296
theorem bB_ok {a bits : Int} (ha : in32 a) (hb : 0 ≤ bits) : BlkOK (bB a bits) := by
  have hbo : bo (20 + bits % 13) := by unfold bo; omega
  obtain ⟨g1, g2, g3⟩ := mk_ok ha hbo
  have bd := Wd_bd hbo
  have sz := szB_le (b := bB a bits) g1
  unfold szB at sz
  rw [if_pos (show rB (bB a bits) = true from g2)] at sz
  have ws := Wd_small ⟨(bits % 13).toNat, by omega⟩
  simp only [Int.toNat_of_nonneg (show 0 ≤ bits % 13 by omega)] at ws
  exact ⟨g2, g1, by show 20 ≤ 20 + bits % 13 ∧ 20 + bits % 13 ≤ 32; omega, ⟨bd.1, ws⟩, (rB_bo g2).2, sz.2⟩
theorem has_iff {x b W : Int} (hW : 0 < W) (hd : b % W = 0) : x - x % W = b ↔ b ≤ x ∧ x < b + W := by
  have m0 := Int.emod_nonneg x (show W ≠ 0 by omega)
  have m1 := Int.emod_lt_of_pos x hW
  constructor
  · intro h; omega
  · rintro ⟨h1, h2⟩
    have e : (x - b) % W = x % W := by rw [Int.sub_emod, hd, Int.sub_zero, Int.emod_emod_of_dvd _ (Int.dvd_refl _)]
    have e2 : (x - b) % W = x - b := Int.emod_eq_of_lt (by omega) (by omega)
    omega
theorem Wd_dvd : ∀ m n : Fin 33, n.val ≤ m.val → Wd (n.val : Int) % Wd (m.val : Int) = 0 := by decide +kernel
theorem Wd_dv {m n : Int} (hm : bo m) (hn : bo n) (h : n ≤ m) : Wd m ∣ Wd n := by
  obtain ⟨a0, a1⟩ := hm
  obtain ⟨b0, b1⟩ := hn
  have := Wd_dvd ⟨m.toNat, by omega⟩ ⟨n.toNat, by omega⟩ (by show n.toNat ≤ m.toNat; omega)
  simp only [Int.toNat_of_nonneg a0, Int.toNat_of_nonneg b0] at this
  exact Int.dvd_of_emod_eq_zero this
theorem mul_step {A u v : Int} (hA : 0 < A) (hu : A ∣ u) (hv : A ∣ v) (h : u < v) : u + A ≤ v := by
  obtain ⟨p, rfl⟩ := hu
  obtain ⟨q, rfl⟩ := hv
  have : p < q := Int.lt_of_mul_lt_mul_left h (by omega)
  have : A * (p + 1) ≤ A * q := Int.mul_le_mul_of_nonneg_left (by omega) (by omega)
  rw [Int.mul_add] at this
  omega
theorem nest_ge {x y : Int × Int} (hx : BlkOK x) (hy : BlkOK y) (h : y.2 ≤ x.2) :
    (y.1 ≤ x.1 ∧ x.1 < y.1 + Wd y.2 ↔ y.1 ≤ x.1 ∧ x.1 + Wd x.2 ≤ y.1 + Wd y.2) ∧ (y.1 ≤ x.1 ∧ x.1 < y.1 + Wd y.2 ↔ x.1 < y.1 + Wd y.2 ∧ y.1 < x.1 + Wd x.2) := by
  have dv := Wd_dv (rB_bo hx.r).1 (rB_bo hy.r).1 h
  have dx := Int.dvd_of_emod_eq_zero hx.d
  have dy := Int.dvd_trans dv (Int.dvd_of_emod_eq_zero hy.d)
  have dyb := Int.dvd_add dy dv
  have h1 := hx.w.1
  refine ⟨⟨fun ⟨a, b⟩ => ⟨a, mul_step (by omega) dx dyb b⟩, fun ⟨a, b⟩ => ⟨a, by omega⟩⟩, ⟨fun ⟨a, b⟩ => ⟨b, by omega⟩, fun ⟨a, b⟩ => ⟨?_, a⟩⟩⟩
  have := mul_step (by omega) dy (Int.dvd_add dx (Int.dvd_refl _)) b
  omega
theorem wi_ge {x y : Int × Int} (hx : BlkOK x) (hy : BlkOK y) (h : y.2 ≤ x.2) : wiB x y = (decide (y.1 ≤ x.1) && decide (x.1 < y.1 + Wd y.2)) := by
  unfold wiB
  rw [hx.r, hy.r, decide_eq_true (show x.2 ≥ y.2 from h)]
  apply Bool.eq_iff_iff.2
  simp only [Bool.and_eq_true, beq_iff_eq, decide_eq_true_eq, true_and]
  exact has_iff (by have := hy.w.1; omega) hy.d
theorem wi_lt {x y : Int × Int} (h : x.2 < y.2) : wiB x y = false := by
  unfold wiB
  rw [decide_eq_false (show ¬ x.2 ≥ y.2 from by omega)]; simp
end Go.Tr
namespace Go.Tr
open Go
set_option linter.unusedVariables false
set_option linter.unusedSimpArgs false
set_option maxRecDepth 100000
set_option maxHeartbeats 1000000
end Go.Tr
