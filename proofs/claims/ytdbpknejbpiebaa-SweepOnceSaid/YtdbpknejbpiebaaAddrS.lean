/- Texts of addresses: the printed functions' answers in plain words. Texts of addresses are read as they are written. Prefixes: the printed functions' answers in plain words. The laws of addresses: texts and numbers. Conditions: none but those that each theorem states. -/
import Derived.Test.YtdbpknejbpiebaaBE
import Derived.Test.YtdbpknejbpiebaaAddrD
namespace Go.Tr
open Go
set_option linter.unusedVariables false
set_option linter.unusedSimpArgs false
set_option maxRecDepth 100000
set_option maxHeartbeats 4000000
def dg8 (n : Nat) : UInt8 := UInt8.ofNat (48 + n)
def ds (u : Nat) : List UInt8 := if u < 10 then [dg8 u] else if u < 100 then [dg8 (u / 10), dg8 (u % 10)] else [dg8 (u / 100), dg8 (u / 10 % 10), dg8 (u % 10)]
def valN (s : List UInt8) : Nat := s.foldl (fun n c => 10 * n + (c.toNat - 48)) 0
theorem ds2 : ∀ a b : Fin 10, (a.val = 0 ∨ (valN [dg8 a.val, dg8 b.val] < 1000 ∧ ds (valN [dg8 a.val, dg8 b.val]) = [dg8 a.val, dg8 b.val])) := by decide +kernel
theorem ds1 : ∀ a : Fin 10, valN [dg8 a.val] < 1000 ∧ ds (valN [dg8 a.val]) = [dg8 a.val] := by decide +kernel
def in32 (a : Int) : Prop := 0 ≤ a ∧ a < 4294967296
end Go.Tr
namespace Go.Tr
open Go
set_option linter.unusedVariables false
set_option linter.unusedSimpArgs false
set_option maxRecDepth 100000
set_option maxHeartbeats 400000
end Go.Tr
namespace Go.Tr
open Go
set_option linter.unusedVariables false
set_option linter.unusedSimpArgs false
set_option maxRecDepth 100000
set_option maxHeartbeats 400000
def Wd (n : Int) : Int := 2 ^ (32 - n).toNat
def bo (n : Int) : Prop := 0 ≤ n ∧ n ≤ 32
instance (n : Int) : Decidable (bo n) := inferInstanceAs (Decidable (_ ∧ _))
theorem Wd_nat {n : Int} (h : bo n) : ∃ j : Nat, j ≤ 32 ∧ n = 32 - (j : Int) ∧ Wd n = 2 ^ j := by
  obtain ⟨h0, h1⟩ := h
  exact ⟨(32 - n).toNat, by omega, by omega, rfl⟩
theorem Wd_all : ∀ n : Fin 33, 1 ≤ Wd (n.val : Int) ∧ Wd (n.val : Int) ≤ 4294967296 ∧ (n.val = 0 ∨ Wd ((n.val : Int) - 1) = 2 * Wd (n.val : Int)) ∧ 4294967296 % Wd (n.val : Int) = 0 := by decide
theorem Wd_bd {n : Int} (h : bo n) : 1 ≤ Wd n ∧ Wd n ≤ 4294967296 ∧ (n = 0 ∨ Wd (n - 1) = 2 * Wd n) ∧ 4294967296 % Wd n = 0 := by
  obtain ⟨h0, h1⟩ := h
  have := Wd_all ⟨n.toNat, by omega⟩
  simp only [Int.toNat_of_nonneg h0] at this
  refine ⟨this.1, this.2.1, ?_, this.2.2.2⟩
  rcases this.2.2.1 with h | h
  · left; omega
  · exact .inr h
def rB (b : Int × Int) : Bool := decide (bo b.2) && b.1 % Wd b.2 == 0
theorem mask_eq {n : Int} (h : bo n) : addr_mask n = some (4294967296 - Wd n, ()) := by
  obtain ⟨j, hj, rfl, e⟩ := Wd_nat h
  unfold addr_mask
  rw [w64 (by omega) (by omega), ltO_def, chk_pos (by omega), e]
  have : (32 : Int) - (32 - (j : Int)) = (j : Int) := by omega
  rw [this, shl_eq (k := .u32) j hj, ltO_def]
  have key : ∀ j : Fin 33, IntKind.u32.wrap (4294967295 * 2 ^ j.val) = 4294967296 - 2 ^ j.val := by decide
  rw [key ⟨j, by omega⟩]
theorem Right_eq {b : Int × Int} (hb : in32 b.1) : addr_Right b = some (rB b, ()) := by
  unfold addr_Right
  simp only [ltO_def, chk_same]
  by_cases h : bo b.2
  · have hv : (decide (b.2 ≥ 0) && decide (b.2 ≤ 32)) = true := by simp only [Bool.and_eq_true, decide_eq_true_eq]; exact h
    rw [hv, mask_eq h, bndG_val]
    obtain ⟨j, hj, e0, e⟩ := Wd_nat h
    have hbits : (2 : Int) ^ IntKind.u32.bits = 4294967296 := rfl
    rw [bandn_high (k := .u32) (m := 4294967296 - Wd b.2) j hb.1 (by rw [e, hbits]) hj, ← e]
    have bd := Wd_bd h
    have m0 := Int.emod_nonneg b.1 (show Wd b.2 ≠ 0 by omega)
    have m1 := Int.emod_lt_of_pos b.1 (show 0 < Wd b.2 by omega)
    rw [wu32 (by omega) (by omega)]
    unfold rB
    rw [decide_eq_true h]
  · have hv : (decide (b.2 ≥ 0) && decide (b.2 ≤ 32)) = false := by
      rw [Bool.and_eq_false_iff, decide_eq_false_iff_not, decide_eq_false_iff_not]
      unfold bo at h; omega
    rw [hv, bndG_false]
    unfold rB
    rw [decide_eq_false h]; rfl
theorem rB_bo {b : Int × Int} (h : rB b = true) : bo b.2 ∧ b.1 % Wd b.2 = 0 := by
  unfold rB at h
  rw [Bool.and_eq_true, decide_eq_true_eq, beq_iff_eq] at h
  exact h
theorem mask_and {n a : Int} (h : bo n) (ha : in32 a) : IntKind.u32.wrap (bandI .u32 a (4294967296 - Wd n)) = a - a % Wd n := by
  obtain ⟨j, hj, e0, e⟩ := Wd_nat h
  have hbits : (2 : Int) ^ IntKind.u32.bits = 4294967296 := rfl
  rw [band_high (k := .u32) (m := 4294967296 - Wd n) j ha.1 (by rw [hbits]; exact ha.2) (by rw [e, hbits]) hj, ← e]
  have bd := Wd_bd h
  have m0 := Int.emod_nonneg a (show Wd n ≠ 0 by omega)
  have m2 : a % Wd n ≤ a := by
    have := Int.mul_ediv_add_emod a (Wd n)
    have : 0 ≤ a / Wd n := Int.ediv_nonneg ha.1 (by omega)
    have : 0 ≤ Wd n * (a / Wd n) := Int.mul_nonneg (by omega) this
    omega
  have := ha.2
  rw [wu32 (by omega) (by omega)]
theorem Has_eq {b : Int × Int} {a : Int} (hb : in32 b.1) (ha : in32 a) : addr_Has b a = some (rB b && (a - a % Wd b.2 == b.1), ()) := by
  unfold addr_Has
  rw [Right_eq hb]
  simp only [bnd_val, chk_same, ltO_def]
  cases h : rB b with
  | false => rw [bndG_false]; rfl
  | true => rw [mask_eq (rB_bo h).1, bndG_val, mask_and (rB_bo h).1 ha]
def wiB (x y : Int × Int) : Bool := rB x && rB y && decide (x.2 ≥ y.2) && (rB y && (x.1 - x.1 % Wd y.2 == y.1))
theorem Within_eq {x y : Int × Int} (hx : in32 x.1) (hy : in32 y.1) : addr_Within x y = some (wiB x y, ()) := by
  unfold addr_Within
  rw [Right_eq hx, Right_eq hy, Has_eq hy hx]
  simp only [bnd_val, bndG_val, chk_same, ltO_def]
  rfl
theorem Overlap_eq {x y : Int × Int} (hx : in32 x.1) (hy : in32 y.1) : addr_Overlap x y = some (wiB x y || wiB y x, ()) := by
  unfold addr_Overlap
  rw [Within_eq hx hy, Within_eq hy hx]
  simp only [bnd_val, bndG_val, chk_same, chk_nn, ltO_def]
def szB (b : Int × Int) : Int := if rB b = true then Wd b.2 else 0
theorem Size_eq {b : Int × Int} (hb : in32 b.1) : addr_Size b = some (szB b, ()) := by
  unfold addr_Size szB
  rw [Right_eq hb]
  simp only [bnd_val]
  cases h : rB b with
  | false => rfl
  | true =>
    simp only [Bool.not_true, cnd_false, if_true]
    obtain ⟨j, hj, e0, e⟩ := Wd_nat (rB_bo h).1
    rw [w64 (by omega) (by omega), ltO_def, chk_pos (by omega), show (32 : Int) - b.2 = (j : Int) from by omega, shl_eq j (by show j ≤ 64; omega), ltO_def, e]
    have key : ∀ j : Fin 33, IntKind.i64.wrap (1 * 2 ^ j.val) = 2 ^ j.val := by decide
    rw [key ⟨j, by omega⟩]
theorem szB_le {b : Int × Int} (hb : in32 b.1) : 0 ≤ szB b ∧ b.1 + szB b ≤ 4294967296 := by
  unfold szB
  split
  · rename_i h
    obtain ⟨h1, h2⟩ := rB_bo h
    have bd := Wd_bd h1
    refine ⟨by omega, ?_⟩
    obtain ⟨q, hq⟩ := Int.dvd_of_emod_eq_zero h2
    obtain ⟨p, hp⟩ := Int.dvd_of_emod_eq_zero bd.2.2.2
    rw [hq, hp]
    have : q < p := by
      have := hb.2
      rw [hq, hp] at this
      exact Int.lt_of_mul_lt_mul_left this (by omega)
    have : Wd b.2 * (q + 1) ≤ Wd b.2 * p := Int.mul_le_mul_of_nonneg_left (by omega) (by omega)
    rw [Int.mul_add] at this
    omega
  · have := hb.2; omega
theorem At_eq {b : Int × Int} (hb : in32 b.1) (k : Int) : addr_At b k = some (if 0 ≤ k ∧ k < szB b then (b.1 + k, true, ()) else (0, false, ())) := by
  unfold addr_At
  rw [Size_eq hb]
  simp only [bndG_val, chk_same, chk_nn, ltO_def, cnd_ite, Bool.or_eq_true, decide_eq_true_eq]
  have := szB_le hb
  have := hb.1
  by_cases h : 0 ≤ k ∧ k < szB b
  · rw [if_neg (by omega), if_pos h, wu32 (n := k) (by omega) (by omega), wu32 (by omega) (by omega)]
  · rw [if_pos (by omega), if_neg h]
end Go.Tr
namespace Go.Tr
open Go
set_option linter.unusedVariables false
set_option linter.unusedSimpArgs false
set_option maxRecDepth 100000
set_option maxHeartbeats 1000000
end Go.Tr
