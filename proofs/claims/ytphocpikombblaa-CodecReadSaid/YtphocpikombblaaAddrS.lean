/- Texts of addresses: the printed functions' answers in plain words. Texts of addresses are read as they are written. Prefixes: the printed functions' answers in plain words. The laws of addresses: texts and numbers. Conditions: none but those that each theorem states. -/
import Derived.Test.YtphocpikombblaaBE
import Derived.Test.YtphocpikombblaaAddrD
namespace Go.Tr
open Go
set_option linter.unusedVariables false
set_option linter.unusedSimpArgs false
set_option maxRecDepth 100000
set_option maxHeartbeats 4000000
def dg8 (n : Nat) : UInt8 := UInt8.ofNat (48 + n)
def ds (u : Nat) : List UInt8 := if u < 10 then [dg8 u] else if u < 100 then [dg8 (u / 10), dg8 (u % 10)] else [dg8 (u / 100), dg8 (u / 10 % 10), dg8 (u % 10)]
def valN (s : List UInt8) : Nat := s.foldl (fun n c => 10 * n + (c.toNat - 48)) 0
theorem ds3 : ∀ a b c : Fin 10, (a.val = 0 ∨ (valN [dg8 a.val, dg8 b.val, dg8 c.val] < 1000 ∧ ds (valN [dg8 a.val, dg8 b.val, dg8 c.val]) = [dg8 a.val, dg8 b.val, dg8 c.val])) := by decide +kernel
theorem ds2 : ∀ a b : Fin 10, (a.val = 0 ∨ (valN [dg8 a.val, dg8 b.val] < 1000 ∧ ds (valN [dg8 a.val, dg8 b.val]) = [dg8 a.val, dg8 b.val])) := by decide +kernel
theorem ds1 : ∀ a : Fin 10, valN [dg8 a.val] < 1000 ∧ ds (valN [dg8 a.val]) = [dg8 a.val] := by decide +kernel
def in32 (a : Int) : Prop := 0 ≤ a ∧ a < 4294967296
end Go.Tr
namespace Go.Tr
open Go
set_option linter.unusedVariables false
set_option linter.unusedSimpArgs false
set_option maxRecDepth 100000
set_option maxHeartbeats 400000
end Go.Tr
namespace Go.Tr
open Go
set_option linter.unusedVariables false
set_option linter.unusedSimpArgs false
set_option maxRecDepth 100000
set_option maxHeartbeats 400000
def Wd (n : Int) : Int := 2 ^ (32 - n).toNat
def bo (n : Int) : Prop := 0 ≤ n ∧ n ≤ 32
instance (n : Int) : Decidable (bo n) := inferInstanceAs (Decidable (_ ∧ _))
theorem Wd_nat {n : Int} (h : bo n) : ∃ j : Nat, j ≤ 32 ∧ n = 32 - (j : Int) ∧ Wd n = 2 ^ j := by
  obtain ⟨h0, h1⟩ := h
  exact ⟨(32 - n).toNat, by omega, by omega, rfl⟩
theorem Wd_all : ∀ n : Fin 33, 1 ≤ Wd (n.val : Int) ∧ Wd (n.val : Int) ≤ 4294967296 ∧ (n.val = 0 ∨ Wd ((n.val : Int) - 1) = 2 * Wd (n.val : Int)) ∧ 4294967296 % Wd (n.val : Int) = 0 := by decide
theorem Wd_bd {n : Int} (h : bo n) : 1 ≤ Wd n ∧ Wd n ≤ 4294967296 ∧ (n = 0 ∨ Wd (n - 1) = 2 * Wd n) ∧ 4294967296 % Wd n = 0 := by
  obtain ⟨h0, h1⟩ := h
  have := Wd_all ⟨n.toNat, by omega⟩
  simp only [Int.toNat_of_nonneg h0] at this
  refine ⟨this.1, this.2.1, ?_, this.2.2.2⟩
  rcases this.2.2.1 with h | h
  · left; omega
  · exact .inr h
def rB (b : Int × Int) : Bool := decide (bo b.2) && b.1 % Wd b.2 == 0
theorem rB_bo {b : Int × Int} (h : rB b = true) : bo b.2 ∧ b.1 % Wd b.2 = 0 := by
  unfold rB at h
  rw [Bool.and_eq_true, decide_eq_true_eq, beq_iff_eq] at h
  exact h
def wiB (x y : Int × Int) : Bool := rB x && rB y && decide (x.2 ≥ y.2) && (rB y && (x.1 - x.1 % Wd y.2 == y.1))
def szB (b : Int × Int) : Int := if rB b = true then Wd b.2 else 0
theorem szB_le {b : Int × Int} (hb : in32 b.1) : 0 ≤ szB b ∧ b.1 + szB b ≤ 4294967296 := by
  unfold szB
  split
  · rename_i h
    obtain ⟨h1, h2⟩ := rB_bo h
    have bd := Wd_bd h1
    refine ⟨by omega, ?_⟩
    obtain ⟨q, hq⟩ := Int.dvd_of_emod_eq_zero h2
    obtain ⟨p, hp⟩ := Int.dvd_of_emod_eq_zero bd.2.2.2
    rw [hq, hp]
    have : q < p := by
      have := hb.2
      rw [hq, hp] at this
      exact Int.lt_of_mul_lt_mul_left this (by omega)
    have : Wd b.2 * (q + 1) ≤ Wd b.2 * p := Int.mul_le_mul_of_nonneg_left (by omega) (by omega)
    rw [Int.mul_add] at this
    omega
  · have := hb.2; omega
end Go.Tr
namespace Go.Tr
open Go
set_option linter.unusedVariables false
set_option linter.unusedSimpArgs false
set_option maxRecDepth 100000
set_option maxHeartbeats 1000000
end Go.Tr
