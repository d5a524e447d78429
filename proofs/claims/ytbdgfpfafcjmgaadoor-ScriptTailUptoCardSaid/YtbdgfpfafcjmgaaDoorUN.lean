/- Numbers: what shifts and bits come to.
   Conditions: none. -/
import Derived.Test.YtbdgfpfafcjmgaaDoorUZ
namespace Go.Tr
open Go
set_option linter.unusedVariables false

theorem i32_wrap (n : Int) : IntKind.i32.wrap n = (n + 2147483648) % 4294967296 - 2147483648 := by
  simp only [IntKind.wrap, IntKind.signed, IntKind.bits]; simp <;> (try split) <;> omega
theorem i16_wrap (n : Int) : IntKind.i16.wrap n = (n + 32768) % 65536 - 32768 := by
  simp only [IntKind.wrap, IntKind.signed, IntKind.bits]; simp <;> (try split) <;> omega

/-- In its bounds a number is kept. -/
theorem w64 {n : Int} (h0 : -9223372036854775808 ≤ n) (h1 : n ≤ 9223372036854775807) : IntKind.i64.wrap n = n := by rw [i64_wrap]; omega
theorem wu64 {n : Int} (h0 : 0 ≤ n) (h1 : n ≤ 18446744073709551615) : IntKind.u64.wrap n = n := by rw [u64_wrap]; omega
theorem wu32 {n : Int} (h0 : 0 ≤ n) (h1 : n ≤ 4294967295) : IntKind.u32.wrap n = n := by rw [u32_wrap]; omega
theorem wu16 {n : Int} (h0 : 0 ≤ n) (h1 : n ≤ 65535) : IntKind.u16.wrap n = n := by rw [u16_wrap]; omega
theorem wu8 {n : Int} (h0 : 0 ≤ n) (h1 : n ≤ 255) : IntKind.u8.wrap n = n := by rw [u8_wrap]; omega

theorem shr_eq {k : IntKind} {a : Int} (n : Nat) (h : n ≤ k.bits) : shrI k a (n : Int) = a / 2 ^ n := by
  unfold shrI
  rw [Int.toNat_natCast, Nat.min_eq_left h, Int.fdiv_eq_ediv_of_nonneg _ (by exact_mod_cast Nat.zero_le (2 ^ n))]
theorem shl_eq {k : IntKind} {a : Int} (n : Nat) (h : n ≤ k.bits) : shlI k a (n : Int) = k.wrap (a * 2 ^ n) := by
  unfold shlI
  rw [Int.toNat_natCast, Nat.min_eq_left h]
theorem shr_lit {k : IntKind} {a : Int} (n : Nat) (h : n ≤ k.bits) : shrI k a (OfNat.ofNat n) = a / 2 ^ n := shr_eq n h
theorem shl_lit {k : IntKind} {a : Int} (n : Nat) (h : n ≤ k.bits) : shlI k a (OfNat.ofNat n) = k.wrap (a * 2 ^ n) := shl_eq n h

theorem band_mask {k : IntKind} {a m : Int} (j : Nat) (h : 0 ≤ a) (hm : m = 2 ^ j - 1) (hj : j ≤ k.bits) : bandI k a m = a % 2 ^ j := by
  unfold bandI; exact and_mask j h hm hj

theorem ofInt_nat {b n : Nat} : (BitVec.ofInt b (n : Int)).toNat = n % 2 ^ b := by
  rw [BitVec.ofInt_natCast, BitVec.toNat_ofNat]

/-- A sum of parts that do not lie over each other. -/
theorem bor_add {k : IntKind} {a b : Int} (j : Nat) (ha : 0 ≤ a) (hb : 0 ≤ b) (hb1 : b < 2 ^ j) (hd : a % 2 ^ j = 0) (h1 : a + b < 2 ^ k.bits) : borI k a b = a + b := by
  obtain ⟨n, rfl⟩ := Int.eq_ofNat_of_zero_le ha
  obtain ⟨m, rfl⟩ := Int.eq_ofNat_of_zero_le hb
  unfold borI
  rw [BitVec.toNat_or, ofInt_nat, ofInt_nat]
  have hm : m < 2 ^ j := by exact_mod_cast hb1
  have hn : n % 2 ^ j = 0 := by exact_mod_cast hd
  have hs : n + m < 2 ^ k.bits := by exact_mod_cast h1
  rw [Nat.mod_eq_of_lt (by omega : n < 2 ^ k.bits), Nat.mod_eq_of_lt (by omega : m < 2 ^ k.bits)]
  obtain ⟨q, rfl⟩ := Nat.dvd_of_mod_eq_zero hn
  rw [← Nat.two_pow_add_eq_or_of_lt hm q]
  rfl

/-- The first bits of a number: what is behind them is struck. -/
theorem and_high {w j a : Nat} (hj : j ≤ w) (ha : a < 2 ^ w) : a &&& (2 ^ w - 2 ^ j) = 2 ^ j * (a / 2 ^ j) := by
  apply Nat.eq_of_testBit_eq
  intro i
  have hp : 0 < 2 ^ j := Nat.two_pow_pos j
  have hle : 2 ^ j ≤ 2 ^ w := Nat.pow_le_pow_right (by omega) hj
  have e : 2 ^ w - 2 ^ j = 2 ^ w - ((2 ^ j - 1) + 1) := by omega
  rw [Nat.testBit_and, e, Nat.testBit_two_pow_sub_succ (by omega), Nat.testBit_two_pow_sub_one, Nat.testBit_two_pow_mul, Nat.testBit_div_two_pow]
  by_cases h : j ≤ i
  · rw [show i - j + j = i from by omega]
    by_cases hi : i < w
    · simp [h, hi, Nat.not_lt.2 h]
    · have : a.testBit i = false := Nat.testBit_lt_two_pow (Nat.lt_of_lt_of_le ha (Nat.pow_le_pow_right (by omega) (by omega)))
      simp [this]
  · simp [h, Nat.lt_of_not_le h]

theorem band_high {k : IntKind} {a m : Int} (j : Nat) (h : 0 ≤ a) (ha : a < 2 ^ k.bits) (hm : m = 2 ^ k.bits - 2 ^ j) (hj : j ≤ k.bits) : bandI k a m = a - a % 2 ^ j := by
  obtain ⟨n, rfl⟩ := Int.eq_ofNat_of_zero_le h
  have hn : n < 2 ^ k.bits := by exact_mod_cast ha
  have hle : 2 ^ j ≤ 2 ^ k.bits := Nat.pow_le_pow_right (by omega) hj
  have hp : 0 < 2 ^ j := Nat.two_pow_pos j
  have e : m = ((2 ^ k.bits - 2 ^ j : Nat) : Int) := by rw [hm, Int.natCast_sub hle]; simp
  unfold bandI
  rw [e, BitVec.toNat_and, ofInt_nat, ofInt_nat, Nat.mod_eq_of_lt hn, Nat.mod_eq_of_lt (by omega : 2 ^ k.bits - 2 ^ j < 2 ^ k.bits), and_high hj hn]
  have h2 : ((2 ^ j : Nat) : Int) = (2 : Int) ^ j := by simp
  have h1 := Nat.div_add_mod n (2 ^ j)
  rw [← h2]
  have : ((2 ^ j * (n / 2 ^ j) : Nat) : Int) + ((n % 2 ^ j : Nat) : Int) = (n : Int) := by exact_mod_cast h1
  have e3 : ((n % 2 ^ j : Nat) : Int) = (n : Int) % ((2 ^ j : Nat) : Int) := by simp
  rw [e3] at this
  omega

theorem bandn_high {k : IntKind} {a m : Int} (j : Nat) (h : 0 ≤ a) (hm : m = 2 ^ k.bits - 2 ^ j) (hj : j ≤ k.bits) : bandnI k a m = a % 2 ^ j := by
  have hle : 2 ^ j ≤ 2 ^ k.bits := Nat.pow_le_pow_right (by omega) hj
  have hp : 0 < 2 ^ j := Nat.two_pow_pos j
  have e : m = ((2 ^ k.bits - 2 ^ j : Nat) : Int) := by rw [hm, Int.natCast_sub hle]; simp
  have hn : ~~~ BitVec.ofInt k.bits m = BitVec.ofInt k.bits (2 ^ j - 1) := by
    have e2 : ((2 : Int) ^ j - 1) = ((2 ^ j - 1 : Nat) : Int) := by rw [Int.natCast_sub Nat.one_le_two_pow]; simp
    apply BitVec.eq_of_toNat_eq
    rw [e2, e, BitVec.toNat_not, ofInt_nat, ofInt_nat, Nat.mod_eq_of_lt (by omega : 2 ^ k.bits - 2 ^ j < 2 ^ k.bits), Nat.mod_eq_of_lt (by omega : 2 ^ j - 1 < 2 ^ k.bits)]
    omega
  unfold bandnI
  rw [hn]
  exact and_mask j h rfl hj

end Go.Tr
