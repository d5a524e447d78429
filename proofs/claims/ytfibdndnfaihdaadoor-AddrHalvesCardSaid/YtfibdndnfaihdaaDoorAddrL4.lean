/- The laws of addresses: four numbers. Conditions: none but the numbers' bounds. -/
import Derived.Test.YtfibdndnfaihdaaDoorAddrL3
namespace Go.Tr
open Go
set_option linter.unusedVariables false
set_option linter.unusedSimpArgs false
set_option maxRecDepth 100000
set_option maxHeartbeats 1000000

theorem rd4 {x t y z : List UInt8} (hx : (46 : UInt8) ∉ x) (ht : (46 : UInt8) ∉ t) (hy : (46 : UInt8) ∉ y) (hz : (46 : UInt8) ∉ z) :
    rdA (x ++ 46 :: (t ++ 46 :: (y ++ 46 :: z))) = if okB x && (okB t && (okB y && okB z)) then some ((((valN x * 256 + valN t) * 256 + valN y) * 256 + valN z : Nat) : Int) else none := by
  unfold rdA
  rw [splitC_app _ hx, splitC_app _ ht, splitC_app _ hy, splitC_none hz]

theorem ok_ds {u : Nat} (h : u < 1000) : okB (ds u) = decide (u ≤ 255) := by
  unfold okB; rw [(ds_ok h).1, (ds_ok h).2.1, Bool.true_and]
theorem ok_zero {u : Nat} (h : u < 1000) : okB (48 :: ds u) = false := by
  unfold okB goodN
  have := (ds_ok h).2.2.1
  have e : (decide ((48 :: ds u).length ≤ 1) || (48 :: ds u).getD 0 0 != 48) = false := by
    rw [Bool.or_eq_false_iff]
    refine ⟨decide_eq_false (by rw [List.length_cons]; omega), rfl⟩
  rw [e]; simp

theorem addrNumbers_law {a b c : Int} (ha : 0 ≤ a ∧ a < 256) (hb : 0 ≤ b ∧ b < 256) (hc : 0 ≤ c ∧ c < 65536) (zero : Bool) : terrierlaw01_AddrNumbers a b c zero = some (true, ()) := by
  unfold terrierlaw01_AddrNumbers
  have hn : c.tmod 400 = c % 400 := Int.tmod_eq_emod_of_nonneg hc.1
  obtain ⟨n, hn2, hn3⟩ : ∃ n : Nat, c % 400 = (n : Int) ∧ n < 400 := ⟨(c % 400).toNat, by omega, by omega⟩
  obtain ⟨x, rfl⟩ := Int.eq_ofNat_of_zero_le ha.1
  obtain ⟨y, rfl⟩ := Int.eq_ofNat_of_zero_le hb.1
  have hx : x < 256 := by omega
  have hy : y < 256 := by omega
  rw [awakeA_eq]
  simp only [bnd_val, Bool.not_true, cnd_false, ltO_def, hn, hn2]
  rw [chk_pos (by decide), w64 (n := (n : Int)) (by omega) (by omega), digits_eq (n := (n : Int)) (by omega) (by omega)]
  simp only [bnd_val, Int.toNat_natCast]
  rw [w64 (n := (x : Int)) (by omega) (by omega), w64 (n := (y : Int)) (by omega) (by omega), digits_eq (n := (x : Int)) (by omega) (by omega), digits_eq (n := (y : Int)) (by omega) (by omega)]
  simp only [bnd_val, Int.toNat_natCast]
  have lx := (ds_ok (show x < 1000 by omega)).2.2.2
  have ly := (ds_ok (show y < 1000 by omega)).2.2.2
  have ln := (ds_ok (show n < 1000 by omega)).2.2.2
  have nx := ds_no (show x < 1000 by omega) (c := 46) (.inl rfl)
  have ny := ds_no (show y < 1000 by omega) (c := 46) (.inl rfl)
  have nn := ds_no (show n < 1000 by omega) (c := 46) (.inl rfl)
  have n0 : (46 : UInt8) ∉ ([48] : List UInt8) := by decide
  have o0 : okB [48] = true := by decide
  have v0 : valN [48] = 0 := by decide
  have ox : okB (ds x) = true := by rw [ok_ds (by omega)]; exact decide_eq_true (by omega)
  have oy : okB (ds y) = true := by rw [ok_ds (by omega)]; exact decide_eq_true (by omega)
  cases zero with
  | true =>
    simp only [cnd_true]
    rw [chk_pos (by omega), chk_pos (by omega), chk_pos (by simp; omega), chk_pos (by simp; omega), chk_pos (by simp; omega), chk_pos (by simp; omega)]
    have e : ds x ++ [46] ++ ([48] ++ ds n) ++ [46] ++ ds y ++ [46, 48] = ds x ++ 46 :: ((48 :: ds n) ++ 46 :: (ds y ++ 46 :: [48])) := by simp
    rw [e, Parse_eq (by simp; omega), rd4 nx (by simp [nn]) ny n0, ok_zero (by omega)]
    simp
  | false =>
    simp only [cnd_false]
    rw [chk_pos (by omega), chk_pos (by simp; omega), chk_pos (by simp; omega), chk_pos (by simp; omega), chk_pos (by simp; omega)]
    have e : ds x ++ [46] ++ ds n ++ [46] ++ ds y ++ [46, 48] = ds x ++ 46 :: (ds n ++ 46 :: (ds y ++ 46 :: [48])) := by simp
    rw [e, Parse_eq (by simp; omega), rd4 nx nn ny n0, ox, oy, o0, ok_ds (by omega), v0, (ds_ok (show x < 1000 by omega)).2.1, (ds_ok (show y < 1000 by omega)).2.1, (ds_ok (show n < 1000 by omega)).2.1]
    by_cases h : n ≤ 255
    · have h1 : decide ((n : Int) < 256) = true := decide_eq_true (by omega)
      rw [decide_eq_true h, h1]
      have s24 : shlI IntKind.u32 (x : Int) 24 = (x : Int) * 16777216 := by
        have : shlI IntKind.u32 (x : Int) 24 = IntKind.u32.wrap ((x : Int) * 2 ^ 24) := shl_eq 24 (by decide)
        rw [this, wu32 (by omega) (by omega)]; rfl
      have s16 : shlI IntKind.u32 (n : Int) 16 = (n : Int) * 65536 := by
        have : shlI IntKind.u32 (n : Int) 16 = IntKind.u32.wrap ((n : Int) * 2 ^ 16) := shl_eq 16 (by decide)
        rw [this, wu32 (by omega) (by omega)]; rfl
      have s8 : shlI IntKind.u32 (y : Int) 8 = (y : Int) * 256 := by
        have : shlI IntKind.u32 (y : Int) 8 = IntKind.u32.wrap ((y : Int) * 2 ^ 8) := shl_eq 8 (by decide)
        rw [this, wu32 (by omega) (by omega)]; rfl
      rw [wu32 (n := (x : Int)) (by omega) (by omega), wu32 (n := (n : Int)) (by omega) (by omega), wu32 (n := (y : Int)) (by omega) (by omega), s24, s16, s8, wu32 (n := (x : Int) * 16777216 + (n : Int) * 65536) (by omega) (by omega), wu32 (n := (x : Int) * 16777216 + (n : Int) * 65536 + (y : Int) * 256) (by omega) (by omega)]
      have ev : ((((x * 256 + n) * 256 + y) * 256 + 0 : Nat) : Int) = (x : Int) * 16777216 + (n : Int) * 65536 + (y : Int) * 256 := by omega
      simp only [Bool.and_self, if_true, ev]
      simp
    · have h1 : decide ((n : Int) < 256) = false := decide_eq_false (by omega)
      rw [decide_eq_false h, h1]
      simp

end Go.Tr
