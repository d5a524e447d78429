/- Numbers in base 10: written, and read. Conditions: the numbers' bounds. -/
import Derived.Test.YtfaaeeabiikhbaaGreatDoorCmdD
import Derived.Test.YtfaaeeabiikhbaaGreatDoorErrL
import Derived.Lib.ItoaLen
import Derived.Lib.AtoiAllCases
import Derived.Test.YtfaaeeabiikhbaaGreatDoorAddrS
namespace Go.Tr
open Go
set_option linter.unusedVariables false
set_option linter.unusedSimpArgs false
set_option maxRecDepth 100000
set_option maxHeartbeats 4000000
theorem parse_snoc : ∀ (l : List UInt8) (acc : Nat) (c : UInt8), Lib.parseUint10 acc (l ++ [c]) = match Lib.parseUint10 acc l with
    | .ok a => Lib.parseUint10 a [c]
    | e => e
  | [], acc, c => by simp [Lib.parseUint10]
  | x :: l, acc, c => by
    simp only [List.cons_append, Lib.parseUint10]
    split
    · split
      · rfl
      · split
        · rfl
        · exact parse_snoc l _ c
    · rfl
theorem dg_nat {d : Nat} (h : d < 10) : (UInt8.ofNat (48 + d)).toNat = 48 + d := by
  rw [UInt8.toNat_ofNat']; omega
theorem parse_dec : ∀ (k u : Nat), u < 10 ^ (k + 1) → u < 18446744073709551616 → Lib.parseUint10 0 (Lib.decDigits u) = .ok u
  | 0, u, h, h2 => by
    rw [Lib.decDigits, dif_pos (by omega)]
    simp only [Lib.parseUint10, dg_nat (show u < 10 by omega)]
    rw [if_pos (by omega), if_neg (by omega), if_neg (by omega)]
    congr 1; omega
  | k + 1, u, h, h2 => by
    rw [Lib.decDigits]
    split
    · rename_i h'
      simp only [Lib.parseUint10, dg_nat h']
      rw [if_pos (by omega), if_neg (by omega), if_neg (by omega)]
      congr 1; omega
    · have p1 : 10 ^ (k + 1 + 1) = 10 * 10 ^ (k + 1) := by rw [Nat.pow_succ, Nat.mul_comm]
      rw [parse_snoc, parse_dec k (u / 10) (by omega) (by omega)]
      simp only [Lib.parseUint10, dg_nat (show u % 10 < 10 by omega)]
      rw [if_pos (by omega), if_neg (by omega), if_neg (by omega)]
      congr 1; omega
theorem dec_ne (u : Nat) : Lib.decDigits u ≠ [] := by
  rw [Lib.decDigits]; split <;> simp
theorem dec_all : ∀ (k u : Nat), u < 10 ^ (k + 1) → ∀ c ∈ Lib.decDigits u, 48 ≤ c.toNat ∧ c.toNat ≤ 57
  | 0, u, h, c, hc => by
    rw [Lib.decDigits, dif_pos (by omega)] at hc
    simp only [List.mem_cons, List.not_mem_nil, or_false] at hc
    subst hc
    rw [dg_nat (by omega)]; omega
  | k + 1, u, h, c, hc => by
    rw [Lib.decDigits] at hc
    split at hc
    · simp only [List.mem_cons, List.not_mem_nil, or_false] at hc
      subst hc
      rw [dg_nat (by omega)]; omega
    · have p1 : 10 ^ (k + 1 + 1) = 10 * 10 ^ (k + 1) := by rw [Nat.pow_succ, Nat.mul_comm]
      rcases List.mem_append.1 hc with hc | hc
      · exact dec_all k (u / 10) (by omega) c hc
      · simp only [List.mem_cons, List.not_mem_nil, or_false] at hc
        subst hc
        rw [dg_nat (by omega)]; omega
theorem dec_digit {u : Nat} (h : u < 18446744073709551616) : ∀ c ∈ Lib.decDigits u, 48 ≤ c.toNat ∧ c.toNat ≤ 57 := dec_all 19 u (by omega)
theorem mag_dec {u : Nat} (h : u < 18446744073709551616) : Lib.parseMag (Lib.decDigits u) = .ok u := by
  unfold Lib.parseMag
  rw [if_neg (dec_ne u), parse_dec 19 u (by omega) h]
theorem atoi_itoa {n : Int} (h : i64 n) : Lib.atoiAll (Lib.itoa n) = .ok n := by
  obtain ⟨h1, h2⟩ := h
  by_cases hn : 0 ≤ n
  · obtain ⟨u, rfl⟩ := Int.eq_ofNat_of_zero_le hn
    rw [Lib.itoa_nonneg]
    have hd := dec_digit (u := u) (by omega)
    have hm := mag_dec (u := u) (by omega)
    have hne := dec_ne u
    unfold Lib.atoiAll
    cases hl : Lib.decDigits u with
    | nil => exact absurd hl hne
    | cons c r =>
      rw [hl] at hd hm
      have hc := hd c (by simp)
      simp only
      rw [if_neg (by omega), hm]
      simp only
      rw [if_neg (by omega), if_neg (by omega), if_neg (by omega)]
  · obtain ⟨u, hu⟩ : ∃ u : Nat, n = -(u : Int) := ⟨n.natAbs, by omega⟩
    subst hu
    rw [Lib.itoa_neg u (by omega)]
    have hm := mag_dec (u := u) (by omega)
    unfold Lib.atoiAll
    simp only
    rw [if_pos (by decide), hm]
    simp only
    rw [if_neg (by intro h; exact h.1 (by decide)), if_neg (by omega), if_pos (by decide)]
noncomputable def nuP (t : List UInt8) : Option Int := by
  classical exact if h : ∃ v, i64 v ∧ Lib.itoa v = t then some h.choose else none
theorem itoa_inj {a b : Int} (ha : i64 a) (hb : i64 b) (h : Lib.itoa a = Lib.itoa b) : a = b := by
  have := atoi_itoa ha
  rw [h, atoi_itoa hb] at this
  injection this with this
  exact this.symm
theorem nuP_some {v : Int} (h : i64 v) : nuP (Lib.itoa v) = some v := by
  unfold nuP
  have hx : ∃ w, i64 w ∧ Lib.itoa w = Lib.itoa v := ⟨v, h, rfl⟩
  rw [dif_pos hx, itoa_inj hx.choose_spec.1 h hx.choose_spec.2]
theorem nuP_none {t : List UInt8} (h : ¬ ∃ v, i64 v ∧ Lib.itoa v = t) : nuP t = none := by
  unfold nuP; rw [dif_neg h]
theorem atoi_eq {t : List UInt8} (ht : t.length ≤ 281474976710656) : ∃ v e, strconv_Atoi t = some (v, e, ()) ∧ i64 v ∧ (errN e = true → Lib.itoa v = t → nuP t = some v) ∧ ((errN e = false ∨ Lib.itoa v ≠ t) → nuP t = none) := by
  unfold strconv_Atoi atoiF
  rw [chk_pos ht]
  by_cases h1 : ∃ v, Lib.atoiAll t = .ok v
  · obtain ⟨v, hv⟩ := h1
    rw [atoiV_ok hv]
    have hb := Lib.atoiAll_bounds hv
    refine ⟨v, .nil, rfl, ⟨hb.1, hb.2⟩, fun _ h => by rw [← h]; exact nuP_some ⟨hb.1, hb.2⟩, fun h => nuP_none ?_⟩
    rintro ⟨w, hw, hw2⟩
    subst hw2
    rw [atoi_itoa hw] at hv
    injection hv with hv
    subst hv
    rcases h with h | h
    · simp at h
    · exact h rfl
  · have hno : nuP t = none := nuP_none (by
      rintro ⟨w, hw, hw2⟩
      subst hw2
      exact h1 ⟨w, atoi_itoa hw⟩)
    by_cases h2 : Lib.atoiAll t = .range
    · rw [atoiV_range h2]
      have := Lib.atoiSat_bounds t
      exact ⟨_, _, rfl, ⟨this.1, this.2⟩, fun h => by simp [errN] at h, fun _ => hno⟩
    · rw [atoiV_no (not_exists.1 h1) h2]
      exact ⟨_, _, rfl, ⟨by decide, by decide⟩, fun h => by simp [errN] at h, fun _ => hno⟩
end Go.Tr
