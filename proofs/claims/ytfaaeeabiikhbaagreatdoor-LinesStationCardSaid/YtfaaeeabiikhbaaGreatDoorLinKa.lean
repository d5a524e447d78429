/- Numbers in base 10: written, and read. The statements' own reading of a number. Conditions: none but those that each theorem states. -/
import Derived.Test.YtfaaeeabiikhbaaGreatDoorCmdD
import Derived.Test.YtfaaeeabiikhbaaGreatDoorErrL
import Derived.Lib.ItoaLen
import Derived.Lib.AtoiAllCases
import Derived.Test.YtfaaeeabiikhbaaGreatDoorAddrS
namespace Go.Tr
open Go
set_option linter.unusedVariables false
set_option linter.unusedSimpArgs false
set_option maxRecDepth 100000
set_option maxHeartbeats 4000000
theorem one_digit : ∀ n : Fin 10, sliceA n.val (n.val + 1) ([48, 49, 50, 51, 52, 53, 54, 55, 56, 57] : List UInt8) = [UInt8.ofNat (48 + n.val)] := by decide
theorem dec_len {u : Nat} (h : u < 18446744073709551616) : (Lib.decDigits u).length ≤ 30 := by
  have : ∀ k v, v < 10 ^ (k + 1) → (Lib.decDigits v).length ≤ k + 1 := by
    intro k
    induction k with
    | zero => intro v hv; rw [Lib.decDigits, dif_pos (by omega)]; simp
    | succ k ih =>
      intro v hv
      rw [Lib.decDigits]
      split
      · simp
      · have := ih (v / 10) (by rw [Nat.pow_succ] at hv; omega)
        simp; omega
  have := this 29 u (by omega)
  exact this
theorem digits_pos : ∀ k u : Nat, u < 10 ^ (k + 1) → u < 9223372036854775808 → k ≤ 40 → terrierlaw08_digits_k (k + 1) (u : Int) = some (Lib.decDigits u, ())
  | 0, u, h, h2, hk => by
    show terrierlaw08_digits_s (terrierlaw08_digits_k 0) (u : Int) = _
    unfold terrierlaw08_digits_s
    have h' : u < 10 := by omega
    rw [decide_eq_false (by omega), cnd_false, decide_eq_true (by omega), cnd_true, ltO_def, w64 (by omega) (by omega), chk_pos (by omega), Lib.decDigits, dif_pos h']
    have := one_digit ⟨u, h'⟩
    simp only at this
    rw [show ((u : Int) + 1).toNat = u + 1 from by omega, Int.toNat_natCast, this]
  | k + 1, u, h, h2, hk => by
    show terrierlaw08_digits_s (terrierlaw08_digits_k (k + 1)) (u : Int) = _
    unfold terrierlaw08_digits_s
    by_cases h' : u < 10
    · rw [decide_eq_false (by omega), cnd_false, decide_eq_true (by omega), cnd_true, ltO_def, w64 (by omega) (by omega), chk_pos (by omega), Lib.decDigits, dif_pos h']
      have := one_digit ⟨u, h'⟩
      simp only at this
      rw [show ((u : Int) + 1).toNat = u + 1 from by omega, Int.toNat_natCast, this]
    · have e1 : ((u : Int).tdiv 10) = ((u / 10 : Nat) : Int) := by rw [Int.tdiv_eq_ediv_of_nonneg (by omega)]; omega
      have e2 : ((u : Int).tmod 10) = ((u % 10 : Nat) : Int) := by rw [Int.tmod_eq_emod_of_nonneg (by omega)]; omega
      rw [decide_eq_false (by omega), cnd_false, decide_eq_false (by omega), cnd_false, chk_pos (by decide), e1, e2]
      simp only [ltO_def]
      have p1 : 10 ^ (k + 1 + 1) = 10 * 10 ^ (k + 1) := by rw [Nat.pow_succ, Nat.mul_comm]
      have p2 : 10 ≤ 10 ^ (k + 1) := by
        have : 10 ^ 1 ≤ 10 ^ (k + 1) := Nat.pow_le_pow_right (by decide) (by omega)
        simpa using this
      rw [w64 (by omega) (by omega), digits_pos k (u / 10) (by omega) (by omega) (by omega), bnd_val, chk_pos (by decide), digits_pos k (u % 10) (by omega) (by omega) (by omega), bnd_val]
      have l1 := dec_len (u := u / 10) (by omega)
      have l2 := dec_len (u := u % 10) (by omega)
      rw [chk_pos (by dsimp only; omega)]
      have e3 : Lib.decDigits (u % 10) = [UInt8.ofNat (48 + u % 10)] := by rw [Lib.decDigits, dif_pos (by omega)]
      have e4 : Lib.decDigits u = Lib.decDigits (u / 10) ++ [UInt8.ofNat (48 + u % 10)] := by rw [Lib.decDigits, dif_neg h']
      rw [e3, e4]
theorem digits_nat {u : Nat} (h : u < 9223372036854775808) {k : Nat} (hk : 18 ≤ k) (hk2 : k ≤ 40) : terrierlaw08_digits_k (k + 1) (u : Int) = some (Lib.decDigits u, ()) := by
  refine digits_pos k u ?_ h hk2
  have : 10 ^ 19 ≤ 10 ^ (k + 1) := Nat.pow_le_pow_right (by decide) (by omega)
  omega
theorem digs_eq {n : Int} (h : i64 n) : terrierlaw08_digits n = some (Lib.itoa n, ()) := by
  unfold terrierlaw08_digits
  obtain ⟨h1, h2⟩ := h
  by_cases hn : 0 ≤ n
  · obtain ⟨u, rfl⟩ := Int.eq_ofNat_of_zero_le hn
    rw [digits_nat (by omega) (k := 23) (by omega) (by omega), Lib.itoa_nonneg]
  · obtain ⟨u, hu⟩ : ∃ u : Nat, n = -(u : Int) := ⟨n.natAbs, by omega⟩
    subst hu
    have hu1 : 1 ≤ u := by omega
    rw [Lib.itoa_neg u hu1]
    show terrierlaw08_digits_s (terrierlaw08_digits_k 23) (-(u : Int)) = _
    unfold terrierlaw08_digits_s
    rw [decide_eq_true (by omega), cnd_true]
    have l1 := dec_len (u := u) (by omega)
    by_cases hs : -(u : Int) < -4611686018427387904
    · have e1 : (-(u : Int)).tdiv 10 = -((u / 10 : Nat) : Int) := by rw [Int.neg_tdiv, Int.tdiv_eq_ediv_of_nonneg (by omega)]; omega
      have e2 : (-(u : Int)).tmod 10 = -((u % 10 : Nat) : Int) := by rw [Int.neg_tmod, Int.tmod_eq_emod_of_nonneg (by omega)]; omega
      rw [decide_eq_true hs, cnd_true, chk_pos (by decide), e1, e2]
      simp only [ltO_def]
      rw [w64 (n := -((u / 10 : Nat) : Int)) (by omega) (by omega), w64 (n := 0 - -((u / 10 : Nat) : Int)) (by omega) (by omega), show (0 : Int) - -((u / 10 : Nat) : Int) = ((u / 10 : Nat) : Int) from by omega, digits_nat (by omega) (k := 22) (by omega) (by omega), bnd_val]
      have l2 := dec_len (u := u / 10) (by omega)
      have l3 := dec_len (u := u % 10) (by omega)
      rw [chk_pos (by dsimp only; omega), chk_pos (by decide), w64 (n := 0 - -((u % 10 : Nat) : Int)) (by omega) (by omega), show (0 : Int) - -((u % 10 : Nat) : Int) = ((u % 10 : Nat) : Int) from by omega, digits_nat (by omega) (k := 22) (by omega) (by omega), bnd_val, chk_pos (by simp only [List.length_append, List.length_cons, List.length_nil]; omega)]
      have e3 : Lib.decDigits (u % 10) = [UInt8.ofNat (48 + u % 10)] := by rw [Lib.decDigits, dif_pos (by omega)]
      have e4 : Lib.decDigits u = Lib.decDigits (u / 10) ++ [UInt8.ofNat (48 + u % 10)] := by rw [Lib.decDigits, dif_neg (by omega)]
      rw [e3, e4]
      simp
    · rw [decide_eq_false hs, cnd_false, ltO_def, w64 (by omega) (by omega), show (0 : Int) - -(u : Int) = (u : Int) from by omega, digits_nat (by omega) (k := 22) (by omega) (by omega), bnd_val, chk_pos (by dsimp only; omega)]
      rfl
theorem parse_snoc : ∀ (l : List UInt8) (acc : Nat) (c : UInt8), Lib.parseUint10 acc (l ++ [c]) = match Lib.parseUint10 acc l with
    | .ok a => Lib.parseUint10 a [c]
    | e => e
  | [], acc, c => by simp [Lib.parseUint10]
  | x :: l, acc, c => by
    simp only [List.cons_append, Lib.parseUint10]
    split
    · split
      · rfl
      · split
        · rfl
        · exact parse_snoc l _ c
    · rfl
theorem dg_nat {d : Nat} (h : d < 10) : (UInt8.ofNat (48 + d)).toNat = 48 + d := by
  rw [UInt8.toNat_ofNat']; omega
theorem parse_dec : ∀ (k u : Nat), u < 10 ^ (k + 1) → u < 18446744073709551616 → Lib.parseUint10 0 (Lib.decDigits u) = .ok u
  | 0, u, h, h2 => by
    rw [Lib.decDigits, dif_pos (by omega)]
    simp only [Lib.parseUint10, dg_nat (show u < 10 by omega)]
    rw [if_pos (by omega), if_neg (by omega), if_neg (by omega)]
    congr 1; omega
  | k + 1, u, h, h2 => by
    rw [Lib.decDigits]
    split
    · rename_i h'
      simp only [Lib.parseUint10, dg_nat h']
      rw [if_pos (by omega), if_neg (by omega), if_neg (by omega)]
      congr 1; omega
    · have p1 : 10 ^ (k + 1 + 1) = 10 * 10 ^ (k + 1) := by rw [Nat.pow_succ, Nat.mul_comm]
      rw [parse_snoc, parse_dec k (u / 10) (by omega) (by omega)]
      simp only [Lib.parseUint10, dg_nat (show u % 10 < 10 by omega)]
      rw [if_pos (by omega), if_neg (by omega), if_neg (by omega)]
      congr 1; omega
theorem dec_ne (u : Nat) : Lib.decDigits u ≠ [] := by
  rw [Lib.decDigits]; split <;> simp
theorem dec_all : ∀ (k u : Nat), u < 10 ^ (k + 1) → ∀ c ∈ Lib.decDigits u, 48 ≤ c.toNat ∧ c.toNat ≤ 57
  | 0, u, h, c, hc => by
    rw [Lib.decDigits, dif_pos (by omega)] at hc
    simp only [List.mem_cons, List.not_mem_nil, or_false] at hc
    subst hc
    rw [dg_nat (by omega)]; omega
  | k + 1, u, h, c, hc => by
    rw [Lib.decDigits] at hc
    split at hc
    · simp only [List.mem_cons, List.not_mem_nil, or_false] at hc
      subst hc
      rw [dg_nat (by omega)]; omega
    · have p1 : 10 ^ (k + 1 + 1) = 10 * 10 ^ (k + 1) := by rw [Nat.pow_succ, Nat.mul_comm]
      rcases List.mem_append.1 hc with hc | hc
      · exact dec_all k (u / 10) (by omega) c hc
      · simp only [List.mem_cons, List.not_mem_nil, or_false] at hc
        subst hc
        rw [dg_nat (by omega)]; omega
theorem dec_digit {u : Nat} (h : u < 18446744073709551616) : ∀ c ∈ Lib.decDigits u, 48 ≤ c.toNat ∧ c.toNat ≤ 57 := dec_all 19 u (by omega)
theorem mag_dec {u : Nat} (h : u < 18446744073709551616) : Lib.parseMag (Lib.decDigits u) = .ok u := by
  unfold Lib.parseMag
  rw [if_neg (dec_ne u), parse_dec 19 u (by omega) h]
theorem atoi_itoa {n : Int} (h : i64 n) : Lib.atoiAll (Lib.itoa n) = .ok n := by
  obtain ⟨h1, h2⟩ := h
  by_cases hn : 0 ≤ n
  · obtain ⟨u, rfl⟩ := Int.eq_ofNat_of_zero_le hn
    rw [Lib.itoa_nonneg]
    have hd := dec_digit (u := u) (by omega)
    have hm := mag_dec (u := u) (by omega)
    have hne := dec_ne u
    unfold Lib.atoiAll
    cases hl : Lib.decDigits u with
    | nil => exact absurd hl hne
    | cons c r =>
      rw [hl] at hd hm
      have hc := hd c (by simp)
      simp only
      rw [if_neg (by omega), hm]
      simp only
      rw [if_neg (by omega), if_neg (by omega), if_neg (by omega)]
  · obtain ⟨u, hu⟩ : ∃ u : Nat, n = -(u : Int) := ⟨n.natAbs, by omega⟩
    subst hu
    rw [Lib.itoa_neg u (by omega)]
    have hm := mag_dec (u := u) (by omega)
    unfold Lib.atoiAll
    simp only
    rw [if_pos (by decide), hm]
    simp only
    rw [if_neg (by intro h; exact h.1 (by decide)), if_neg (by omega), if_pos (by decide)]
noncomputable def nuP (t : List UInt8) : Option Int := by
  classical exact if h : ∃ v, i64 v ∧ Lib.itoa v = t then some h.choose else none
theorem itoa_inj {a b : Int} (ha : i64 a) (hb : i64 b) (h : Lib.itoa a = Lib.itoa b) : a = b := by
  have := atoi_itoa ha
  rw [h, atoi_itoa hb] at this
  injection this with this
  exact this.symm
theorem nuP_some {v : Int} (h : i64 v) : nuP (Lib.itoa v) = some v := by
  unfold nuP
  have hx : ∃ w, i64 w ∧ Lib.itoa w = Lib.itoa v := ⟨v, h, rfl⟩
  rw [dif_pos hx, itoa_inj hx.choose_spec.1 h hx.choose_spec.2]
theorem nuP_none {t : List UInt8} (h : ¬ ∃ v, i64 v ∧ Lib.itoa v = t) : nuP t = none := by
  unfold nuP; rw [dif_neg h]
theorem atoi_eq {t : List UInt8} (ht : t.length ≤ 281474976710656) : ∃ v e, strconv_Atoi t = some (v, e, ()) ∧ i64 v ∧ (errN e = true → Lib.itoa v = t → nuP t = some v) ∧ ((errN e = false ∨ Lib.itoa v ≠ t) → nuP t = none) := by
  unfold strconv_Atoi atoiF
  rw [chk_pos ht]
  by_cases h1 : ∃ v, Lib.atoiAll t = .ok v
  · obtain ⟨v, hv⟩ := h1
    rw [atoiV_ok hv]
    have hb := Lib.atoiAll_bounds hv
    refine ⟨v, .nil, rfl, ⟨hb.1, hb.2⟩, fun _ h => by rw [← h]; exact nuP_some ⟨hb.1, hb.2⟩, fun h => nuP_none ?_⟩
    rintro ⟨w, hw, hw2⟩
    subst hw2
    rw [atoi_itoa hw] at hv
    injection hv with hv
    subst hv
    rcases h with h | h
    · simp at h
    · exact h rfl
  · have hno : nuP t = none := nuP_none (by
      rintro ⟨w, hw, hw2⟩
      subst hw2
      exact h1 ⟨w, atoi_itoa hw⟩)
    by_cases h2 : Lib.atoiAll t = .range
    · rw [atoiV_range h2]
      have := Lib.atoiSat_bounds t
      exact ⟨_, _, rfl, ⟨this.1, this.2⟩, fun h => by simp [errN] at h, fun _ => hno⟩
    · rw [atoiV_no (not_exists.1 h1) h2]
      exact ⟨_, _, rfl, ⟨by decide, by decide⟩, fun h => by simp [errN] at h, fun _ => hno⟩
end Go.Tr
namespace Go.Tr
open Go
set_option linter.unusedVariables false
set_option linter.unusedSimpArgs false
set_option maxRecDepth 100000
set_option maxHeartbeats 4000000
end Go.Tr
