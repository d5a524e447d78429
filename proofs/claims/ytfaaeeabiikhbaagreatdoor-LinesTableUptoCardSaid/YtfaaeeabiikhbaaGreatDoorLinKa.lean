/- Numbers in base 10: written, and read. The statements' own reading of a number. Conditions: none but those that each theorem states. -/
import Derived.Test.YtfaaeeabiikhbaaGreatDoorCmdD
import Derived.Test.YtfaaeeabiikhbaaGreatDoorErrL
import Derived.Lib.ItoaLen
import Derived.Lib.AtoiAllCases
import Derived.Test.YtfaaeeabiikhbaaGreatDoorAddrS
namespace Go.Tr
open Go
set_option linter.unusedVariables false
set_option linter.unusedSimpArgs false
set_option maxRecDepth 100000
set_option maxHeartbeats 4000000
theorem one_digit : ∀ n : Fin 10, sliceA n.val (n.val + 1) ([48, 49, 50, 51, 52, 53, 54, 55, 56, 57] : List UInt8) = [UInt8.ofNat (48 + n.val)] := by decide
theorem dec_len {u : Nat} (h : u < 18446744073709551616) : (Lib.decDigits u).length ≤ 30 := by
  have : ∀ k v, v < 10 ^ (k + 1) → (Lib.decDigits v).length ≤ k + 1 := by
    intro k
    induction k with
    | zero => intro v hv; rw [Lib.decDigits, dif_pos (by omega)]; simp
    | succ k ih =>
      intro v hv
      rw [Lib.decDigits]
      split
      · simp
      · have := ih (v / 10) (by rw [Nat.pow_succ] at hv; omega)
        simp; omega
  have := this 29 u (by omega)
  exact this
theorem digits_pos : ∀ k u : Nat, u < 10 ^ (k + 1) → u < 9223372036854775808 → k ≤ 40 → terrierlaw08_digits_k (k + 1) (u : Int) = some (Lib.decDigits u, ())
  | 0, u, h, h2, hk => by
    show terrierlaw08_digits_s (terrierlaw08_digits_k 0) (u : Int) = _
    unfold terrierlaw08_digits_s
    have h' : u < 10 := by omega
    rw [decide_eq_false (by omega), cnd_false, decide_eq_true (by omega), cnd_true, ltO_def, w64 (by omega) (by omega), chk_pos (by omega), Lib.decDigits, dif_pos h']
    have := one_digit ⟨u, h'⟩
    simp only at this
    rw [show ((u : Int) + 1).toNat = u + 1 from by omega, Int.toNat_natCast, this]
  | k + 1, u, h, h2, hk => by
    show terrierlaw08_digits_s (terrierlaw08_digits_k (k + 1)) (u : Int) = _
    unfold terrierlaw08_digits_s
    by_cases h' : u < 10
    · rw [decide_eq_false (by omega), cnd_false, decide_eq_true (by omega), cnd_true, ltO_def, w64 (by omega) (by omega), chk_pos (by omega), Lib.decDigits, dif_pos h']
      have := one_digit ⟨u, h'⟩
      simp only at this
      rw [show ((u : Int) + 1).toNat = u + 1 from by omega, Int.toNat_natCast, this]
    · have e1 : ((u : Int).tdiv 10) = ((u / 10 : Nat) : Int) := by rw [Int.tdiv_eq_ediv_of_nonneg (by omega)]; omega
      have e2 : ((u : Int).tmod 10) = ((u % 10 : Nat) : Int) := by rw [Int.tmod_eq_emod_of_nonneg (by omega)]; omega
      rw [decide_eq_false (by omega), cnd_false, decide_eq_false (by omega), cnd_false, chk_pos (by decide), e1, e2]
      simp only [ltO_def]
      have p1 : 10 ^ (k + 1 + 1) = 10 * 10 ^ (k + 1) := by rw [Nat.pow_succ, Nat.mul_comm]
      have p2 : 10 ≤ 10 ^ (k + 1) := by
        have : 10 ^ 1 ≤ 10 ^ (k + 1) := Nat.pow_le_pow_right (by decide) (by omega)
        simpa using this
      rw [w64 (by omega) (by omega), digits_pos k (u / 10) (by omega) (by omega) (by omega), bnd_val, chk_pos (by decide), digits_pos k (u % 10) (by omega) (by omega) (by omega), bnd_val]
      have l1 := dec_len (u := u / 10) (by omega)
      have l2 := dec_len (u := u % 10) (by omega)
      rw [chk_pos (by dsimp only; omega)]
      have e3 : Lib.decDigits (u % 10) = [UInt8.ofNat (48 + u % 10)] := by rw [Lib.decDigits, dif_pos (by omega)]
      have e4 : Lib.decDigits u = Lib.decDigits (u / 10) ++ [UInt8.ofNat (48 + u % 10)] := by rw [Lib.decDigits, dif_neg h']
      rw [e3, e4]
theorem digits_nat {u : Nat} (h : u < 9223372036854775808) {k : Nat} (hk : 18 ≤ k) (hk2 : k ≤ 40) : terrierlaw08_digits_k (k + 1) (u : Int) = some (Lib.decDigits u, ()) := by
  refine digits_pos k u ?_ h hk2
  have : 10 ^ 19 ≤ 10 ^ (k + 1) := Nat.pow_le_pow_right (by decide) (by omega)
  omega
theorem digs_eq {n : Int} (h : i64 n) : terrierlaw08_digits n = some (Lib.itoa n, ()) := by
  unfold terrierlaw08_digits
  obtain ⟨h1, h2⟩ := h
  by_cases hn : 0 ≤ n
  · obtain ⟨u, rfl⟩ := Int.eq_ofNat_of_zero_le hn
    rw [digits_nat (by omega) (k := 23) (by omega) (by omega), Lib.itoa_nonneg]
  · obtain ⟨u, hu⟩ : ∃ u : Nat, n = -(u : Int) := ⟨n.natAbs, by omega⟩
    subst hu
    have hu1 : 1 ≤ u := by omega
    rw [Lib.itoa_neg u hu1]
    show terrierlaw08_digits_s (terrierlaw08_digits_k 23) (-(u : Int)) = _
    unfold terrierlaw08_digits_s
    rw [decide_eq_true (by omega), cnd_true]
    have l1 := dec_len (u := u) (by omega)
    by_cases hs : -(u : Int) < -4611686018427387904
    · have e1 : (-(u : Int)).tdiv 10 = -((u / 10 : Nat) : Int) := by rw [Int.neg_tdiv, Int.tdiv_eq_ediv_of_nonneg (by omega)]; omega
      have e2 : (-(u : Int)).tmod 10 = -((u % 10 : Nat) : Int) := by rw [Int.neg_tmod, Int.tmod_eq_emod_of_nonneg (by omega)]; omega
      rw [decide_eq_true hs, cnd_true, chk_pos (by decide), e1, e2]
      simp only [ltO_def]
      rw [w64 (n := -((u / 10 : Nat) : Int)) (by omega) (by omega), w64 (n := 0 - -((u / 10 : Nat) : Int)) (by omega) (by omega), show (0 : Int) - -((u / 10 : Nat) : Int) = ((u / 10 : Nat) : Int) from by omega, digits_nat (by omega) (k := 22) (by omega) (by omega), bnd_val]
      have l2 := dec_len (u := u / 10) (by omega)
      have l3 := dec_len (u := u % 10) (by omega)
      rw [chk_pos (by dsimp only; omega), chk_pos (by decide), w64 (n := 0 - -((u % 10 : Nat) : Int)) (by omega) (by omega), show (0 : Int) - -((u % 10 : Nat) : Int) = ((u % 10 : Nat) : Int) from by omega, digits_nat (by omega) (k := 22) (by omega) (by omega), bnd_val, chk_pos (by simp only [List.length_append, List.length_cons, List.length_nil]; omega)]
      have e3 : Lib.decDigits (u % 10) = [UInt8.ofNat (48 + u % 10)] := by rw [Lib.decDigits, dif_pos (by omega)]
      have e4 : Lib.decDigits u = Lib.decDigits (u / 10) ++ [UInt8.ofNat (48 + u % 10)] := by rw [Lib.decDigits, dif_neg (by omega)]
      rw [e3, e4]
      simp
    · rw [decide_eq_false hs, cnd_false, ltO_def, w64 (by omega) (by omega), show (0 : Int) - -(u : Int) = (u : Int) from by omega, digits_nat (by omega) (k := 22) (by omega) (by omega), bnd_val, chk_pos (by dsimp only; omega)]
      rfl
theorem parse_snoc : ∀ (l : List UInt8) (acc : Nat) (c : UInt8), Lib.parseUint10 acc (l ++ [c]) = match Lib.parseUint10 acc l with
    | .ok a => Lib.parseUint10 a [c]
    | e => e
  | [], acc, c => by simp [Lib.parseUint10]
  | x :: l, acc, c => by
    simp only [List.cons_append, Lib.parseUint10]
    split
    · split
      · rfl
      · split
        · rfl
        · exact parse_snoc l _ c
    · rfl
theorem dg_nat {d : Nat} (h : d < 10) : (UInt8.ofNat (48 + d)).toNat = 48 + d := by
  rw [UInt8.toNat_ofNat']; omega
theorem parse_dec : ∀ (k u : Nat), u < 10 ^ (k + 1) → u < 18446744073709551616 → Lib.parseUint10 0 (Lib.decDigits u) = .ok u
  | 0, u, h, h2 => by
    rw [Lib.decDigits, dif_pos (by omega)]
    simp only [Lib.parseUint10, dg_nat (show u < 10 by omega)]
    rw [if_pos (by omega), if_neg (by omega), if_neg (by omega)]
    congr 1; omega
  | k + 1, u, h, h2 => by
    rw [Lib.decDigits]
    split
    · rename_i h'
      simp only [Lib.parseUint10, dg_nat h']
      rw [if_pos (by omega), if_neg (by omega), if_neg (by omega)]
      congr 1; omega
    · have p1 : 10 ^ (k + 1 + 1) = 10 * 10 ^ (k + 1) := by rw [Nat.pow_succ, Nat.mul_comm]
      rw [parse_snoc, parse_dec k (u / 10) (by omega) (by omega)]
      simp only [Lib.parseUint10, dg_nat (show u % 10 < 10 by omega)]
      rw [if_pos (by omega), if_neg (by omega), if_neg (by omega)]
      congr 1; omega
theorem dec_ne (u : Nat) : Lib.decDigits u ≠ [] := by
  rw [Lib.decDigits]; split <;> simp
theorem dec_all : ∀ (k u : Nat), u < 10 ^ (k + 1) → ∀ c ∈ Lib.decDigits u, 48 ≤ c.toNat ∧ c.toNat ≤ 57
  | 0, u, h, c, hc => by
    rw [Lib.decDigits, dif_pos (by omega)] at hc
    simp only [List.mem_cons, List.not_mem_nil, or_false] at hc
    subst hc
    rw [dg_nat (by omega)]; omega
  | k + 1, u, h, c, hc => by
    rw [Lib.decDigits] at hc
    split at hc
    · simp only [List.mem_cons, List.not_mem_nil, or_false] at hc
      subst hc
      rw [dg_nat (by omega)]; omega
    · have p1 : 10 ^ (k + 1 + 1) = 10 * 10 ^ (k + 1) := by rw [Nat.pow_succ, Nat.mul_comm]
      rcases List.mem_append.1 hc with hc | hc
      · exact dec_all k (u / 10) (by omega) c hc
      · simp only [List.mem_cons, List.not_mem_nil, or_false] at hc
        subst hc
        rw [dg_nat (by omega)]; omega
theorem dec_digit {u : Nat} (h : u < 18446744073709551616) : ∀ c ∈ Lib.decDigits u, 48 ≤ c.toNat ∧ c.toNat ≤ 57 := dec_all 19 u (by omega)
theorem mag_dec {u : Nat} (h : u < 18446744073709551616) : Lib.parseMag (Lib.decDigits u) = .ok u := by
  unfold Lib.parseMag
  rw [if_neg (dec_ne u), parse_dec 19 u (by omega) h]
theorem atoi_itoa {n : Int} (h : i64 n) : Lib.atoiAll (Lib.itoa n) = .ok n := by
  obtain ⟨h1, h2⟩ := h
  by_cases hn : 0 ≤ n
  · obtain ⟨u, rfl⟩ := Int.eq_ofNat_of_zero_le hn
    rw [Lib.itoa_nonneg]
    have hd := dec_digit (u := u) (by omega)
    have hm := mag_dec (u := u) (by omega)
    have hne := dec_ne u
    unfold Lib.atoiAll
    cases hl : Lib.decDigits u with
    | nil => exact absurd hl hne
    | cons c r =>
      rw [hl] at hd hm
      have hc := hd c (by simp)
      simp only
      rw [if_neg (by omega), hm]
      simp only
      rw [if_neg (by omega), if_neg (by omega), if_neg (by omega)]
  · obtain ⟨u, hu⟩ : ∃ u : Nat, n = -(u : Int) := ⟨n.natAbs, by omega⟩
    subst hu
    rw [Lib.itoa_neg u (by omega)]
    have hm := mag_dec (u := u) (by omega)
    unfold Lib.atoiAll
    simp only
    rw [if_pos (by decide), hm]
    simp only
    rw [if_neg (by intro h; exact h.1 (by decide)), if_neg (by omega), if_pos (by decide)]
noncomputable def nuP (t : List UInt8) : Option Int := by
  classical exact if h : ∃ v, i64 v ∧ Lib.itoa v = t then some h.choose else none
theorem itoa_inj {a b : Int} (ha : i64 a) (hb : i64 b) (h : Lib.itoa a = Lib.itoa b) : a = b := by
  have := atoi_itoa ha
  rw [h, atoi_itoa hb] at this
  injection this with this
  exact this.symm
theorem nuP_some {v : Int} (h : i64 v) : nuP (Lib.itoa v) = some v := by
  unfold nuP
  have hx : ∃ w, i64 w ∧ Lib.itoa w = Lib.itoa v := ⟨v, h, rfl⟩
  rw [dif_pos hx, itoa_inj hx.choose_spec.1 h hx.choose_spec.2]
theorem nuP_none {t : List UInt8} (h : ¬ ∃ v, i64 v ∧ Lib.itoa v = t) : nuP t = none := by
  unfold nuP; rw [dif_neg h]
theorem atoi_eq {t : List UInt8} (ht : t.length ≤ 281474976710656) : ∃ v e, strconv_Atoi t = some (v, e, ()) ∧ i64 v ∧ (errN e = true → Lib.itoa v = t → nuP t = some v) ∧ ((errN e = false ∨ Lib.itoa v ≠ t) → nuP t = none) := by
  unfold strconv_Atoi atoiF
  rw [chk_pos ht]
  by_cases h1 : ∃ v, Lib.atoiAll t = .ok v
  · obtain ⟨v, hv⟩ := h1
    rw [atoiV_ok hv]
    have hb := Lib.atoiAll_bounds hv
    refine ⟨v, .nil, rfl, ⟨hb.1, hb.2⟩, fun _ h => by rw [← h]; exact nuP_some ⟨hb.1, hb.2⟩, fun h => nuP_none ?_⟩
    rintro ⟨w, hw, hw2⟩
    subst hw2
    rw [atoi_itoa hw] at hv
    injection hv with hv
    subst hv
    rcases h with h | h
    · simp at h
    · exact h rfl
  · have hno : nuP t = none := nuP_none (by
      rintro ⟨w, hw, hw2⟩
      subst hw2
      exact h1 ⟨w, atoi_itoa hw⟩)
    by_cases h2 : Lib.atoiAll t = .range
    · rw [atoiV_range h2]
      have := Lib.atoiSat_bounds t
      exact ⟨_, _, rfl, ⟨this.1, this.2⟩, fun h => by simp [errN] at h, fun _ => hno⟩
    · rw [atoiV_no (not_exists.1 h1) h2]
      exact ⟨_, _, rfl, ⟨by decide, by decide⟩, fun h => by simp [errN] at h, fun _ => hno⟩
end Go.Tr
namespace Go.Tr
open Go
set_option linter.unusedVariables false
set_option linter.unusedSimpArgs false
set_option maxRecDepth 100000
set_option maxHeartbeats 4000000
theorem i64_in (n : Int) : i64 (IntKind.i64.wrap n) := by unfold i64; rw [i64_wrap]; omega
theorem nloop_ok {s : List UInt8} (hs : s.length ≤ 1000) {k0 : Int} {j0 : Nat} (hk : k0 = j0) (hj : j0 ≤ s.length) : Ok (terrierlaw08_number_l0 (s, 0, k0, k0, ())) (fun y => match y with
    | .inl t => t.1 = s ∧ t.2.2.1 = k0 ∧ i64 t.2.1
    | .inr r => r = (0, false, ())) := by
  unfold terrierlaw08_number_l0
  refine Ok.loop (fun t : (List UInt8) × Int × Int × Int × Unit => t.1 = s ∧ t.2.2.1 = k0 ∧ i64 t.2.1 ∧ ∃ i : Nat, t.2.2.2.1 = (i : Int) ∧ i ≤ s.length) (fun t => s.length - t.2.2.2.1.toNat) ⟨rfl, rfl, ⟨by show (-9223372036854775808 : Int) ≤ 0; decide, by show (0 : Int) ≤ 9223372036854775807; decide⟩, j0, hk, hj⟩ ?_
  rintro ⟨s', n, k, i, ⟨⟩⟩ ⟨q1, q2, q3, j, q4, hj⟩
  dsimp only at q1 q2 q3 q4
  subst q1 q2 q4
  show Ok (terrierlaw08_number_b0 s' n k (j : Int)) _
  unfold terrierlaw08_number_b0
  by_cases h : j < s'.length
  · simp only [ltO_def, chk_same, chk_nn, Int.toNat_natCast]
    rw [decide_eq_true (by omega), cnd_true, chk_pos (by omega), chk_pos (by intro _; omega), w64 (n := (j : Int) + 1) (by omega) (by omega)]
    refine Ok.cnd (fun _ => Ok.some rfl) (fun _ => ?_)
    rw [chk_pos (by omega)]
    refine Ok.some ⟨⟨rfl, rfl, i64_in _, j + 1, by show (j : Int) + 1 = _; omega, by show j + 1 ≤ _; omega⟩, ?_⟩
    show s'.length - ((j : Int) + 1).toNat < s'.length - ((j : Nat) : Int).toNat
    omega
  · rw [decide_eq_false (by omega), cnd_false]
    exact Ok.some ⟨rfl, rfl, q3⟩
theorem nfin_ok {s : List UInt8} {N : Int} (hN : i64 N) : ∃ b, (bndG (!s == []) (terrierlaw08_digits N) ([], ()) fun y => ltO (y.fst == s) fun (v20 : Bool) => ltO ((!s == []) && v20) fun (v21 : Bool) => some (N, v21, ())) = some (N, b, ()) ∧ (b = true → Lib.itoa N = s) := by
  rw [digs_eq hN, bndG_val]
  refine ⟨_, rfl, fun h => ?_⟩
  simp only [Bool.and_eq_true, beq_iff_eq] at h
  exact h.2
theorem number_res {s : List UInt8} (hs : s.length ≤ 1000) : ∃ N b, terrierlaw08_number s = some (N, b, ()) ∧ (b = true → i64 N ∧ Lib.itoa N = s) := by
  unfold terrierlaw08_number
  simp only [ltO_def, chk_same]
  rw [chk_pos (by intro h; simp at h; omega)]
  have key : ∀ (k0 : Int) (j0 : Nat), k0 = j0 → j0 ≤ s.length → ∃ N b, (bnd (terrierlaw08_number_l0 (s, (0 : Int), k0, k0, ())) fun y13 =>
   sumO y13 (fun t14 =>
    cnd (t14.snd.snd.fst == (1 : Int)) (
     bndG (!t14.fst == []) (terrierlaw08_digits (IntKind.i64.wrap ((0 : Int) - t14.snd.fst))) ([], ()) fun y19 =>
     some (IntKind.i64.wrap ((0 : Int) - t14.snd.fst), (!t14.fst == []) && (y19.fst == t14.fst), ())) (
     bndG (!t14.fst == []) (terrierlaw08_digits (t14.snd.fst)) ([], ()) fun y23 =>
     some (t14.snd.fst, (!t14.fst == []) && (y23.fst == t14.fst), ()))) (fun r15 =>
    some (r15))) = some (N, b, ()) ∧ (b = true → i64 N ∧ Lib.itoa N = s) := by
    intro k0 j0 hk hj
    obtain ⟨y, hy, hq⟩ := nloop_ok hs hk hj
    rw [hy, bnd_val]
    cases y with
    | inr r =>
      simp only at hq
      subst hq
      exact ⟨0, false, rfl, fun h => by simp at h⟩
    | inl t =>
      obtain ⟨t1, n, k, ⟨⟩⟩ := t
      obtain ⟨q1, q2, q3⟩ := hq
      dsimp only at q1 q2 q3
      subst q1 q2
      rw [sumO_inl]
      dsimp only
      by_cases hk1 : k = 1
      · rw [show (k == 1) = true from by simp [hk1], cnd_true]
        obtain ⟨b, h1, h2⟩ := nfin_ok (s := t1) (i64_in (0 - n))
        exact ⟨_, b, h1, fun h => ⟨i64_in _, h2 h⟩⟩
      · rw [show (k == 1) = false from by simp [hk1], cnd_false]
        obtain ⟨b, h1, h2⟩ := nfin_ok (s := t1) q3
        exact ⟨_, b, h1, fun h => ⟨q3, h2 h⟩⟩
  by_cases h : 1 < s.length
  · cases hc : (decide (((s.length : Nat) : Int) > 1) && (((s.getD 0 0).toNat : Int) == 45)) with
    | true => rw [cnd_true]; exact key 1 1 rfl (by omega)
    | false => rw [cnd_false]; exact key 0 0 rfl (by omega)
  · rw [decide_eq_false (by omega), Bool.false_and, cnd_false]
    exact key 0 0 rfl (by omega)
theorem wrap_ex (n : Int) : ∃ q, IntKind.i64.wrap n = n - 18446744073709551616 * q := ⟨(n + 9223372036854775808) / 18446744073709551616, by rw [i64_wrap]; omega⟩
theorem wrap_sub (x k : Int) : IntKind.i64.wrap (x - 18446744073709551616 * k) = IntKind.i64.wrap x := by
  rw [i64_wrap, i64_wrap]
  have : x - 18446744073709551616 * k + 9223372036854775808 = x + 9223372036854775808 - 18446744073709551616 * k := by omega
  rw [this, Int.sub_mul_emod_self_left]
theorem wrap_step (a d : Int) : IntKind.i64.wrap (IntKind.i64.wrap (IntKind.i64.wrap a * 10) + d) = IntKind.i64.wrap (a * 10 + d) := by
  obtain ⟨q1, h1⟩ := wrap_ex a
  obtain ⟨q2, h2⟩ := wrap_ex (IntKind.i64.wrap a * 10)
  rw [h2, h1, show (a - 18446744073709551616 * q1) * 10 - 18446744073709551616 * q2 + d = (a * 10 + d) - 18446744073709551616 * (10 * q1 + q2) from by omega, wrap_sub]
def spell (l : List UInt8) : Nat := l.foldl (fun a c => a * 10 + (c.toNat - 48)) 0
theorem spell_snoc (l : List UInt8) (c : UInt8) : spell (l ++ [c]) = spell l * 10 + (c.toNat - 48) := by
  unfold spell; rw [List.foldl_append]; rfl
theorem spell_dec : ∀ (k u : Nat), u < 10 ^ (k + 1) → spell (Lib.decDigits u) = u
  | 0, u, h => by
    rw [Lib.decDigits, dif_pos (by omega)]
    show 0 * 10 + ((UInt8.ofNat (48 + u)).toNat - 48) = u
    rw [dg_nat (by omega)]; omega
  | k + 1, u, h => by
    rw [Lib.decDigits]
    split
    · show 0 * 10 + ((UInt8.ofNat (48 + u)).toNat - 48) = u
      rw [dg_nat (by omega)]; omega
    · have p1 : 10 ^ (k + 1 + 1) = 10 * 10 ^ (k + 1) := by rw [Nat.pow_succ, Nat.mul_comm]
      rw [spell_snoc, spell_dec k (u / 10) (by omega), dg_nat (by omega)]; omega
theorem len20 {u : Nat} (h : u < 18446744073709551616) : (Lib.decDigits u).length ≤ 20 := by
  have : ∀ k v, v < 10 ^ (k + 1) → (Lib.decDigits v).length ≤ k + 1 := by
    intro k
    induction k with
    | zero => intro v hv; rw [Lib.decDigits, dif_pos (by omega)]; simp
    | succ k ih =>
      intro v hv
      rw [Lib.decDigits]
      split
      · simp
      · have := ih (v / 10) (by rw [Nat.pow_succ] at hv; omega)
        simp; omega
  exact this 19 u (by omega)
theorem nloop_dec {pre : List UInt8} {u : Nat} (hp : pre.length ≤ 1) (hu : u < 18446744073709551616) : terrierlaw08_number_l0 (pre ++ Lib.decDigits u, 0, ((pre.length : Nat) : Int), ((pre.length : Nat) : Int), ()) =
    some (.inl (pre ++ Lib.decDigits u, IntKind.i64.wrap (u : Int), ((pre.length : Nat) : Int), ())) := by
  have hd := dec_digit hu
  have hl := len20 hu
  have hsp := spell_dec 19 u (by omega)
  generalize hD : Lib.decDigits u = D at hd hl hsp
  have hL : (pre ++ D).length = pre.length + D.length := by simp
  unfold terrierlaw08_number_l0
  have S := loopM_steps (f := fun s : (List UInt8) × Int × Int × Int × Unit => terrierlaw08_number_b0 s.1 s.2.1 s.2.2.1 s.2.2.2.1) (fun i => (pre ++ D, IntKind.i64.wrap ((spell (D.take i) : Nat) : Int), ((pre.length : Nat) : Int), ((pre.length + i : Nat) : Int), ())) (a := 0) (n := D.length) (Nat.zero_le _) (fun i _ hi => by
    show terrierlaw08_number_b0 (pre ++ D) (IntKind.i64.wrap ((spell (D.take i) : Nat) : Int)) ((pre.length : Nat) : Int) ((pre.length + i : Nat) : Int) = _
    unfold terrierlaw08_number_b0
    have e1 : (pre ++ D).getD (pre.length + i) 0 = D.getD i 0 := by
      rw [List.getD_eq_getElem?_getD, List.getElem?_append_right (by omega), List.getD_eq_getElem?_getD]
      congr 2; omega
    have hg : 48 ≤ (D.getD i 0).toNat ∧ (D.getD i 0).toNat ≤ 57 := hd _ (by
      rw [List.getD_eq_getElem?_getD, List.getElem?_eq_getElem hi]; exact List.getElem_mem hi)
    have e2 : D.take (i + 1) = D.take i ++ [D.getD i 0] := by
      rw [List.take_succ_eq_append_getElem hi]
      simp [List.getD_eq_getElem?_getD, hi]
    simp only [ltO_def, chk_same, chk_nn, Int.toNat_natCast]
    rw [e1, e2, spell_snoc, decide_eq_true (by omega), cnd_true, chk_pos (by omega), chk_pos (by intro _; omega)]
    rw [show (decide (((D.getD i 0).toNat : Int) < 48) || decide (((D.getD i 0).toNat : Int) > 57)) = false from Bool.or_eq_false_iff.2 ⟨decide_eq_false (by omega), decide_eq_false (by omega)⟩, show (false || decide (((pre.length + i : Nat) : Int) > 24)) = false from Bool.or_eq_false_iff.2 ⟨rfl, decide_eq_false (by omega)⟩, cnd_false, chk_pos (by omega)]
    rw [wu8 (by omega) (by omega), w64 (n := ((D.getD i 0).toNat : Int) - 48) (by omega) (by omega), w64 (n := ((pre.length + i : Nat) : Int) + 1) (by omega) (by omega)]
    have e3 : IntKind.i64.wrap (IntKind.i64.wrap (IntKind.i64.wrap ((spell (D.take i) : Nat) : Int) * 10) + (((D.getD i 0).toNat : Int) - 48)) = IntKind.i64.wrap (((spell (D.take i) * 10 + ((D.getD i 0).toNat - 48) : Nat)) : Int) := by
      rw [wrap_step]
      congr 1
      omega
    rw [e3]
    congr 4)
  have S' : loopM (fun s : (List UInt8) × Int × Int × Int × Unit => terrierlaw08_number_b0 s.1 s.2.1 s.2.2.1 s.2.2.2.1) (pre ++ D, 0, ((pre.length : Nat) : Int), ((pre.length : Nat) : Int), ()) = _ := S
  rw [S']
  refine loopM_last ?_
  show terrierlaw08_number_b0 (pre ++ D) (IntKind.i64.wrap ((spell (D.take D.length) : Nat) : Int)) ((pre.length : Nat) : Int) ((pre.length + D.length : Nat) : Int) = _
  unfold terrierlaw08_number_b0
  rw [decide_eq_false (by omega), cnd_false, List.take_length, hsp]
theorem number_itoa {v : Int} (h : i64 v) : terrierlaw08_number (Lib.itoa v) = some (v, true, ()) := by
  have hne : ∀ u, ((!Lib.decDigits u == []) : Bool) = true := fun u => by have := dec_ne u; simp [this]
  obtain ⟨h1, h2⟩ := h
  unfold terrierlaw08_number
  simp only [ltO_def, chk_same]
  rw [chk_pos (by intro h; simp at h; omega)]
  by_cases hn : 0 ≤ v
  · obtain ⟨u, rfl⟩ := Int.eq_ofNat_of_zero_le hn
    rw [Lib.itoa_nonneg]
    have L := nloop_dec (pre := []) (u := u) (by simp) (by omega)
    have hd := dec_digit (u := u) (by omega)
    simp only [List.nil_append, List.length_nil, Int.natCast_zero] at L
    have hc : (decide ((((Lib.decDigits u).length : Nat) : Int) > 1) && ((((Lib.decDigits u).getD 0 0).toNat : Int) == 45)) = false := by
      cases hD : Lib.decDigits u with
      | nil => simp
      | cons c r =>
        rw [hD] at hd
        have := hd c (by simp)
        have : ((c.toNat : Int) == 45) = false := by simp; omega
        simp [this]
    rw [hc, cnd_false, L, bnd_val, sumO_inl]
    dsimp only
    rw [show ((0 : Int) == 1) = false from rfl, cnd_false, w64 (by omega) (by omega), digs_eq ⟨h1, h2⟩, bndG_val, Lib.itoa_nonneg, hne]
    simp
  · obtain ⟨u, hu⟩ : ∃ u : Nat, v = -(u : Int) := ⟨v.natAbs, by omega⟩
    subst hu
    have L := nloop_dec (pre := [45]) (u := u) (by simp) (by omega)
    have e : ([45] ++ Lib.decDigits u : List UInt8) = 45 :: Lib.decDigits u := rfl
    rw [e] at L
    have L' : terrierlaw08_number_l0 (45 :: Lib.decDigits u, 0, 1, 1, ()) = some (.inl (45 :: Lib.decDigits u, IntKind.i64.wrap (u : Int), 1, ())) := L
    have hi := Lib.itoa_neg u (by omega)
    have hlen : 0 < (Lib.decDigits u).length := List.length_pos_iff.2 (dec_ne u)
    rw [hi]
    have hc : (decide ((((45 :: Lib.decDigits u).length : Nat) : Int) > 1) && ((((45 :: Lib.decDigits u).getD 0 0).toNat : Int) == 45)) = true := by
      simp; omega
    rw [hc, cnd_true, L', bnd_val, sumO_inl]
    dsimp only
    have ew : IntKind.i64.wrap (0 - IntKind.i64.wrap (u : Int)) = -(u : Int) := by simp only [i64_wrap]; omega
    rw [show ((1 : Int) == 1) = true from rfl, cnd_true, ew, digs_eq ⟨h1, h2⟩, bndG_val, hi]
    simp
theorem number_nuP {s : List UInt8} (hs : s.length ≤ 1000) : ∃ N b, terrierlaw08_number s = some (N, b, ()) ∧ (b = true → nuP s = some N ∧ i64 N) ∧ (b = false → nuP s = none) := by
  obtain ⟨N, b, h1, h2⟩ := number_res hs
  refine ⟨N, b, h1, fun hb => ?_, fun hb => nuP_none ?_⟩
  · obtain ⟨a, c⟩ := h2 hb
    rw [← c]; exact ⟨nuP_some a, a⟩
  · rintro ⟨v, hv, rfl⟩
    rw [number_itoa hv] at h1
    have := congrArg (fun x => x.map (fun y => y.2.1)) h1
    simp at this
    rw [hb] at this; cases this
end Go.Tr
