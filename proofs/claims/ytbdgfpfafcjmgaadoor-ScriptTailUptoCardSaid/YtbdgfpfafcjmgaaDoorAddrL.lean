/- Texts of addresses: the printed functions' answers in plain words. Conditions: none but the numbers' bounds. -/
import Derived.Test.YtbdgfpfafcjmgaaDoorUN
import Derived.Test.YtbdgfpfafcjmgaaDoorAddrD
namespace Go.Tr
open Go
set_option linter.unusedVariables false
set_option linter.unusedSimpArgs false
set_option maxRecDepth 100000
set_option maxHeartbeats 4000000

/-! ### Numerals of up to three digits -/

def dg8 (n : Nat) : UInt8 := UInt8.ofNat (48 + n)
def ds (u : Nat) : List UInt8 := if u < 10 then [dg8 u] else if u < 100 then [dg8 (u / 10), dg8 (u % 10)] else [dg8 (u / 100), dg8 (u / 10 % 10), dg8 (u % 10)]

theorem decDigits_ds {u : Nat} (h : u < 1000) : Lib.decDigits u = ds u := by
  have d1 : ∀ v, v < 10 → Lib.decDigits v = [dg8 v] := fun v hv => by rw [Lib.decDigits, dif_pos hv]; rfl
  have d2 : ∀ v, 10 ≤ v → v < 100 → Lib.decDigits v = [dg8 (v / 10), dg8 (v % 10)] := fun v h1 hv => by
    rw [Lib.decDigits, dif_neg (by omega), d1 _ (by omega)]; rfl
  unfold ds
  by_cases h1 : u < 10
  · rw [if_pos h1, d1 u h1]
  · rw [if_neg h1]
    by_cases h2 : u < 100
    · rw [if_pos h2, d2 u (by omega) h2]
    · rw [if_neg h2, Lib.decDigits, dif_neg h1, d2 _ (by omega) (by omega)]
      have e : u / 10 / 10 = u / 100 := by omega
      rw [e]; rfl

theorem itoa_ds {n : Int} (h0 : 0 ≤ n) (h1 : n < 1000) : strconv_Itoa n = some (ds n.toNat, ()) := by
  unfold strconv_Itoa Lib.itoa
  rw [chk_pos (by omega), if_neg (by omega), decDigits_ds (by omega)]

def isDg (c : UInt8) : Bool := decide (48 ≤ c.toNat) && decide (c.toNat ≤ 57)
def valN (s : List UInt8) : Nat := s.foldl (fun n c => 10 * n + (c.toNat - 48)) 0
def goodN (s : List UInt8) : Bool := s != [] && (decide (s.length ≤ 3) && ((decide (s.length ≤ 1) || s.getD 0 0 != 48) && s.all isDg))

theorem ds_good : ∀ u : Fin 1000, (goodN (ds u.val) && (valN (ds u.val) == u.val) && (decide (1 ≤ (ds u.val).length) && decide ((ds u.val).length ≤ 3))) = true := by decide +kernel
theorem dg8_of {c : UInt8} (h : isDg c = true) : ∃ k : Fin 10, c = dg8 k.val := by
  simp only [isDg, Bool.and_eq_true, decide_eq_true_eq] at h
  refine ⟨⟨c.toNat - 48, by omega⟩, ?_⟩
  apply UInt8.toNat.inj
  simp only [dg8, UInt8.toNat_ofNat']
  omega
theorem ds3 : ∀ a b c : Fin 10, (a.val = 0 ∨ (valN [dg8 a.val, dg8 b.val, dg8 c.val] < 1000 ∧ ds (valN [dg8 a.val, dg8 b.val, dg8 c.val]) = [dg8 a.val, dg8 b.val, dg8 c.val])) := by decide +kernel
theorem ds2 : ∀ a b : Fin 10, (a.val = 0 ∨ (valN [dg8 a.val, dg8 b.val] < 1000 ∧ ds (valN [dg8 a.val, dg8 b.val]) = [dg8 a.val, dg8 b.val])) := by decide +kernel
theorem ds1 : ∀ a : Fin 10, valN [dg8 a.val] < 1000 ∧ ds (valN [dg8 a.val]) = [dg8 a.val] := by decide +kernel

theorem good_ds {s : List UInt8} (h : goodN s = true) : valN s < 1000 ∧ ds (valN s) = s := by
  simp only [goodN, Bool.and_eq_true, Bool.or_eq_true, decide_eq_true_eq, bne_iff_ne, ne_eq] at h
  obtain ⟨h0, h3, h1, hd⟩ := h
  match s, h0, h3, h1, hd with
  | [], h0, _, _, _ => exact absurd rfl h0
  | [a], _, _, _, hd =>
    simp only [List.all_cons, Bool.and_eq_true] at hd
    obtain ⟨x, rfl⟩ := dg8_of hd.1
    exact ds1 x
  | [a, b], _, _, h1, hd =>
    simp only [List.all_cons, Bool.and_eq_true] at hd
    obtain ⟨x, rfl⟩ := dg8_of hd.1
    obtain ⟨y, rfl⟩ := dg8_of hd.2.1
    rcases ds2 x y with h | h
    · rcases h1 with h1 | h1
      · simp at h1
      · rw [h] at h1; exact absurd rfl h1
    · exact h
  | [a, b, c], _, _, h1, hd =>
    simp only [List.all_cons, Bool.and_eq_true] at hd
    obtain ⟨x, rfl⟩ := dg8_of hd.1
    obtain ⟨y, rfl⟩ := dg8_of hd.2.1
    obtain ⟨z, rfl⟩ := dg8_of hd.2.2.1
    rcases ds3 x y z with h | h
    · rcases h1 with h1 | h1
      · simp at h1
      · rw [h] at h1; exact absurd rfl h1
    · exact h
  | a :: b :: c :: d :: r, _, h3, _, _ => simp at h3

theorem ds_ok {u : Nat} (h : u < 1000) : goodN (ds u) = true ∧ valN (ds u) = u ∧ 1 ≤ (ds u).length ∧ (ds u).length ≤ 3 := by
  have := ds_good ⟨u, h⟩
  simp only [Bool.and_eq_true, decide_eq_true_eq, beq_iff_eq] at this
  exact ⟨this.1.1, this.1.2, this.2.1, this.2.2⟩

theorem digits_eq {n : Int} (h0 : 0 ≤ n) (h1 : n < 1000) : terrierlaw01_digits n = some (ds n.toNat, ()) := by
  have base : ∀ (f : Int → Option (List UInt8 × Unit)) (n : Int), 0 ≤ n → n < 10 → terrierlaw01_digits_s f n = some ([dg8 n.toNat], ()) := by
    intro f n h0 h1
    unfold terrierlaw01_digits_s
    rw [decide_eq_true h1, cnd_true, w64 (by omega) (by omega), ltO_def, chk_pos (by omega)]
    have := all_n (p := fun n => sliceA n.toNat (n + 1).toNat [(48 : UInt8), 49, 50, 51, 52, 53, 54, 55, 56, 57] = [dg8 n.toNat]) 10 (by decide) h0 h1
    rw [this]
  have step : ∀ (f : Int → Option (List UInt8 × Unit)) (n : Int) (x y : List UInt8), 10 ≤ n → n < 1000 → f (n / 10) = some (x, ()) → f (n % 10) = some (y, ()) → x.length ≤ 3 → y.length ≤ 3 → terrierlaw01_digits_s f n = some (x ++ y, ()) := by
    intro f n x y h0 h1 hx hy hlx hly
    unfold terrierlaw01_digits_s
    rw [decide_eq_false (by omega), cnd_false, chk_pos (by decide), Int.tdiv_eq_ediv_of_nonneg (by omega), w64 (by omega) (by omega), ltO_def, hx, bnd_val, chk_pos (by decide), Int.tmod_eq_emod_of_nonneg (by omega), ltO_def, hy, bnd_val, chk_pos (by simp; omega)]
    rfl
  have k1 : ∀ k n, 0 ≤ n → n < 10 → terrierlaw01_digits_k (k + 1) n = some ([dg8 n.toNat], ()) := fun k n h0 h1 => base _ n h0 h1
  have k2 : ∀ k n, 10 ≤ n → n < 100 → terrierlaw01_digits_k (k + 2) n = some ([dg8 (n / 10).toNat, dg8 (n % 10).toNat], ()) := fun k n h0 h1 =>
    step _ n _ _ h0 (by omega) (k1 k _ (by omega) (by omega)) (k1 k _ (by omega) (by omega)) (by simp) (by simp)
  have k3 : ∀ k n, 100 ≤ n → n < 1000 → terrierlaw01_digits_k (k + 3) n = some ([dg8 (n / 10 / 10).toNat, dg8 (n / 10 % 10).toNat, dg8 (n % 10).toNat], ()) := fun k n h0 h1 =>
    step _ n _ _ (by omega) h1 (k2 k _ (by omega) (by omega)) (k1 (k + 1) _ (by omega) (by omega)) (by simp) (by simp)
  unfold terrierlaw01_digits
  unfold ds
  by_cases a : n < 10
  · rw [if_pos (by omega)]; exact k1 3 n h0 a
  · rw [if_neg (by omega)]
    by_cases b : n < 100
    · rw [if_pos (by omega), k2 2 n (by omega) b]
      rw [show (n / 10).toNat = n.toNat / 10 from by omega, show (n % 10).toNat = n.toNat % 10 from by omega]
    · rw [if_neg (by omega), k3 1 n (by omega) h1]
      rw [show (n / 10 / 10).toNat = n.toNat / 100 from by omega, show (n / 10 % 10).toNat = n.toNat / 10 % 10 from by omega, show (n % 10).toNat = n.toNat % 10 from by omega]

theorem valN_take {s : List UInt8} {i : Nat} (h : i < s.length) : valN (s.take (i + 1)) = 10 * valN (s.take i) + ((s.getD i 0).toNat - 48) := by
  unfold valN
  rw [List.take_add_one, List.getElem?_eq_getElem h, Option.toList_some, List.foldl_append]
  simp [h]
theorem valN_small : ∀ (s : List UInt8), s.length ≤ 3 → valN s ≤ 255000
  | [], _ => by simp [valN]
  | [a], _ => by have := a.toNat_lt; simp [valN]; omega
  | [a, b], _ => by have := a.toNat_lt; have := b.toNat_lt; simp [valN]; omega
  | [a, b, c], _ => by have := a.toNat_lt; have := b.toNat_lt; have := c.toNat_lt; simp [valN]; omega
  | a :: b :: c :: d :: r, h => by simp at h

theorem number_body {s : List UInt8} (h3 : s.length ≤ 3) (most : Int) (i : Nat) (hi : i < s.length) :
    addr_number_b0 s most (valN (s.take i) : Int) (s.length : Int) (i : Int) = if isDg (s.getD i 0) = true then some (.inl (s, most, (valN (s.take (i + 1)) : Int), (s.length : Int), ((i + 1 : Nat) : Int), ())) else some (.inr (.inr (0, false, ()))) := by
  have hv := valN_small (s.take i) (by simp; omega)
  have hc := (s.getD i 0).toNat_lt
  unfold addr_number_b0
  simp only [ltO_def, chk_same, chk_nn, Int.toNat_natCast]
  rw [decide_eq_true (by omega : (i : Int) < (s.length : Int)), cnd_true, chk_pos (by omega), chk_pos (by intro _; omega), cnd_ite]
  cases hd : isDg (s.getD i 0) with
  | false =>
    simp only [isDg, Bool.and_eq_false_iff, decide_eq_false_iff_not] at hd
    rw [if_pos (by simp only [Bool.or_eq_true, decide_eq_true_eq]; omega)]
    rfl
  | true =>
    simp only [isDg, Bool.and_eq_true, decide_eq_true_eq] at hd
    rw [if_neg (by simp only [Bool.or_eq_true, decide_eq_true_eq]; omega), chk_pos (by omega), valN_take hi]
    rw [w64 (n := 10 * (valN (s.take i) : Int)) (by omega) (by omega), wu8 (by omega) (by omega), w64 (n := ((s.getD i 0).toNat : Int) - 48) (by omega) (by omega), w64 (by omega) (by omega), w64 (by omega) (by omega)]
    simp only [if_true]
    rw [show 10 * (valN (s.take i) : Int) + (((s.getD i 0).toNat : Int) - 48) = ((10 * valN (s.take i) + ((s.getD i 0).toNat - 48) : Nat) : Int) from by omega]
    rfl

theorem all_range {s : List UInt8} : (List.range' 0 s.length).all (fun i => isDg (s.getD i 0)) = s.all isDg := by
  apply Bool.eq_iff_iff.2
  simp only [List.all_eq_true, List.mem_range'_1]
  constructor
  · intro h x hx
    obtain ⟨i, hi, rfl⟩ := List.mem_iff_getElem.1 hx
    have := h i ⟨by omega, by omega⟩
    simpa [hi] using this
  · intro h i hi
    have hi' : i < s.length := by omega
    have := h s[i] (List.getElem_mem hi')
    simpa [hi'] using this

theorem number_eq (s : List UInt8) (most : Int) : addr_number s most = some (if goodN s = true then ((valN s : Int), decide ((valN s : Int) ≤ most), ()) else (0, false, ())) := by
  unfold addr_number
  simp only [ltO_def, chk_same, chk_nn, chk_and]
  by_cases h1 : s == [] || decide ((s.length : Int) > 3)
  · rw [h1]
    simp only [Bool.not_true, Bool.false_and, Bool.true_or, cnd_true]
    rw [chk_pos (by simp), if_neg]
    simp only [Bool.or_eq_true, beq_iff_eq, decide_eq_true_eq] at h1
    unfold goodN
    simp only [Bool.and_eq_true, bne_iff_ne, ne_eq, decide_eq_true_eq]
    rintro ⟨h2, h3, _⟩
    rcases h1 with h1 | h1
    · exact h2 h1
    · omega
  · have e1 : (s == [] || decide ((s.length : Int) > 3)) = false := by simpa using h1
    rw [e1]
    simp only [Bool.not_false, Bool.true_and, Bool.false_or]
    simp only [Bool.or_eq_false_iff, beq_eq_false_iff_ne, ne_eq, decide_eq_false_iff_not] at e1
    obtain ⟨hne, hlen⟩ := e1
    have h0 : 0 < s.length := List.length_pos_iff.2 hne
    rw [chk_pos (by intro h; simp only [decide_eq_true_eq] at h; omega), cnd_ite]
    have h48 : (((s.getD 0 0).toNat : Int) == 48) = (s.getD 0 0 == 48) := by
      apply Bool.eq_iff_iff.2
      rw [beq_iff_eq, beq_iff_eq]
      constructor
      · intro h; exact UInt8.toNat.inj (by show _ = 48; omega)
      · intro h; rw [h]; rfl
    rw [h48]
    by_cases h2 : decide ((s.length : Int) > 1) && s.getD 0 0 == 48
    · rw [if_pos h2, if_neg]
      simp only [Bool.and_eq_true, decide_eq_true_eq] at h2
      unfold goodN
      simp only [Bool.and_eq_true, bne_iff_ne, ne_eq, decide_eq_true_eq, Bool.or_eq_true]
      rintro ⟨_, _, h3, _⟩
      rcases h3 with h3 | h3
      · omega
      · exact h3 (by simpa using h2.2)
    · rw [if_neg h2]
      have L := loopM_all (f := fun s : (List UInt8) × Int × Int × Int × Int × Unit => addr_number_b0 s.1 s.2.1 s.2.2.1 s.2.2.2.1 s.2.2.2.2.1)
        (fun i => (s, most, (valN (s.take i) : Int), (s.length : Int), (i : Int), ())) (fun i => isDg (s.getD i 0)) (.inr (0, false, ())) (.inl (most, (valN s : Int), ())) s.length
        (fun i hi => number_body (s := s) (by omega) most i hi) (by
          show addr_number_b0 s most (valN (s.take s.length) : Int) (s.length : Int) (s.length : Int) = _
          unfold addr_number_b0
          rw [decide_eq_false (by omega), List.take_length]; rfl) s.length 0 (by omega)
      have L' : addr_number_l0 (s, most, 0, (s.length : Int), 0, ()) = _ := L
      have hg : goodN s = s.all isDg := by
        unfold goodN
        rw [show (s != []) = true from by simpa using hne, decide_eq_true (by omega : s.length ≤ 3), Bool.true_and, Bool.true_and]
        have : (decide (s.length ≤ 1) || s.getD 0 0 != 48) = true := by
          simp only [Bool.and_eq_true, decide_eq_true_eq, not_and] at h2
          simp only [Bool.or_eq_true, decide_eq_true_eq, bne_iff_ne, ne_eq]
          by_cases h : s.length ≤ 1
          · exact .inl h
          · exact .inr (fun hh => h2 (by omega) (by rw [hh]; rfl))
        rw [this, Bool.true_and]
      rw [L', all_range, hg]
      cases s.all isDg <;> rfl

/-! ### Cutting at a byte -/

def splitC (c : UInt8) : List UInt8 → List (List UInt8)
  | [] => [[]]
  | b :: l => if b = c then [] :: splitC c l else match splitC c l with
    | h :: t => (b :: h) :: t
    | [] => [[b]]

theorem splitC_ne (c : UInt8) : ∀ l, splitC c l ≠ []
  | [] => by simp [splitC]
  | b :: l => by
    unfold splitC
    split
    · simp
    · split <;> simp

theorem split_splitC (c : UInt8) : ∀ s : List UInt8, Lib.split s [c] = splitC c s
  | [] => by
    have : Lib.count [] [c] = 0 := Lib.count_miss (by simp [Lib.index])
    unfold Lib.split; rw [this]; rfl
  | b :: l => by
    have ih := split_splitC c l
    unfold Lib.split at ih ⊢
    by_cases h : b = c
    · subst h
      have hix : Lib.index (b :: l) [b] = 0 := by rw [Lib.index]; simp [List.isPrefixOf]
      rw [Lib.count_cons_eq, Nat.add_comm]
      unfold Lib.splitK
      rw [hix]
      simp only [splitC, if_true]
      rw [← ih]
      rfl
    · have hp : ([c] : List UInt8).isPrefixOf (b :: l) = false := by simp [List.isPrefixOf, Ne.symm h]
      have hix : Lib.index (b :: l) [c] = if Lib.index l [c] == -1 then -1 else Lib.index l [c] + 1 := by rw [Lib.index, hp]; simp
      rw [Lib.count_cons_ne b c l h]
      simp only [splitC, if_neg h]
      rw [← ih]
      cases hk : Lib.count l [c] with
      | zero => rfl
      | succ k =>
        have hne : Lib.index l [c] ≠ -1 := fun e => by rw [Lib.count_miss e] at hk; omega
        have hge := Lib.index_ge l [c]
        obtain ⟨j, hj⟩ : ∃ j : Nat, Lib.index l [c] = j := ⟨(Lib.index l [c]).toNat, by omega⟩
        have hb : (Lib.index l [c] == -1) = false := by simpa using hne
        have hb2 : (((j : Int) + 1) == -1) = false := beq_eq_false_iff_ne.2 (by omega)
        have hb3 : ((j : Int) == -1) = false := beq_eq_false_iff_ne.2 (by omega)
        unfold Lib.splitK
        rw [hix, hb, hj]
        simp only [Bool.false_eq_true, if_false, hb2, hb3]
        have t1 : ((j : Int) + 1).toNat = j + 1 := by omega
        have t2 : ((j : Int)).toNat = j := by omega
        rw [t1, t2]
        simp [List.take_succ_cons]

theorem splitC_join (c : UInt8) : ∀ s, Lib.join (splitC c s) [c] = s
  | [] => by simp [splitC, Lib.join, List.intercalate]
  | b :: l => by
    have ih := splitC_join c l
    unfold splitC
    cases hs : splitC c l with
    | nil => exact absurd hs (splitC_ne c l)
    | cons h t =>
      rw [hs] at ih
      rw [Lib.join_cons] at ih
      split
      · rename_i hb; subst hb
        rw [Lib.join_cons]
        have : Lib.joinTail [b] (h :: t) = [b] ++ h ++ Lib.joinTail [b] t := by simp [Lib.joinTail]
        rw [this, ← ih]; simp
      · rw [Lib.join_cons, ← ih]; simp

theorem splitC_none {c : UInt8} : ∀ {x : List UInt8}, c ∉ x → splitC c x = [x]
  | [], _ => rfl
  | b :: l, h => by
    simp only [List.mem_cons, not_or] at h
    unfold splitC
    rw [if_neg (Ne.symm h.1), splitC_none h.2]
theorem splitC_app {c : UInt8} : ∀ {x : List UInt8} (y : List UInt8), c ∉ x → splitC c (x ++ c :: y) = x :: splitC c y
  | [], y, _ => by simp [splitC]
  | b :: l, y, h => by
    simp only [List.mem_cons, not_or] at h
    have e : splitC c ((b :: l) ++ c :: y) = match splitC c (l ++ c :: y) with
      | h :: t => (b :: h) :: t
      | [] => [[b]] := by
      rw [List.cons_append]
      show (if b = c then [] :: splitC c (l ++ c :: y) else _) = _
      rw [if_neg (Ne.symm h.1)]
    rw [e, splitC_app y h.2]

theorem dg8_ne : ∀ k : Nat, k < 10 → ∀ c : UInt8, c = 46 ∨ c = 47 → c ≠ dg8 k := by
  intro k hk c hc h
  have : (dg8 k).toNat = 48 + k := by simp only [dg8, UInt8.toNat_ofNat']; omega
  rw [← h] at this
  rcases hc with rfl | rfl <;> simp at this <;> omega
theorem ds_no {u : Nat} (h : u < 1000) {c : UInt8} (hc : c = 46 ∨ c = 47) : c ∉ ds u := by
  unfold ds
  split
  · simpa using dg8_ne u (by omega) c hc
  · split
    · simp only [List.mem_cons, List.not_mem_nil, or_false, not_or]
      exact ⟨dg8_ne _ (by omega) c hc, dg8_ne _ (by omega) c hc⟩
    · simp only [List.mem_cons, List.not_mem_nil, or_false, not_or]
      exact ⟨dg8_ne _ (by omega) c hc, dg8_ne _ (by omega) c hc, dg8_ne _ (by omega) c hc⟩

/-! ### Addresses -/

def pt (a : Int) (k : Nat) : Nat := (a / 2 ^ (8 * k) % 256).toNat
def adT (a : Int) : List UInt8 := ds (pt a 3) ++ 46 :: (ds (pt a 2) ++ 46 :: (ds (pt a 1) ++ 46 :: ds (pt a 0)))
def in32 (a : Int) : Prop := 0 ≤ a ∧ a < 4294967296

theorem pt_lt {a : Int} (k : Nat) : pt a k < 256 := by unfold pt; omega
theorem adT_len (a : Int) : (adT a).length ≤ 15 := by
  have h := fun k => (ds_ok (show pt a k < 1000 from by have := @pt_lt a k; omega)).2.2.2
  have h0 := h 0; have h1 := h 1; have h2 := h 2; have h3 := h 3
  unfold adT
  simp only [List.length_append, List.length_cons]
  omega

theorem text_body' {a : Int} (ha : in32 a) (k : Nat) (hk : k ≤ 3) (parts : List (List UInt8)) (hp : parts.length ≤ 100) :
    addr_Text_b0 a (k : Int) parts = some (.inl (a, (k : Int) - 1, parts ++ [ds (pt a k)], ())) := by
  unfold addr_Text_b0
  have e0 : (8 : Int) * (k : Int) = ((8 * k : Nat) : Int) := by omega
  have hb : 8 * k ≤ IntKind.u32.bits := by have : IntKind.u32.bits = 32 := rfl; omega
  have hq : 0 ≤ a / 2 ^ (8 * k) := Int.ediv_nonneg ha.1 (by exact_mod_cast Nat.zero_le (2 ^ (8 * k)))
  rw [decide_eq_true (by omega : (k : Int) ≥ 0), cnd_true, w64 (by omega) (by omega), ltO_def, chk_pos (by omega), e0, shr_eq _ hb, ltO_def, band_mask (m := 255) 8 hq rfl (by decide), wu32 (by omega) (by omega), ltO_def, w64 (by omega) (by omega), ltO_def]
  rw [itoa_ds (by omega) (by omega), bnd_val, chk_pos (by simp [room]; omega), w64 (by omega) (by omega), ltO_def]
  rfl

theorem Text_eq {a : Int} (ha : in32 a) : addr_Text a = some (adT a, ()) := by
  unfold addr_Text addr_Text_l0
  rw [loopM_next (text_body' ha 3 (by omega) [] (by simp)), loopM_next (text_body' ha 2 (by omega) _ (by simp)), loopM_next (text_body' ha 1 (by omega) _ (by simp)), loopM_next (text_body' ha 0 (by omega) _ (by simp))]
  rw [loopM_last (y := .inl ([ds (pt a 3), ds (pt a 2), ds (pt a 1), ds (pt a 0)], ())) (by
    show addr_Text_b0 a (((0 : Nat) : Int) - 1) _ = _
    unfold addr_Text_b0; rw [decide_eq_false (by decide)]; rfl)]
  simp only [bnd_val, sumO_inl]
  have hj : Lib.join [ds (pt a 3), ds (pt a 2), ds (pt a 1), ds (pt a 0)] [46] = adT a := by
    rw [Lib.join_cons]; simp [Lib.joinTail, adT]
  unfold strings_Join
  rw [hj, chk_pos ⟨by simp, by have := adT_len a; omega⟩]
  rfl

theorem lawtext_eq {a : Int} (ha : in32 a) : terrierlaw01_text a = some (adT a, ()) := by
  have hl := fun k => (ds_ok (show pt a k < 1000 from by have := @pt_lt a k; omega)).2.2.2
  have h0 := hl 0; have h1 := hl 1; have h2 := hl 2; have h3 := hl 3
  obtain ⟨ha0, ha1⟩ := ha
  have D : ∀ k, terrierlaw01_digits ((pt a k : Nat) : Int) = some (ds (pt a k), ()) := fun k => by
    have := @pt_lt a k
    rw [digits_eq (by omega) (by omega), Int.toNat_natCast]
  have s3 : a / 2 ^ 24 = ((pt a 3 : Nat) : Int) := by show a / 2 ^ 24 = (((a / 2 ^ 24 % 256).toNat : Nat) : Int); omega
  have s2 : a / 2 ^ 16 % 2 ^ 8 = ((pt a 2 : Nat) : Int) := by show a / 2 ^ 16 % 256 = (((a / 2 ^ 16 % 256).toNat : Nat) : Int); omega
  have s1 : a / 2 ^ 8 % 2 ^ 8 = ((pt a 1 : Nat) : Int) := by show a / 2 ^ 8 % 256 = (((a / 2 ^ 8 % 256).toNat : Nat) : Int); omega
  have s0 : a % 2 ^ 8 = ((pt a 0 : Nat) : Int) := by show a % 256 = (((a / 2 ^ 0 % 256).toNat : Nat) : Int); omega
  have p3 := @pt_lt a 3; have p2 := @pt_lt a 2; have p1 := @pt_lt a 1; have p0 := @pt_lt a 0
  unfold terrierlaw01_text
  have r24 : shrI IntKind.u32 a 24 = a / 2 ^ 24 := shr_eq 24 (by decide)
  have r16 : shrI IntKind.u32 a 16 = a / 2 ^ 16 := shr_eq 16 (by decide)
  have r8 : shrI IntKind.u32 a 8 = a / 2 ^ 8 := shr_eq 8 (by decide)
  simp only [ltO_def]
  rw [r24, r16, r8]
  rw [band_mask (k := .u32) (a := a / 2 ^ 16) (m := 255) 8 (by omega) rfl (by decide), band_mask (k := .u32) (a := a / 2 ^ 8) (m := 255) 8 (by omega) rfl (by decide), band_mask (k := .u32) (a := a) (m := 255) 8 (by omega) rfl (by decide)]
  rw [s3, s2, s1, s0]
  rw [chk_pos (by decide), w64 (n := ((pt a 3 : Nat) : Int)) (by omega) (by omega), D, bnd_val, chk_pos (by simp; omega), chk_pos (by decide),
    wu32 (n := ((pt a 2 : Nat) : Int)) (by omega) (by omega), w64 (n := ((pt a 2 : Nat) : Int)) (by omega) (by omega), D, bnd_val, chk_pos (by simp; omega), chk_pos (by simp; omega), chk_pos (by decide),
    wu32 (n := ((pt a 1 : Nat) : Int)) (by omega) (by omega), w64 (n := ((pt a 1 : Nat) : Int)) (by omega) (by omega), D, bnd_val, chk_pos (by simp; omega), chk_pos (by simp; omega),
    wu32 (n := ((pt a 0 : Nat) : Int)) (by omega) (by omega), w64 (n := ((pt a 0 : Nat) : Int)) (by omega) (by omega), D, bnd_val, chk_pos (by simp; omega)]
  simp [adT]

/-! ### Reading -/

def okB (p : List UInt8) : Bool := goodN p && decide (valN p ≤ 255)
/-- What a text is the address of. -/
def rdA (s : List UInt8) : Option Int :=
  match splitC 46 s with
  | [p, q, r, t] => if okB p && (okB q && (okB r && okB t)) then some ((((valN p * 256 + valN q) * 256 + valN r) * 256 + valN t : Nat) : Int) else none
  | _ => none

theorem parse_round (a : Int) (ps : List (List UInt8)) (i : Nat) (hi : i < ps.length) (hp : ps.length = 4) (h0 : 0 ≤ a) (h1 : a < 16777216) :
    addr_Parse_b0 a ps (ps.length : Int) (i : Int) = if okB (ps.getD i []) = true then some (.inl (a * 256 + (valN (ps.getD i []) : Int), ps, (ps.length : Int), ((i + 1 : Nat) : Int), ())) else some (.inr (.inr (0, false, ()))) := by
  unfold addr_Parse_b0
  simp only [ltO_def, Int.toNat_natCast, number_eq, bnd_val]
  rw [decide_eq_true (by omega : (i : Int) < (ps.length : Int)), cnd_true, chk_pos (by omega)]
  unfold okB
  cases hg : goodN (ps.getD i []) with
  | false => simp
  | true =>
    simp only [if_true, Bool.true_and]
    by_cases hv : valN (ps.getD i []) ≤ 255
    · have e : decide ((valN (ps.getD i []) : Int) ≤ 255) = true := decide_eq_true (by omega)
      rw [e, decide_eq_true hv]
      simp only [Bool.not_true, cnd_false, if_true]
      have s8 : shlI IntKind.u32 a 8 = a * 256 := by
        have : shlI IntKind.u32 a 8 = IntKind.u32.wrap (a * 2 ^ 8) := shl_eq 8 (by decide)
        rw [this, wu32 (by omega) (by omega)]; rfl
      rw [chk_pos (by decide), s8, wu32 (n := (valN (ps.getD i []) : Int)) (by omega) (by omega), bor_add 8 (by omega) (by omega) (by omega) (by omega) (by show _ < (4294967296 : Int); omega), wu32 (by omega) (by omega), w64 (by omega) (by omega)]
      rfl
    · have e : decide ((valN (ps.getD i []) : Int) ≤ 255) = false := decide_eq_false (by omega)
      rw [e, decide_eq_false hv]
      simp

theorem Parse_eq {s : List UInt8} (hs : s.length < 4294967281) : addr_Parse s = some (match rdA s with
    | some a => (a, true, ())
    | none => (0, false, ())) := by
  unfold addr_Parse strings_Split rdA
  rw [chk_pos ⟨hs, by simp⟩, bnd_val, ltO_def, split_splitC]
  have big : ∀ ps : List (List UInt8), ps.length ≠ 4 → (((ps.length : Nat) : Int) != 4) = true := by intro ps h; simp; omega
  match splitC 46 s with
  | [] => rw [big _ (by simp)]; rfl
  | [_] => rw [big _ (by simp)]; rfl
  | [_, _] => rw [big _ (by simp)]; rfl
  | [_, _, _] => rw [big _ (by simp)]; rfl
  | _ :: _ :: _ :: _ :: _ :: r => rw [big _ (by simp)]; rfl
  | [p, q, r, t] =>
    have e0 : (((([p, q, r, t] : List (List UInt8)).length : Nat) : Int) != 4) = false := rfl
    rw [e0, cnd_false]
    have R := fun a i hi => parse_round a [p, q, r, t] i hi rfl
    have L : addr_Parse_l0 (0, [p, q, r, t], ((([p, q, r, t] : List (List UInt8)).length : Nat) : Int), 0, ()) =
        some (if okB p && (okB q && (okB r && okB t)) then .inl (((((valN p * 256 + valN q) * 256 + valN r) * 256 + valN t : Nat) : Int), ()) else .inr (0, false, ())) := by
      unfold addr_Parse_l0
      have bd : ∀ x, okB x = true → valN x ≤ 255 := by intro x hx; simp only [okB, Bool.and_eq_true, decide_eq_true_eq] at hx; exact hx.2
      have r0 := R 0 0 (by simp) (by omega) (by omega)
      cases h0 : okB p with
      | false => rw [loopM_last (r0.trans (by rw [show ([p, q, r, t] : List (List UInt8)).getD 0 [] = p from rfl, h0]; rfl))]; simp
      | true =>
        have b0 := bd _ h0
        rw [loopM_next (r0.trans (by rw [show ([p, q, r, t] : List (List UInt8)).getD 0 [] = p from rfl, h0]; rfl))]
        have r1 := R (0 * 256 + (valN p : Int)) 1 (by simp) (by omega) (by omega)
        cases h1 : okB q with
        | false => rw [loopM_last (r1.trans (by rw [show ([p, q, r, t] : List (List UInt8)).getD 1 [] = q from rfl, h1]; rfl))]; simp
        | true =>
          have b1 := bd _ h1
          rw [loopM_next (r1.trans (by rw [show ([p, q, r, t] : List (List UInt8)).getD 1 [] = q from rfl, h1]; rfl))]
          have r2 := R ((0 * 256 + (valN p : Int)) * 256 + (valN q : Int)) 2 (by simp) (by omega) (by omega)
          cases h2 : okB r with
          | false => rw [loopM_last (r2.trans (by rw [show ([p, q, r, t] : List (List UInt8)).getD 2 [] = r from rfl, h2]; rfl))]; simp
          | true =>
            have b2 := bd _ h2
            rw [loopM_next (r2.trans (by rw [show ([p, q, r, t] : List (List UInt8)).getD 2 [] = r from rfl, h2]; rfl))]
            have r3 := R (((0 * 256 + (valN p : Int)) * 256 + (valN q : Int)) * 256 + (valN r : Int)) 3 (by simp) (by omega) (by omega)
            cases h3 : okB t with
            | false => rw [loopM_last (r3.trans (by rw [show ([p, q, r, t] : List (List UInt8)).getD 3 [] = t from rfl, h3]; rfl))]; simp
            | true =>
              rw [loopM_next (r3.trans (by rw [show ([p, q, r, t] : List (List UInt8)).getD 3 [] = t from rfl, h3]; rfl))]
              rw [loopM_last (y := .inl ((((0 * 256 + (valN p : Int)) * 256 + (valN q : Int)) * 256 + (valN r : Int)) * 256 + (valN t : Int), ())) (by
                show addr_Parse_b0 _ [p, q, r, t] ((([p, q, r, t] : List (List UInt8)).length : Nat) : Int) ((4 : Nat) : Int) = _
                unfold addr_Parse_b0; rw [decide_eq_false (by simp)]; rfl)]
              simp
    rw [L]
    cases hb : (okB p && (okB q && (okB r && okB t))) <;> simp [hb]

end Go.Tr
