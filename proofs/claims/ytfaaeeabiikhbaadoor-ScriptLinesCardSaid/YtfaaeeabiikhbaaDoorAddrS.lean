/- Texts of addresses: the printed functions' answers in plain words. Texts of addresses are read as they are written. Prefixes: the printed functions' answers in plain words. The laws of addresses: texts and numbers. Conditions: none but those that each theorem states. -/
import Derived.Test.YtfaaeeabiikhbaaDoorBE
import Derived.Test.YtfaaeeabiikhbaaDoorAddrD
namespace Go.Tr
open Go
set_option linter.unusedVariables false
set_option linter.unusedSimpArgs false
set_option maxRecDepth 100000
set_option maxHeartbeats 4000000
def dg8 (n : Nat) : UInt8 := UInt8.ofNat (48 + n)
def ds (u : Nat) : List UInt8 := if u < 10 then [dg8 u] else if u < 100 then [dg8 (u / 10), dg8 (u % 10)] else [dg8 (u / 100), dg8 (u / 10 % 10), dg8 (u % 10)]
theorem decDigits_ds {u : Nat} (h : u < 1000) : Lib.decDigits u = ds u := by
  have d1 : ∀ v, v < 10 → Lib.decDigits v = [dg8 v] := fun v hv => by rw [Lib.decDigits, dif_pos hv]; rfl
  have d2 : ∀ v, 10 ≤ v → v < 100 → Lib.decDigits v = [dg8 (v / 10), dg8 (v % 10)] := fun v h1 hv => by
    rw [Lib.decDigits, dif_neg (by omega), d1 _ (by omega)]; rfl
  unfold ds
  by_cases h1 : u < 10
  · rw [if_pos h1, d1 u h1]
  · rw [if_neg h1]
    by_cases h2 : u < 100
    · rw [if_pos h2, d2 u (by omega) h2]
    · rw [if_neg h2, Lib.decDigits, dif_neg h1, d2 _ (by omega) (by omega)]
      have e : u / 10 / 10 = u / 100 := by omega
      rw [e]; rfl
theorem itoa_ds {n : Int} (h0 : 0 ≤ n) (h1 : n < 1000) : strconv_Itoa n = some (ds n.toNat, ()) := by
  unfold strconv_Itoa Lib.itoa
  rw [chk_pos (by omega), if_neg (by omega), decDigits_ds (by omega)]
def isDg (c : UInt8) : Bool := decide (48 ≤ c.toNat) && decide (c.toNat ≤ 57)
def valN (s : List UInt8) : Nat := s.foldl (fun n c => 10 * n + (c.toNat - 48)) 0
def goodN (s : List UInt8) : Bool := s != [] && (decide (s.length ≤ 3) && ((decide (s.length ≤ 1) || s.getD 0 0 != 48) && s.all isDg))
theorem ds_good : ∀ u : Fin 1000, (goodN (ds u.val) && (valN (ds u.val) == u.val) && (decide (1 ≤ (ds u.val).length) && decide ((ds u.val).length ≤ 3))) = true := by decide +kernel
theorem dg8_of {c : UInt8} (h : isDg c = true) : ∃ k : Fin 10, c = dg8 k.val := by
  simp only [isDg, Bool.and_eq_true, decide_eq_true_eq] at h
  refine ⟨⟨c.toNat - 48, by omega⟩, ?_⟩
  apply UInt8.toNat.inj
  simp only [dg8, UInt8.toNat_ofNat']
  omega
theorem ds3 : ∀ a b c : Fin 10, (a.val = 0 ∨ (valN [dg8 a.val, dg8 b.val, dg8 c.val] < 1000 ∧ ds (valN [dg8 a.val, dg8 b.val, dg8 c.val]) = [dg8 a.val, dg8 b.val, dg8 c.val])) := by decide +kernel
theorem ds2 : ∀ a b : Fin 10, (a.val = 0 ∨ (valN [dg8 a.val, dg8 b.val] < 1000 ∧ ds (valN [dg8 a.val, dg8 b.val]) = [dg8 a.val, dg8 b.val])) := by decide +kernel
theorem ds1 : ∀ a : Fin 10, valN [dg8 a.val] < 1000 ∧ ds (valN [dg8 a.val]) = [dg8 a.val] := by decide +kernel
theorem good_ds {s : List UInt8} (h : goodN s = true) : valN s < 1000 ∧ ds (valN s) = s := by
  simp only [goodN, Bool.and_eq_true, Bool.or_eq_true, decide_eq_true_eq, bne_iff_ne, ne_eq] at h
  obtain ⟨h0, h3, h1, hd⟩ := h
  match s, h0, h3, h1, hd with
  | [], h0, _, _, _ => exact absurd rfl h0
  | [a], _, _, _, hd =>
    simp only [List.all_cons, Bool.and_eq_true] at hd
    obtain ⟨x, rfl⟩ := dg8_of hd.1
    exact ds1 x
  | [a, b], _, _, h1, hd =>
    simp only [List.all_cons, Bool.and_eq_true] at hd
    obtain ⟨x, rfl⟩ := dg8_of hd.1
    obtain ⟨y, rfl⟩ := dg8_of hd.2.1
    rcases ds2 x y with h | h
    · rcases h1 with h1 | h1
      · simp at h1
      · rw [h] at h1; exact absurd rfl h1
    · exact h
  | [a, b, c], _, _, h1, hd =>
    simp only [List.all_cons, Bool.and_eq_true] at hd
    obtain ⟨x, rfl⟩ := dg8_of hd.1
    obtain ⟨y, rfl⟩ := dg8_of hd.2.1
    obtain ⟨z, rfl⟩ := dg8_of hd.2.2.1
    rcases ds3 x y z with h | h
    · rcases h1 with h1 | h1
      · simp at h1
      · rw [h] at h1; exact absurd rfl h1
    · exact h
  | a :: b :: c :: d :: r, _, h3, _, _ => simp at h3
theorem ds_ok {u : Nat} (h : u < 1000) : goodN (ds u) = true ∧ valN (ds u) = u ∧ 1 ≤ (ds u).length ∧ (ds u).length ≤ 3 := by
  have := ds_good ⟨u, h⟩
  simp only [Bool.and_eq_true, decide_eq_true_eq, beq_iff_eq] at this
  exact ⟨this.1.1, this.1.2, this.2.1, this.2.2⟩
theorem valN_take {s : List UInt8} {i : Nat} (h : i < s.length) : valN (s.take (i + 1)) = 10 * valN (s.take i) + ((s.getD i 0).toNat - 48) := by
  unfold valN
  rw [List.take_add_one, List.getElem?_eq_getElem h, Option.toList_some, List.foldl_append]
  simp [h]
theorem valN_small : ∀ (s : List UInt8), s.length ≤ 3 → valN s ≤ 255000
  | [], _ => by simp [valN]
  | [a], _ => by have := a.toNat_lt; simp [valN]; omega
  | [a, b], _ => by have := a.toNat_lt; have := b.toNat_lt; simp [valN]; omega
  | [a, b, c], _ => by have := a.toNat_lt; have := b.toNat_lt; have := c.toNat_lt; simp [valN]; omega
  | a :: b :: c :: d :: r, h => by simp at h
theorem number_body {s : List UInt8} (h3 : s.length ≤ 3) (most : Int) (i : Nat) (hi : i < s.length) :
    addr_number_b0 s most (valN (s.take i) : Int) (s.length : Int) (i : Int) = if isDg (s.getD i 0) = true then some (.inl (s, most, (valN (s.take (i + 1)) : Int), (s.length : Int), ((i + 1 : Nat) : Int), ())) else some (.inr (.inr (0, false, ()))) := by
  have hv := valN_small (s.take i) (by simp; omega)
  have hc := (s.getD i 0).toNat_lt
  unfold addr_number_b0
  simp only [ltO_def, chk_same, chk_nn, Int.toNat_natCast]
  rw [decide_eq_true (by omega : (i : Int) < (s.length : Int)), cnd_true, chk_pos (by omega), chk_pos (by intro _; omega), cnd_ite]
  cases hd : isDg (s.getD i 0) with
  | false =>
    simp only [isDg, Bool.and_eq_false_iff, decide_eq_false_iff_not] at hd
    rw [if_pos (by simp only [Bool.or_eq_true, decide_eq_true_eq]; omega)]
    rfl
  | true =>
    simp only [isDg, Bool.and_eq_true, decide_eq_true_eq] at hd
    rw [if_neg (by simp only [Bool.or_eq_true, decide_eq_true_eq]; omega), chk_pos (by omega), valN_take hi]
    rw [w64 (n := 10 * (valN (s.take i) : Int)) (by omega) (by omega), wu8 (by omega) (by omega), w64 (n := ((s.getD i 0).toNat : Int) - 48) (by omega) (by omega), w64 (by omega) (by omega), w64 (by omega) (by omega)]
    simp only [if_true]
    rw [show 10 * (valN (s.take i) : Int) + (((s.getD i 0).toNat : Int) - 48) = ((10 * valN (s.take i) + ((s.getD i 0).toNat - 48) : Nat) : Int) from by omega]
    rfl
theorem all_range {s : List UInt8} : (List.range' 0 s.length).all (fun i => isDg (s.getD i 0)) = s.all isDg := by
  apply Bool.eq_iff_iff.2
  simp only [List.all_eq_true, List.mem_range'_1]
  constructor
  · intro h x hx
    obtain ⟨i, hi, rfl⟩ := List.mem_iff_getElem.1 hx
    have := h i ⟨by omega, by omega⟩
    simpa [hi] using this
  · intro h i hi
    have hi' : i < s.length := by omega
    have := h s[i] (List.getElem_mem hi')
    simpa [hi'] using this
theorem number_eq (s : List UInt8) (most : Int) : addr_number s most = some (if goodN s = true then ((valN s : Int), decide ((valN s : Int) ≤ most), ()) else (0, false, ())) := by
  unfold addr_number
  simp only [ltO_def, chk_same, chk_nn, chk_and]
  by_cases h1 : s == [] || decide ((s.length : Int) > 3)
  · rw [h1]
    simp only [Bool.not_true, Bool.false_and, Bool.true_or, cnd_true]
    rw [chk_pos (by simp), if_neg]
    simp only [Bool.or_eq_true, beq_iff_eq, decide_eq_true_eq] at h1
    unfold goodN
    simp only [Bool.and_eq_true, bne_iff_ne, ne_eq, decide_eq_true_eq]
    rintro ⟨h2, h3, _⟩
    rcases h1 with h1 | h1
    · exact h2 h1
    · omega
  · have e1 : (s == [] || decide ((s.length : Int) > 3)) = false := by simpa using h1
    rw [e1]
    simp only [Bool.not_false, Bool.true_and, Bool.false_or]
    simp only [Bool.or_eq_false_iff, beq_eq_false_iff_ne, ne_eq, decide_eq_false_iff_not] at e1
    obtain ⟨hne, hlen⟩ := e1
    have h0 : 0 < s.length := List.length_pos_iff.2 hne
    rw [chk_pos (by intro h; simp only [decide_eq_true_eq] at h; omega), cnd_ite]
    have h48 : (((s.getD 0 0).toNat : Int) == 48) = (s.getD 0 0 == 48) := by
      apply Bool.eq_iff_iff.2
      rw [beq_iff_eq, beq_iff_eq]
      constructor
      · intro h; exact UInt8.toNat.inj (by show _ = 48; omega)
      · intro h; rw [h]; rfl
    rw [h48]
    by_cases h2 : decide ((s.length : Int) > 1) && s.getD 0 0 == 48
    · rw [if_pos h2, if_neg]
      simp only [Bool.and_eq_true, decide_eq_true_eq] at h2
      unfold goodN
      simp only [Bool.and_eq_true, bne_iff_ne, ne_eq, decide_eq_true_eq, Bool.or_eq_true]
      rintro ⟨_, _, h3, _⟩
      rcases h3 with h3 | h3
      · omega
      · exact h3 (by simpa using h2.2)
    · rw [if_neg h2]
      have L := loopM_all (f := fun s : (List UInt8) × Int × Int × Int × Int × Unit => addr_number_b0 s.1 s.2.1 s.2.2.1 s.2.2.2.1 s.2.2.2.2.1)
        (fun i => (s, most, (valN (s.take i) : Int), (s.length : Int), (i : Int), ())) (fun i => isDg (s.getD i 0)) (.inr (0, false, ())) (.inl (most, (valN s : Int), ())) s.length
        (fun i hi => number_body (s := s) (by omega) most i hi) (by
          show addr_number_b0 s most (valN (s.take s.length) : Int) (s.length : Int) (s.length : Int) = _
          unfold addr_number_b0
          rw [decide_eq_false (by omega), List.take_length]; rfl) s.length 0 (by omega)
      have L' : addr_number_l0 (s, most, 0, (s.length : Int), 0, ()) = _ := L
      have hg : goodN s = s.all isDg := by
        unfold goodN
        rw [show (s != []) = true from by simpa using hne, decide_eq_true (by omega : s.length ≤ 3), Bool.true_and, Bool.true_and]
        have : (decide (s.length ≤ 1) || s.getD 0 0 != 48) = true := by
          simp only [Bool.and_eq_true, decide_eq_true_eq, not_and] at h2
          simp only [Bool.or_eq_true, decide_eq_true_eq, bne_iff_ne, ne_eq]
          by_cases h : s.length ≤ 1
          · exact .inl h
          · exact .inr (fun hh => h2 (by omega) (by rw [hh]; rfl))
        rw [this, Bool.true_and]
      rw [L', all_range, hg]
      cases s.all isDg <;> rfl
def splitC (c : UInt8) : List UInt8 → List (List UInt8)
  | [] => [[]]
  | b :: l => if b = c then [] :: splitC c l else match splitC c l with
    | h :: t => (b :: h) :: t
    | [] => [[b]]
theorem splitC_ne (c : UInt8) : ∀ l, splitC c l ≠ []
  | [] => by simp [splitC]
  | b :: l => by
    unfold splitC
    split
    · simp
    · split <;> simp
theorem split_splitC (c : UInt8) : ∀ s : List UInt8, Lib.split s [c] = splitC c s
  | [] => by
    have : Lib.count [] [c] = 0 := Lib.count_miss (by simp [Lib.index])
    unfold Lib.split; rw [this]; rfl
  | b :: l => by
    have ih := split_splitC c l
    unfold Lib.split at ih ⊢
    by_cases h : b = c
    · subst h
      have hix : Lib.index (b :: l) [b] = 0 := by rw [Lib.index]; simp [List.isPrefixOf]
      rw [Lib.count_cons_eq, Nat.add_comm]
      unfold Lib.splitK
      rw [hix]
      simp only [splitC, if_true]
      rw [← ih]
      rfl
    · have hp : ([c] : List UInt8).isPrefixOf (b :: l) = false := by simp [List.isPrefixOf, Ne.symm h]
      have hix : Lib.index (b :: l) [c] = if Lib.index l [c] == -1 then -1 else Lib.index l [c] + 1 := by rw [Lib.index, hp]; simp
      rw [Lib.count_cons_ne b c l h]
      simp only [splitC, if_neg h]
      rw [← ih]
      cases hk : Lib.count l [c] with
      | zero => rfl
      | succ k =>
        have hne : Lib.index l [c] ≠ -1 := fun e => by rw [Lib.count_miss e] at hk; omega
        have hge := Lib.index_ge l [c]
        obtain ⟨j, hj⟩ : ∃ j : Nat, Lib.index l [c] = j := ⟨(Lib.index l [c]).toNat, by omega⟩
        have hb : (Lib.index l [c] == -1) = false := by simpa using hne
        have hb2 : (((j : Int) + 1) == -1) = false := beq_eq_false_iff_ne.2 (by omega)
        have hb3 : ((j : Int) == -1) = false := beq_eq_false_iff_ne.2 (by omega)
        unfold Lib.splitK
        rw [hix, hb, hj]
        simp only [Bool.false_eq_true, if_false, hb2, hb3]
        have t1 : ((j : Int) + 1).toNat = j + 1 := by omega
        have t2 : ((j : Int)).toNat = j := by omega
        rw [t1, t2]
        simp [List.take_succ_cons]
theorem splitC_join (c : UInt8) : ∀ s, Lib.join (splitC c s) [c] = s
  | [] => by simp [splitC, Lib.join, List.intercalate]
  | b :: l => by
    have ih := splitC_join c l
    unfold splitC
    cases hs : splitC c l with
    | nil => exact absurd hs (splitC_ne c l)
    | cons h t =>
      rw [hs] at ih
      rw [Lib.join_cons] at ih
      split
      · rename_i hb; subst hb
        rw [Lib.join_cons]
        have : Lib.joinTail [b] (h :: t) = [b] ++ h ++ Lib.joinTail [b] t := by simp [Lib.joinTail]
        rw [this, ← ih]; simp
      · rw [Lib.join_cons, ← ih]; simp
theorem splitC_none {c : UInt8} : ∀ {x : List UInt8}, c ∉ x → splitC c x = [x]
  | [], _ => rfl
  | b :: l, h => by
    simp only [List.mem_cons, not_or] at h
    unfold splitC
    rw [if_neg (Ne.symm h.1), splitC_none h.2]
theorem splitC_app {c : UInt8} : ∀ {x : List UInt8} (y : List UInt8), c ∉ x → splitC c (x ++ c :: y) = x :: splitC c y
  | [], y, _ => by simp [splitC]
  | b :: l, y, h => by
    simp only [List.mem_cons, not_or] at h
    have e : splitC c ((b :: l) ++ c :: y) = match splitC c (l ++ c :: y) with
      | h :: t => (b :: h) :: t
      | [] => [[b]] := by
      rw [List.cons_append]
      show (if b = c then [] :: splitC c (l ++ c :: y) else _) = _
      rw [if_neg (Ne.symm h.1)]
    rw [e, splitC_app y h.2]
theorem dg8_ne : ∀ k : Nat, k < 10 → ∀ c : UInt8, c = 46 ∨ c = 47 → c ≠ dg8 k := by
  intro k hk c hc h
  have : (dg8 k).toNat = 48 + k := by simp only [dg8, UInt8.toNat_ofNat']; omega
  rw [← h] at this
  rcases hc with rfl | rfl <;> simp at this <;> omega
theorem ds_no {u : Nat} (h : u < 1000) {c : UInt8} (hc : c = 46 ∨ c = 47) : c ∉ ds u := by
  unfold ds
  split
  · simpa using dg8_ne u (by omega) c hc
  · split
    · simp only [List.mem_cons, List.not_mem_nil, or_false, not_or]
      exact ⟨dg8_ne _ (by omega) c hc, dg8_ne _ (by omega) c hc⟩
    · simp only [List.mem_cons, List.not_mem_nil, or_false, not_or]
      exact ⟨dg8_ne _ (by omega) c hc, dg8_ne _ (by omega) c hc, dg8_ne _ (by omega) c hc⟩
def pt (a : Int) (k : Nat) : Nat := (a / 2 ^ (8 * k) % 256).toNat
def adT (a : Int) : List UInt8 := ds (pt a 3) ++ 46 :: (ds (pt a 2) ++ 46 :: (ds (pt a 1) ++ 46 :: ds (pt a 0)))
def in32 (a : Int) : Prop := 0 ≤ a ∧ a < 4294967296
theorem pt_lt {a : Int} (k : Nat) : pt a k < 256 := by unfold pt; omega
theorem adT_len (a : Int) : (adT a).length ≤ 15 := by
  have h := fun k => (ds_ok (show pt a k < 1000 from by have := @pt_lt a k; omega)).2.2.2
  have h0 := h 0; have h1 := h 1; have h2 := h 2; have h3 := h 3
  unfold adT
  simp only [List.length_append, List.length_cons]
  omega
theorem text_body' {a : Int} (ha : in32 a) (k : Nat) (hk : k ≤ 3) (parts : List (List UInt8)) (hp : parts.length ≤ 100) :
    addr_Text_b0 a (k : Int) parts = some (.inl (a, (k : Int) - 1, parts ++ [ds (pt a k)], ())) := by
  unfold addr_Text_b0
  have e0 : (8 : Int) * (k : Int) = ((8 * k : Nat) : Int) := by omega
  have hb : 8 * k ≤ IntKind.u32.bits := by have : IntKind.u32.bits = 32 := rfl; omega
  have hq : 0 ≤ a / 2 ^ (8 * k) := Int.ediv_nonneg ha.1 (by exact_mod_cast Nat.zero_le (2 ^ (8 * k)))
  rw [decide_eq_true (by omega : (k : Int) ≥ 0), cnd_true, w64 (by omega) (by omega), ltO_def, chk_pos (by omega), e0, shr_eq _ hb, ltO_def, band_mask (m := 255) 8 hq rfl (by decide), wu32 (by omega) (by omega), ltO_def, w64 (by omega) (by omega), ltO_def]
  rw [itoa_ds (by omega) (by omega), bnd_val, chk_pos (by simp [room]; omega), w64 (by omega) (by omega), ltO_def]
  rfl
theorem Text_eq {a : Int} (ha : in32 a) : addr_Text a = some (adT a, ()) := by
  unfold addr_Text addr_Text_l0
  rw [loopM_next (text_body' ha 3 (by omega) [] (by simp)), loopM_next (text_body' ha 2 (by omega) _ (by simp)), loopM_next (text_body' ha 1 (by omega) _ (by simp)), loopM_next (text_body' ha 0 (by omega) _ (by simp))]
  rw [loopM_last (y := .inl ([ds (pt a 3), ds (pt a 2), ds (pt a 1), ds (pt a 0)], ())) (by
    show addr_Text_b0 a (((0 : Nat) : Int) - 1) _ = _
    unfold addr_Text_b0; rw [decide_eq_false (by decide)]; rfl)]
  simp only [bnd_val, sumO_inl]
  have hj : Lib.join [ds (pt a 3), ds (pt a 2), ds (pt a 1), ds (pt a 0)] [46] = adT a := by
    rw [Lib.join_cons]; simp [Lib.joinTail, adT]
  unfold strings_Join
  rw [hj, chk_pos ⟨by simp, by have := adT_len a; omega⟩]
  rfl
def okB (p : List UInt8) : Bool := goodN p && decide (valN p ≤ 255)
def rdA (s : List UInt8) : Option Int :=
  match splitC 46 s with
  | [p, q, r, t] => if okB p && (okB q && (okB r && okB t)) then some ((((valN p * 256 + valN q) * 256 + valN r) * 256 + valN t : Nat) : Int) else none
  | _ => none
theorem parse_round (a : Int) (ps : List (List UInt8)) (i : Nat) (hi : i < ps.length) (hp : ps.length = 4) (h0 : 0 ≤ a) (h1 : a < 16777216) :
    addr_Parse_b0 a ps (ps.length : Int) (i : Int) = if okB (ps.getD i []) = true then some (.inl (a * 256 + (valN (ps.getD i []) : Int), ps, (ps.length : Int), ((i + 1 : Nat) : Int), ())) else some (.inr (.inr (0, false, ()))) := by
  unfold addr_Parse_b0
  simp only [ltO_def, Int.toNat_natCast, number_eq, bnd_val]
  rw [decide_eq_true (by omega : (i : Int) < (ps.length : Int)), cnd_true, chk_pos (by omega)]
  unfold okB
  cases hg : goodN (ps.getD i []) with
  | false => simp
  | true =>
    simp only [if_true, Bool.true_and]
    by_cases hv : valN (ps.getD i []) ≤ 255
    · have e : decide ((valN (ps.getD i []) : Int) ≤ 255) = true := decide_eq_true (by omega)
      rw [e, decide_eq_true hv]
      simp only [Bool.not_true, cnd_false, if_true]
      have s8 : shlI IntKind.u32 a 8 = a * 256 := by
        have : shlI IntKind.u32 a 8 = IntKind.u32.wrap (a * 2 ^ 8) := shl_eq 8 (by decide)
        rw [this, wu32 (by omega) (by omega)]; rfl
      rw [chk_pos (by decide), s8, wu32 (n := (valN (ps.getD i []) : Int)) (by omega) (by omega), bor_add 8 (by omega) (by omega) (by omega) (by omega) (by show _ < (4294967296 : Int); omega), wu32 (by omega) (by omega), w64 (by omega) (by omega)]
      rfl
    · have e : decide ((valN (ps.getD i []) : Int) ≤ 255) = false := decide_eq_false (by omega)
      rw [e, decide_eq_false hv]
      simp
theorem Parse_eq {s : List UInt8} (hs : s.length < 4294967281) : addr_Parse s = some (match rdA s with
    | some a => (a, true, ())
    | none => (0, false, ())) := by
  unfold addr_Parse strings_Split rdA
  rw [chk_pos ⟨hs, by simp⟩, bnd_val, ltO_def, split_splitC]
  have big : ∀ ps : List (List UInt8), ps.length ≠ 4 → (((ps.length : Nat) : Int) != 4) = true := by intro ps h; simp; omega
  match splitC 46 s with
  | [] => rw [big _ (by simp)]; rfl
  | [_] => rw [big _ (by simp)]; rfl
  | [_, _] => rw [big _ (by simp)]; rfl
  | [_, _, _] => rw [big _ (by simp)]; rfl
  | _ :: _ :: _ :: _ :: _ :: r => rw [big _ (by simp)]; rfl
  | [p, q, r, t] =>
    have e0 : (((([p, q, r, t] : List (List UInt8)).length : Nat) : Int) != 4) = false := rfl
    rw [e0, cnd_false]
    have R := fun a i hi => parse_round a [p, q, r, t] i hi rfl
    have L : addr_Parse_l0 (0, [p, q, r, t], ((([p, q, r, t] : List (List UInt8)).length : Nat) : Int), 0, ()) =
        some (if okB p && (okB q && (okB r && okB t)) then .inl (((((valN p * 256 + valN q) * 256 + valN r) * 256 + valN t : Nat) : Int), ()) else .inr (0, false, ())) := by
      unfold addr_Parse_l0
      have bd : ∀ x, okB x = true → valN x ≤ 255 := by intro x hx; simp only [okB, Bool.and_eq_true, decide_eq_true_eq] at hx; exact hx.2
      have r0 := R 0 0 (by simp) (by omega) (by omega)
      cases h0 : okB p with
      | false => rw [loopM_last (r0.trans (by rw [show ([p, q, r, t] : List (List UInt8)).getD 0 [] = p from rfl, h0]; rfl))]; simp
      | true =>
        have b0 := bd _ h0
        rw [loopM_next (r0.trans (by rw [show ([p, q, r, t] : List (List UInt8)).getD 0 [] = p from rfl, h0]; rfl))]
        have r1 := R (0 * 256 + (valN p : Int)) 1 (by simp) (by omega) (by omega)
        cases h1 : okB q with
        | false => rw [loopM_last (r1.trans (by rw [show ([p, q, r, t] : List (List UInt8)).getD 1 [] = q from rfl, h1]; rfl))]; simp
        | true =>
          have b1 := bd _ h1
          rw [loopM_next (r1.trans (by rw [show ([p, q, r, t] : List (List UInt8)).getD 1 [] = q from rfl, h1]; rfl))]
          have r2 := R ((0 * 256 + (valN p : Int)) * 256 + (valN q : Int)) 2 (by simp) (by omega) (by omega)
          cases h2 : okB r with
          | false => rw [loopM_last (r2.trans (by rw [show ([p, q, r, t] : List (List UInt8)).getD 2 [] = r from rfl, h2]; rfl))]; simp
          | true =>
            have b2 := bd _ h2
            rw [loopM_next (r2.trans (by rw [show ([p, q, r, t] : List (List UInt8)).getD 2 [] = r from rfl, h2]; rfl))]
            have r3 := R (((0 * 256 + (valN p : Int)) * 256 + (valN q : Int)) * 256 + (valN r : Int)) 3 (by simp) (by omega) (by omega)
            cases h3 : okB t with
            | false => rw [loopM_last (r3.trans (by rw [show ([p, q, r, t] : List (List UInt8)).getD 3 [] = t from rfl, h3]; rfl))]; simp
            | true =>
              rw [loopM_next (r3.trans (by rw [show ([p, q, r, t] : List (List UInt8)).getD 3 [] = t from rfl, h3]; rfl))]
              rw [loopM_last (y := .inl ((((0 * 256 + (valN p : Int)) * 256 + (valN q : Int)) * 256 + (valN r : Int)) * 256 + (valN t : Int), ())) (by
                show addr_Parse_b0 _ [p, q, r, t] ((([p, q, r, t] : List (List UInt8)).length : Nat) : Int) ((4 : Nat) : Int) = _
                unfold addr_Parse_b0; rw [decide_eq_false (by simp)]; rfl)]
              simp
    rw [L]
    cases hb : (okB p && (okB q && (okB r && okB t))) <;> simp [hb]
end Go.Tr
namespace Go.Tr
open Go
set_option linter.unusedVariables false
set_option linter.unusedSimpArgs false
set_option maxRecDepth 100000
set_option maxHeartbeats 400000
theorem ptI (a : Int) : ((pt a 3 : Nat) : Int) = a / 16777216 % 256 ∧ ((pt a 2 : Nat) : Int) = a / 65536 % 256 ∧ ((pt a 1 : Nat) : Int) = a / 256 % 256 ∧ ((pt a 0 : Nat) : Int) = a % 256 := by
  have h : ∀ k, ((pt a k : Nat) : Int) = a / 2 ^ (8 * k) % 256 := fun k => by
    unfold pt; exact Int.toNat_of_nonneg (Int.emod_nonneg _ (by decide))
  refine ⟨h 3, h 2, h 1, (h 0).trans ?_⟩
  rw [Nat.mul_zero, Int.pow_zero, Int.ediv_one]
theorem rd_mk {p q r t : Nat} (hp : p < 256) (hq : q < 256) (hr : r < 256) (ht : t < 256) : rdA (ds p ++ 46 :: (ds q ++ 46 :: (ds r ++ 46 :: ds t))) = some ((((p * 256 + q) * 256 + r) * 256 + t : Nat) : Int) := by
  have no : ∀ {u : Nat}, u < 256 → 46 ∉ ds u := fun h => ds_no (by omega) (.inl rfl)
  have ok : ∀ {u : Nat}, u < 256 → okB (ds u) = true ∧ valN (ds u) = u := fun {u} h => by
    obtain ⟨h1, h2, _⟩ := ds_ok (show u < 1000 by omega)
    refine ⟨?_, h2⟩
    unfold okB; rw [h1, h2, decide_eq_true (by omega)]; rfl
  unfold rdA
  rw [splitC_app _ (no hp), splitC_app _ (no hq), splitC_app _ (no hr), splitC_none (no ht)]
  simp only [(ok hp).1, (ok hq).1, (ok hr).1, (ok ht).1, (ok hp).2, (ok hq).2, (ok hr).2, (ok ht).2, Bool.and_self, if_true]
theorem rd_adT {a : Int} (ha : in32 a) : rdA (adT a) = some a := by
  have h := rd_mk (@pt_lt a 3) (@pt_lt a 2) (@pt_lt a 1) (@pt_lt a 0)
  obtain ⟨e3, e2, e1, e0⟩ := ptI a
  obtain ⟨h0, h1⟩ := ha
  unfold adT
  rw [h]
  congr 1
  generalize pt a 3 = p3 at *
  generalize pt a 2 = p2 at *
  generalize pt a 1 = p1 at *
  generalize pt a 0 = p0 at *
  omega
theorem pt_mk {p q r t : Nat} (hp : p ≤ 255) (hq : q ≤ 255) (hr : r ≤ 255) (ht : t ≤ 255) : adT ((((p * 256 + q) * 256 + r) * 256 + t : Nat) : Int) = ds p ++ 46 :: (ds q ++ 46 :: (ds r ++ 46 :: ds t)) := by
  have e : ∀ (n k : Nat), pt (n : Int) k = n / 2 ^ (8 * k) % 256 := by
    intro n k
    unfold pt
    have : ((n : Int) / 2 ^ (8 * k) % 256) = ((n / 2 ^ (8 * k) % 256 : Nat) : Int) := by simp
    rw [this, Int.toNat_natCast]
  unfold adT
  rw [e, e, e, e]
  have e3 : (((p * 256 + q) * 256 + r) * 256 + t) / 2 ^ (8 * 3) % 256 = p := by simp only [Nat.reduceMul, Nat.reducePow]; omega
  have e2 : (((p * 256 + q) * 256 + r) * 256 + t) / 2 ^ (8 * 2) % 256 = q := by simp only [Nat.reduceMul, Nat.reducePow]; omega
  have e1 : (((p * 256 + q) * 256 + r) * 256 + t) / 2 ^ (8 * 1) % 256 = r := by simp only [Nat.reduceMul, Nat.reducePow]; omega
  have e0 : (((p * 256 + q) * 256 + r) * 256 + t) / 2 ^ (8 * 0) % 256 = t := by simp only [Nat.reduceMul, Nat.reducePow]; omega
  rw [e3, e2, e1, e0]
theorem adT_rd {s : List UInt8} {a : Int} (h : rdA s = some a) : in32 a ∧ adT a = s := by
  unfold rdA at h
  split at h
  · rename_i p q r t hs
    split at h
    · rename_i hb
      simp only [okB, Bool.and_eq_true, decide_eq_true_eq] at hb
      obtain ⟨⟨g0, b0⟩, ⟨g1, b1⟩, ⟨g2, b2⟩, g3, b3⟩ := hb
      have hj := splitC_join 46 s
      rw [hs, Lib.join_cons] at hj
      have hm := pt_mk b0 b1 b2 b3
      rw [(good_ds g0).2, (good_ds g1).2, (good_ds g2).2, (good_ds g3).2] at hm
      have ha := Option.some.inj h
      rw [ha] at hm
      refine ⟨?_, ?_⟩
      · rw [← ha]; exact ⟨Int.natCast_nonneg _, by omega⟩
      · rw [hm, ← hj]; simp [Lib.joinTail]
    · simp at h
  · simp at h
end Go.Tr
namespace Go.Tr
open Go
set_option linter.unusedVariables false
set_option linter.unusedSimpArgs false
set_option maxRecDepth 100000
set_option maxHeartbeats 400000
def Wd (n : Int) : Int := 2 ^ (32 - n).toNat
def bo (n : Int) : Prop := 0 ≤ n ∧ n ≤ 32
instance (n : Int) : Decidable (bo n) := inferInstanceAs (Decidable (_ ∧ _))
theorem Wd_nat {n : Int} (h : bo n) : ∃ j : Nat, j ≤ 32 ∧ n = 32 - (j : Int) ∧ Wd n = 2 ^ j := by
  obtain ⟨h0, h1⟩ := h
  exact ⟨(32 - n).toNat, by omega, by omega, rfl⟩
theorem Wd_all : ∀ n : Fin 33, 1 ≤ Wd (n.val : Int) ∧ Wd (n.val : Int) ≤ 4294967296 ∧ (n.val = 0 ∨ Wd ((n.val : Int) - 1) = 2 * Wd (n.val : Int)) ∧ 4294967296 % Wd (n.val : Int) = 0 := by decide
theorem Wd_bd {n : Int} (h : bo n) : 1 ≤ Wd n ∧ Wd n ≤ 4294967296 ∧ (n = 0 ∨ Wd (n - 1) = 2 * Wd n) ∧ 4294967296 % Wd n = 0 := by
  obtain ⟨h0, h1⟩ := h
  have := Wd_all ⟨n.toNat, by omega⟩
  simp only [Int.toNat_of_nonneg h0] at this
  refine ⟨this.1, this.2.1, ?_, this.2.2.2⟩
  rcases this.2.2.1 with h | h
  · left; omega
  · exact .inr h
def rB (b : Int × Int) : Bool := decide (bo b.2) && b.1 % Wd b.2 == 0
theorem mask_eq {n : Int} (h : bo n) : addr_mask n = some (4294967296 - Wd n, ()) := by
  obtain ⟨j, hj, rfl, e⟩ := Wd_nat h
  unfold addr_mask
  rw [w64 (by omega) (by omega), ltO_def, chk_pos (by omega), e]
  have : (32 : Int) - (32 - (j : Int)) = (j : Int) := by omega
  rw [this, shl_eq (k := .u32) j hj, ltO_def]
  have key : ∀ j : Fin 33, IntKind.u32.wrap (4294967295 * 2 ^ j.val) = 4294967296 - 2 ^ j.val := by decide
  rw [key ⟨j, by omega⟩]
theorem Right_eq {b : Int × Int} (hb : in32 b.1) : addr_Right b = some (rB b, ()) := by
  unfold addr_Right
  simp only [ltO_def, chk_same]
  by_cases h : bo b.2
  · have hv : (decide (b.2 ≥ 0) && decide (b.2 ≤ 32)) = true := by simp only [Bool.and_eq_true, decide_eq_true_eq]; exact h
    rw [hv, mask_eq h, bndG_val]
    obtain ⟨j, hj, e0, e⟩ := Wd_nat h
    have hbits : (2 : Int) ^ IntKind.u32.bits = 4294967296 := rfl
    rw [bandn_high (k := .u32) (m := 4294967296 - Wd b.2) j hb.1 (by rw [e, hbits]) hj, ← e]
    have bd := Wd_bd h
    have m0 := Int.emod_nonneg b.1 (show Wd b.2 ≠ 0 by omega)
    have m1 := Int.emod_lt_of_pos b.1 (show 0 < Wd b.2 by omega)
    rw [wu32 (by omega) (by omega)]
    unfold rB
    rw [decide_eq_true h]
  · have hv : (decide (b.2 ≥ 0) && decide (b.2 ≤ 32)) = false := by
      rw [Bool.and_eq_false_iff, decide_eq_false_iff_not, decide_eq_false_iff_not]
      unfold bo at h; omega
    rw [hv, bndG_false]
    unfold rB
    rw [decide_eq_false h]; rfl
theorem rB_bo {b : Int × Int} (h : rB b = true) : bo b.2 ∧ b.1 % Wd b.2 = 0 := by
  unfold rB at h
  rw [Bool.and_eq_true, decide_eq_true_eq, beq_iff_eq] at h
  exact h
end Go.Tr
namespace Go.Tr
open Go
set_option linter.unusedVariables false
set_option linter.unusedSimpArgs false
set_option maxRecDepth 100000
set_option maxHeartbeats 1000000
theorem cut_app {c : UInt8} {x : List UInt8} (y : List UInt8) (h : c ∉ x) : Lib.cut (x ++ c :: y) [c] = (x, y, true) := by
  have hix : ∀ {x : List UInt8}, c ∉ x → Lib.index (x ++ c :: y) [c] = (x.length : Int) := by
    intro x
    induction x with
    | nil => intro _; rw [List.nil_append, Lib.index]; simp [List.isPrefixOf]
    | cons b l ih =>
      intro h
      simp only [List.mem_cons, not_or] at h
      have hp : ([c] : List UInt8).isPrefixOf (b :: (l ++ c :: y)) = false := by simp [List.isPrefixOf, h.1]
      rw [List.cons_append, Lib.index, hp, ih h.2]
      have : (((l.length : Nat) : Int) == -1) = false := beq_eq_false_iff_ne.2 (by omega)
      rw [this]; simp
  unfold Lib.cut
  rw [hix h, if_pos (by omega), Int.toNat_natCast]
  simp
theorem cut_none {c : UInt8} {x : List UInt8} (h : c ∉ x) : Lib.cut x [c] = (x, [], false) := by
  have hix : ∀ {x : List UInt8}, c ∉ x → Lib.index x [c] = -1 := by
    intro x
    induction x with
    | nil => intro _; simp [Lib.index]
    | cons b l ih =>
      intro h
      simp only [List.mem_cons, not_or] at h
      have hp : ([c] : List UInt8).isPrefixOf (b :: l) = false := by simp [List.isPrefixOf, h.1]
      rw [Lib.index, hp, ih h.2]; simp
  unfold Lib.cut
  rw [hix h, if_neg (by decide)]
theorem cut_ways (c : UInt8) : ∀ s : List UInt8, c ∉ s ∨ ∃ x y, c ∉ x ∧ s = x ++ c :: y
  | [] => .inl (by simp)
  | b :: l => by
    by_cases h : b = c
    · exact .inr ⟨[], l, by simp, by simp [h]⟩
    · rcases cut_ways c l with h1 | ⟨x, y, h1, h2⟩
      · exact .inl (by simp [Ne.symm h, h1])
      · exact .inr ⟨b :: x, y, by simp [Ne.symm h, h1], by simp [h2]⟩
def bt (b : Int × Int) : List UInt8 := adT b.1 ++ 47 :: ds b.2.toNat
def rdB (s : List UInt8) : Option (Int × Int) :=
  match Lib.cut s [47] with
  | (x, y, true) => match rdA x with
    | some a => if goodN y = true ∧ valN y ≤ 32 ∧ rB (a, (valN y : Int)) = true then some (a, (valN y : Int)) else none
    | none => none
  | (_, _, false) => none
theorem ParseBlock_eq {s : List UInt8} (hs : s.length < 4294967281) : addr_ParseBlock s = some (match rdB s with
    | some b => (b, true, ())
    | none => ((0, 0), false, ())) := by
  unfold addr_ParseBlock strings_Cut
  rw [chk_pos hs, bnd_val]
  rcases cut_ways 47 s with h | ⟨x, y, h, rfl⟩
  · rw [cut_none h]
    simp only []
    rw [Parse_eq hs, bnd_val, number_eq, bnd_val]
    have : rdB s = none := by unfold rdB; rw [cut_none h]
    rw [this]
    simp only [ltO_def, chk_same, chk_nn]
    simp only [Bool.not_false, Bool.true_or, Bool.not_true, bndG_false, cnd_true]
  · rw [cut_app y h]
    simp only []
    have hx : x.length < 4294967281 := by simp at hs; omega
    rw [Parse_eq hx, bnd_val, number_eq, bnd_val]
    have hr : rdB (x ++ 47 :: y) = match rdA x with
      | some a => if goodN y = true ∧ valN y ≤ 32 ∧ rB (a, (valN y : Int)) = true then some (a, (valN y : Int)) else none
      | none => none := by unfold rdB; rw [cut_app y h]
    rw [hr]
    simp only [ltO_def, chk_same, chk_nn]
    cases hA : rdA x with
    | none =>
      simp only [Bool.not_true, Bool.not_false, Bool.or_true, Bool.true_or, Bool.false_or, bndG_false, cnd_true]
    | some a =>
      have ha := (adT_rd hA).1
      simp only [Bool.not_true, Bool.false_or]
      rw [Right_eq (b := (a, _)) ha]
      simp only [bndG_val]
      cases hg : goodN y with
      | false => simp
      | true =>
        simp only [if_true, true_and]
        by_cases h32 : valN y ≤ 32
        · rw [decide_eq_true (by omega : (valN y : Int) ≤ 32)]
          cases hrb : rB (a, (valN y : Int)) with
          | false => simp
          | true => simp [h32]
        · rw [decide_eq_false (by omega : ¬ (valN y : Int) ≤ 32)]
          simp [h32]
theorem adT_no {a : Int} : (47 : UInt8) ∉ adT a := by
  have hn := fun k => ds_no (show pt a k < 1000 from by have := @pt_lt a k; omega) (c := 47) (.inr rfl)
  unfold adT
  simp [hn]
theorem rd_bt {b : Int × Int} (hb : in32 b.1) (h : rB b = true) : rdB (bt b) = some b := by
  have g := (rB_bo h).1
  unfold bo at g
  unfold rdB bt
  rw [cut_app _ adT_no]
  simp only [rd_adT hb]
  obtain ⟨h1, h2, _⟩ := ds_ok (show b.2.toNat < 1000 by omega)
  have e : ((b.2.toNat : Nat) : Int) = b.2 := by omega
  rw [h1, h2, e, if_pos ⟨rfl, by omega, h⟩]
theorem BlockText_eq {b : Int × Int} (hb : in32 b.1) (h : bo b.2) : addr_BlockText b = some (bt b, ()) := by
  unfold bo at h
  unfold addr_BlockText
  have hl := adT_len b.1
  have hd := (ds_ok (show b.2.toNat < 1000 by omega)).2.2.2
  rw [Text_eq hb, bnd_val, chk_pos (by simp; omega), ltO_def, itoa_ds h.1 (by omega), bnd_val, chk_pos (by simp; omega), ltO_def]
  simp [bt]
end Go.Tr
