/- Texts of addresses: the printed functions' answers in plain words. Texts of addresses are read as they are written. Prefixes: the printed functions' answers in plain words. The laws of addresses: texts and numbers. Conditions: none but those that each theorem states. -/
import Derived.Test.YtfaaeeabiikhbaaGreatDoorBE
import Derived.Test.YtfaaeeabiikhbaaGreatDoorAddrD
namespace Go.Tr
open Go
set_option linter.unusedVariables false
set_option linter.unusedSimpArgs false
set_option maxRecDepth 100000
set_option maxHeartbeats 4000000
def dg8 (n : Nat) : UInt8 := UInt8.ofNat (48 + n)
def ds (u : Nat) : List UInt8 := if u < 10 then [dg8 u] else if u < 100 then [dg8 (u / 10), dg8 (u % 10)] else [dg8 (u / 100), dg8 (u / 10 % 10), dg8 (u % 10)]
theorem decDigits_ds {u : Nat} (h : u < 1000) : Lib.decDigits u = ds u := by
  have d1 : ∀ v, v < 10 → Lib.decDigits v = [dg8 v] := fun v hv => by rw [Lib.decDigits, dif_pos hv]; rfl
  have d2 : ∀ v, 10 ≤ v → v < 100 → Lib.decDigits v = [dg8 (v / 10), dg8 (v % 10)] := fun v h1 hv => by
    rw [Lib.decDigits, dif_neg (by omega), d1 _ (by omega)]; rfl
  unfold ds
  by_cases h1 : u < 10
  · rw [if_pos h1, d1 u h1]
  · rw [if_neg h1]
    by_cases h2 : u < 100
    · rw [if_pos h2, d2 u (by omega) h2]
    · rw [if_neg h2, Lib.decDigits, dif_neg h1, d2 _ (by omega) (by omega)]
      have e : u / 10 / 10 = u / 100 := by omega
      rw [e]; rfl
theorem itoa_ds {n : Int} (h0 : 0 ≤ n) (h1 : n < 1000) : strconv_Itoa n = some (ds n.toNat, ()) := by
  unfold strconv_Itoa Lib.itoa
  rw [chk_pos (by omega), if_neg (by omega), decDigits_ds (by omega)]
def isDg (c : UInt8) : Bool := decide (48 ≤ c.toNat) && decide (c.toNat ≤ 57)
def valN (s : List UInt8) : Nat := s.foldl (fun n c => 10 * n + (c.toNat - 48)) 0
def goodN (s : List UInt8) : Bool := s != [] && (decide (s.length ≤ 3) && ((decide (s.length ≤ 1) || s.getD 0 0 != 48) && s.all isDg))
theorem ds_good : ∀ u : Fin 1000, (goodN (ds u.val) && (valN (ds u.val) == u.val) && (decide (1 ≤ (ds u.val).length) && decide ((ds u.val).length ≤ 3))) = true := by decide +kernel
theorem ds1 : ∀ a : Fin 10, valN [dg8 a.val] < 1000 ∧ ds (valN [dg8 a.val]) = [dg8 a.val] := by decide +kernel
theorem ds_ok {u : Nat} (h : u < 1000) : goodN (ds u) = true ∧ valN (ds u) = u ∧ 1 ≤ (ds u).length ∧ (ds u).length ≤ 3 := by
  have := ds_good ⟨u, h⟩
  simp only [Bool.and_eq_true, decide_eq_true_eq, beq_iff_eq] at this
  exact ⟨this.1.1, this.1.2, this.2.1, this.2.2⟩
theorem valN_take {s : List UInt8} {i : Nat} (h : i < s.length) : valN (s.take (i + 1)) = 10 * valN (s.take i) + ((s.getD i 0).toNat - 48) := by
  unfold valN
  rw [List.take_add_one, List.getElem?_eq_getElem h, Option.toList_some, List.foldl_append]
  simp [h]
theorem valN_small : ∀ (s : List UInt8), s.length ≤ 3 → valN s ≤ 255000
  | [], _ => by simp [valN]
  | [a], _ => by have := a.toNat_lt; simp [valN]; omega
  | [a, b], _ => by have := a.toNat_lt; have := b.toNat_lt; simp [valN]; omega
  | [a, b, c], _ => by have := a.toNat_lt; have := b.toNat_lt; have := c.toNat_lt; simp [valN]; omega
  | a :: b :: c :: d :: r, h => by simp at h
theorem number_body {s : List UInt8} (h3 : s.length ≤ 3) (most : Int) (i : Nat) (hi : i < s.length) :
    addr_number_b0 s most (valN (s.take i) : Int) (s.length : Int) (i : Int) = if isDg (s.getD i 0) = true then some (.inl (s, most, (valN (s.take (i + 1)) : Int), (s.length : Int), ((i + 1 : Nat) : Int), ())) else some (.inr (.inr (0, false, ()))) := by
  have hv := valN_small (s.take i) (by simp; omega)
  have hc := (s.getD i 0).toNat_lt
  unfold addr_number_b0
  simp only [ltO_def, chk_same, chk_nn, Int.toNat_natCast]
  rw [decide_eq_true (by omega : (i : Int) < (s.length : Int)), cnd_true, chk_pos (by omega), chk_pos (by intro _; omega), cnd_ite]
  cases hd : isDg (s.getD i 0) with
  | false =>
    simp only [isDg, Bool.and_eq_false_iff, decide_eq_false_iff_not] at hd
    rw [if_pos (by simp only [Bool.or_eq_true, decide_eq_true_eq]; omega)]
    rfl
  | true =>
    simp only [isDg, Bool.and_eq_true, decide_eq_true_eq] at hd
    rw [if_neg (by simp only [Bool.or_eq_true, decide_eq_true_eq]; omega), chk_pos (by omega), valN_take hi]
    rw [w64 (n := 10 * (valN (s.take i) : Int)) (by omega) (by omega), wu8 (by omega) (by omega), w64 (n := ((s.getD i 0).toNat : Int) - 48) (by omega) (by omega), w64 (by omega) (by omega), w64 (by omega) (by omega)]
    simp only [if_true]
    rw [show 10 * (valN (s.take i) : Int) + (((s.getD i 0).toNat : Int) - 48) = ((10 * valN (s.take i) + ((s.getD i 0).toNat - 48) : Nat) : Int) from by omega]
    rfl
theorem all_range {s : List UInt8} : (List.range' 0 s.length).all (fun i => isDg (s.getD i 0)) = s.all isDg := by
  apply Bool.eq_iff_iff.2
  simp only [List.all_eq_true, List.mem_range'_1]
  constructor
  · intro h x hx
    obtain ⟨i, hi, rfl⟩ := List.mem_iff_getElem.1 hx
    have := h i ⟨by omega, by omega⟩
    simpa [hi] using this
  · intro h i hi
    have hi' : i < s.length := by omega
    have := h s[i] (List.getElem_mem hi')
    simpa [hi'] using this
theorem number_eq (s : List UInt8) (most : Int) : addr_number s most = some (if goodN s = true then ((valN s : Int), decide ((valN s : Int) ≤ most), ()) else (0, false, ())) := by
  unfold addr_number
  simp only [ltO_def, chk_same, chk_nn, chk_and]
  by_cases h1 : s == [] || decide ((s.length : Int) > 3)
  · rw [h1]
    simp only [Bool.not_true, Bool.false_and, Bool.true_or, cnd_true]
    rw [chk_pos (by simp), if_neg]
    simp only [Bool.or_eq_true, beq_iff_eq, decide_eq_true_eq] at h1
    unfold goodN
    simp only [Bool.and_eq_true, bne_iff_ne, ne_eq, decide_eq_true_eq]
    rintro ⟨h2, h3, _⟩
    rcases h1 with h1 | h1
    · exact h2 h1
    · omega
  · have e1 : (s == [] || decide ((s.length : Int) > 3)) = false := by simpa using h1
    rw [e1]
    simp only [Bool.not_false, Bool.true_and, Bool.false_or]
    simp only [Bool.or_eq_false_iff, beq_eq_false_iff_ne, ne_eq, decide_eq_false_iff_not] at e1
    obtain ⟨hne, hlen⟩ := e1
    have h0 : 0 < s.length := List.length_pos_iff.2 hne
    rw [chk_pos (by intro h; simp only [decide_eq_true_eq] at h; omega), cnd_ite]
    have h48 : (((s.getD 0 0).toNat : Int) == 48) = (s.getD 0 0 == 48) := by
      apply Bool.eq_iff_iff.2
      rw [beq_iff_eq, beq_iff_eq]
      constructor
      · intro h; exact UInt8.toNat.inj (by show _ = 48; omega)
      · intro h; rw [h]; rfl
    rw [h48]
    by_cases h2 : decide ((s.length : Int) > 1) && s.getD 0 0 == 48
    · rw [if_pos h2, if_neg]
      simp only [Bool.and_eq_true, decide_eq_true_eq] at h2
      unfold goodN
      simp only [Bool.and_eq_true, bne_iff_ne, ne_eq, decide_eq_true_eq, Bool.or_eq_true]
      rintro ⟨_, _, h3, _⟩
      rcases h3 with h3 | h3
      · omega
      · exact h3 (by simpa using h2.2)
    · rw [if_neg h2]
      have L := loopM_all (f := fun s : (List UInt8) × Int × Int × Int × Int × Unit => addr_number_b0 s.1 s.2.1 s.2.2.1 s.2.2.2.1 s.2.2.2.2.1)
        (fun i => (s, most, (valN (s.take i) : Int), (s.length : Int), (i : Int), ())) (fun i => isDg (s.getD i 0)) (.inr (0, false, ())) (.inl (most, (valN s : Int), ())) s.length
        (fun i hi => number_body (s := s) (by omega) most i hi) (by
          show addr_number_b0 s most (valN (s.take s.length) : Int) (s.length : Int) (s.length : Int) = _
          unfold addr_number_b0
          rw [decide_eq_false (by omega), List.take_length]; rfl) s.length 0 (by omega)
      have L' : addr_number_l0 (s, most, 0, (s.length : Int), 0, ()) = _ := L
      have hg : goodN s = s.all isDg := by
        unfold goodN
        rw [show (s != []) = true from by simpa using hne, decide_eq_true (by omega : s.length ≤ 3), Bool.true_and, Bool.true_and]
        have : (decide (s.length ≤ 1) || s.getD 0 0 != 48) = true := by
          simp only [Bool.and_eq_true, decide_eq_true_eq, not_and] at h2
          simp only [Bool.or_eq_true, decide_eq_true_eq, bne_iff_ne, ne_eq]
          by_cases h : s.length ≤ 1
          · exact .inl h
          · exact .inr (fun hh => h2 (by omega) (by rw [hh]; rfl))
        rw [this, Bool.true_and]
      rw [L', all_range, hg]
      cases s.all isDg <;> rfl
def splitC (c : UInt8) : List UInt8 → List (List UInt8)
  | [] => [[]]
  | b :: l => if b = c then [] :: splitC c l else match splitC c l with
    | h :: t => (b :: h) :: t
    | [] => [[b]]
theorem splitC_ne (c : UInt8) : ∀ l, splitC c l ≠ []
  | [] => by simp [splitC]
  | b :: l => by
    unfold splitC
    split
    · simp
    · split <;> simp
theorem split_splitC (c : UInt8) : ∀ s : List UInt8, Lib.split s [c] = splitC c s
  | [] => by
    have : Lib.count [] [c] = 0 := Lib.count_miss (by simp [Lib.index])
    unfold Lib.split; rw [this]; rfl
  | b :: l => by
    have ih := split_splitC c l
    unfold Lib.split at ih ⊢
    by_cases h : b = c
    · subst h
      have hix : Lib.index (b :: l) [b] = 0 := by rw [Lib.index]; simp [List.isPrefixOf]
      rw [Lib.count_cons_eq, Nat.add_comm]
      unfold Lib.splitK
      rw [hix]
      simp only [splitC, if_true]
      rw [← ih]
      rfl
    · have hp : ([c] : List UInt8).isPrefixOf (b :: l) = false := by simp [List.isPrefixOf, Ne.symm h]
      have hix : Lib.index (b :: l) [c] = if Lib.index l [c] == -1 then -1 else Lib.index l [c] + 1 := by rw [Lib.index, hp]; simp
      rw [Lib.count_cons_ne b c l h]
      simp only [splitC, if_neg h]
      rw [← ih]
      cases hk : Lib.count l [c] with
      | zero => rfl
      | succ k =>
        have hne : Lib.index l [c] ≠ -1 := fun e => by rw [Lib.count_miss e] at hk; omega
        have hge := Lib.index_ge l [c]
        obtain ⟨j, hj⟩ : ∃ j : Nat, Lib.index l [c] = j := ⟨(Lib.index l [c]).toNat, by omega⟩
        have hb : (Lib.index l [c] == -1) = false := by simpa using hne
        have hb2 : (((j : Int) + 1) == -1) = false := beq_eq_false_iff_ne.2 (by omega)
        have hb3 : ((j : Int) == -1) = false := beq_eq_false_iff_ne.2 (by omega)
        unfold Lib.splitK
        rw [hix, hb, hj]
        simp only [Bool.false_eq_true, if_false, hb2, hb3]
        have t1 : ((j : Int) + 1).toNat = j + 1 := by omega
        have t2 : ((j : Int)).toNat = j := by omega
        rw [t1, t2]
        simp [List.take_succ_cons]
def pt (a : Int) (k : Nat) : Nat := (a / 2 ^ (8 * k) % 256).toNat
def adT (a : Int) : List UInt8 := ds (pt a 3) ++ 46 :: (ds (pt a 2) ++ 46 :: (ds (pt a 1) ++ 46 :: ds (pt a 0)))
def in32 (a : Int) : Prop := 0 ≤ a ∧ a < 4294967296
theorem pt_lt {a : Int} (k : Nat) : pt a k < 256 := by unfold pt; omega
theorem adT_len (a : Int) : (adT a).length ≤ 15 := by
  have h := fun k => (ds_ok (show pt a k < 1000 from by have := @pt_lt a k; omega)).2.2.2
  have h0 := h 0; have h1 := h 1; have h2 := h 2; have h3 := h 3
  unfold adT
  simp only [List.length_append, List.length_cons]
  omega
theorem text_body' {a : Int} (ha : in32 a) (k : Nat) (hk : k ≤ 3) (parts : List (List UInt8)) (hp : parts.length ≤ 100) :
    addr_Text_b0 a (k : Int) parts = some (.inl (a, (k : Int) - 1, parts ++ [ds (pt a k)], ())) := by
  unfold addr_Text_b0
  have e0 : (8 : Int) * (k : Int) = ((8 * k : Nat) : Int) := by omega
  have hb : 8 * k ≤ IntKind.u32.bits := by have : IntKind.u32.bits = 32 := rfl; omega
  have hq : 0 ≤ a / 2 ^ (8 * k) := Int.ediv_nonneg ha.1 (by exact_mod_cast Nat.zero_le (2 ^ (8 * k)))
  rw [decide_eq_true (by omega : (k : Int) ≥ 0), cnd_true, w64 (by omega) (by omega), ltO_def, chk_pos (by omega), e0, shr_eq _ hb, ltO_def, band_mask (m := 255) 8 hq rfl (by decide), wu32 (by omega) (by omega), ltO_def, w64 (by omega) (by omega), ltO_def]
  rw [itoa_ds (by omega) (by omega), bnd_val, chk_pos (by simp [room]; omega), w64 (by omega) (by omega), ltO_def]
  rfl
theorem Text_eq {a : Int} (ha : in32 a) : addr_Text a = some (adT a, ()) := by
  unfold addr_Text addr_Text_l0
  rw [loopM_next (text_body' ha 3 (by omega) [] (by simp)), loopM_next (text_body' ha 2 (by omega) _ (by simp)), loopM_next (text_body' ha 1 (by omega) _ (by simp)), loopM_next (text_body' ha 0 (by omega) _ (by simp))]
  rw [loopM_last (y := .inl ([ds (pt a 3), ds (pt a 2), ds (pt a 1), ds (pt a 0)], ())) (by
    show addr_Text_b0 a (((0 : Nat) : Int) - 1) _ = _
    unfold addr_Text_b0; rw [decide_eq_false (by decide)]; rfl)]
  simp only [bnd_val, sumO_inl]
  have hj : Lib.join [ds (pt a 3), ds (pt a 2), ds (pt a 1), ds (pt a 0)] [46] = adT a := by
    rw [Lib.join_cons]; simp [Lib.joinTail, adT]
  unfold strings_Join
  rw [hj, chk_pos ⟨by simp, by have := adT_len a; omega⟩]
  rfl
def okB (p : List UInt8) : Bool := goodN p && decide (valN p ≤ 255)
def rdA (s : List UInt8) : Option Int :=
  match splitC 46 s with
  | [p, q, r, t] => if okB p && (okB q && (okB r && okB t)) then some ((((valN p * 256 + valN q) * 256 + valN r) * 256 + valN t : Nat) : Int) else none
  | _ => none
theorem parse_round (a : Int) (ps : List (List UInt8)) (i : Nat) (hi : i < ps.length) (hp : ps.length = 4) (h0 : 0 ≤ a) (h1 : a < 16777216) :
    addr_Parse_b0 a ps (ps.length : Int) (i : Int) = if okB (ps.getD i []) = true then some (.inl (a * 256 + (valN (ps.getD i []) : Int), ps, (ps.length : Int), ((i + 1 : Nat) : Int), ())) else some (.inr (.inr (0, false, ()))) := by
  unfold addr_Parse_b0
  simp only [ltO_def, Int.toNat_natCast, number_eq, bnd_val]
  rw [decide_eq_true (by omega : (i : Int) < (ps.length : Int)), cnd_true, chk_pos (by omega)]
  unfold okB
  cases hg : goodN (ps.getD i []) with
  | false => simp
  | true =>
    simp only [if_true, Bool.true_and]
    by_cases hv : valN (ps.getD i []) ≤ 255
    · have e : decide ((valN (ps.getD i []) : Int) ≤ 255) = true := decide_eq_true (by omega)
      rw [e, decide_eq_true hv]
      simp only [Bool.not_true, cnd_false, if_true]
      have s8 : shlI IntKind.u32 a 8 = a * 256 := by
        have : shlI IntKind.u32 a 8 = IntKind.u32.wrap (a * 2 ^ 8) := shl_eq 8 (by decide)
        rw [this, wu32 (by omega) (by omega)]; rfl
      rw [chk_pos (by decide), s8, wu32 (n := (valN (ps.getD i []) : Int)) (by omega) (by omega), bor_add 8 (by omega) (by omega) (by omega) (by omega) (by show _ < (4294967296 : Int); omega), wu32 (by omega) (by omega), w64 (by omega) (by omega)]
      rfl
    · have e : decide ((valN (ps.getD i []) : Int) ≤ 255) = false := decide_eq_false (by omega)
      rw [e, decide_eq_false hv]
      simp
theorem Parse_eq {s : List UInt8} (hs : s.length < 4294967281) : addr_Parse s = some (match rdA s with
    | some a => (a, true, ())
    | none => (0, false, ())) := by
  unfold addr_Parse strings_Split rdA
  rw [chk_pos ⟨hs, by simp⟩, bnd_val, ltO_def, split_splitC]
  have big : ∀ ps : List (List UInt8), ps.length ≠ 4 → (((ps.length : Nat) : Int) != 4) = true := by intro ps h; simp; omega
  match splitC 46 s with
  | [] => rw [big _ (by simp)]; rfl
  | [_] => rw [big _ (by simp)]; rfl
  | [_, _] => rw [big _ (by simp)]; rfl
  | [_, _, _] => rw [big _ (by simp)]; rfl
  | _ :: _ :: _ :: _ :: _ :: r => rw [big _ (by simp)]; rfl
  | [p, q, r, t] =>
    have e0 : (((([p, q, r, t] : List (List UInt8)).length : Nat) : Int) != 4) = false := rfl
    rw [e0, cnd_false]
    have R := fun a i hi => parse_round a [p, q, r, t] i hi rfl
    have L : addr_Parse_l0 (0, [p, q, r, t], ((([p, q, r, t] : List (List UInt8)).length : Nat) : Int), 0, ()) =
        some (if okB p && (okB q && (okB r && okB t)) then .inl (((((valN p * 256 + valN q) * 256 + valN r) * 256 + valN t : Nat) : Int), ()) else .inr (0, false, ())) := by
      unfold addr_Parse_l0
      have bd : ∀ x, okB x = true → valN x ≤ 255 := by intro x hx; simp only [okB, Bool.and_eq_true, decide_eq_true_eq] at hx; exact hx.2
      have r0 := R 0 0 (by simp) (by omega) (by omega)
      cases h0 : okB p with
      | false => rw [loopM_last (r0.trans (by rw [show ([p, q, r, t] : List (List UInt8)).getD 0 [] = p from rfl, h0]; rfl))]; simp
      | true =>
        have b0 := bd _ h0
        rw [loopM_next (r0.trans (by rw [show ([p, q, r, t] : List (List UInt8)).getD 0 [] = p from rfl, h0]; rfl))]
        have r1 := R (0 * 256 + (valN p : Int)) 1 (by simp) (by omega) (by omega)
        cases h1 : okB q with
        | false => rw [loopM_last (r1.trans (by rw [show ([p, q, r, t] : List (List UInt8)).getD 1 [] = q from rfl, h1]; rfl))]; simp
        | true =>
          have b1 := bd _ h1
          rw [loopM_next (r1.trans (by rw [show ([p, q, r, t] : List (List UInt8)).getD 1 [] = q from rfl, h1]; rfl))]
          have r2 := R ((0 * 256 + (valN p : Int)) * 256 + (valN q : Int)) 2 (by simp) (by omega) (by omega)
          cases h2 : okB r with
          | false => rw [loopM_last (r2.trans (by rw [show ([p, q, r, t] : List (List UInt8)).getD 2 [] = r from rfl, h2]; rfl))]; simp
          | true =>
            have b2 := bd _ h2
            rw [loopM_next (r2.trans (by rw [show ([p, q, r, t] : List (List UInt8)).getD 2 [] = r from rfl, h2]; rfl))]
            have r3 := R (((0 * 256 + (valN p : Int)) * 256 + (valN q : Int)) * 256 + (valN r : Int)) 3 (by simp) (by omega) (by omega)
            cases h3 : okB t with
            | false => rw [loopM_last (r3.trans (by rw [show ([p, q, r, t] : List (List UInt8)).getD 3 [] = t from rfl, h3]; rfl))]; simp
            | true =>
              rw [loopM_next (r3.trans (by rw [show ([p, q, r, t] : List (List UInt8)).getD 3 [] = t from rfl, h3]; rfl))]
              rw [loopM_last (y := .inl ((((0 * 256 + (valN p : Int)) * 256 + (valN q : Int)) * 256 + (valN r : Int)) * 256 + (valN t : Int), ())) (by
                show addr_Parse_b0 _ [p, q, r, t] ((([p, q, r, t] : List (List UInt8)).length : Nat) : Int) ((4 : Nat) : Int) = _
                unfold addr_Parse_b0; rw [decide_eq_false (by simp)]; rfl)]
              simp
    rw [L]
    cases hb : (okB p && (okB q && (okB r && okB t))) <;> simp [hb]
end Go.Tr
namespace Go.Tr
open Go
set_option linter.unusedVariables false
set_option linter.unusedSimpArgs false
set_option maxRecDepth 100000
set_option maxHeartbeats 400000
end Go.Tr
namespace Go.Tr
open Go
set_option linter.unusedVariables false
set_option linter.unusedSimpArgs false
set_option maxRecDepth 100000
set_option maxHeartbeats 400000
def Wd (n : Int) : Int := 2 ^ (32 - n).toNat
def bo (n : Int) : Prop := 0 ≤ n ∧ n ≤ 32
instance (n : Int) : Decidable (bo n) := inferInstanceAs (Decidable (_ ∧ _))
def rB (b : Int × Int) : Bool := decide (bo b.2) && b.1 % Wd b.2 == 0
end Go.Tr
namespace Go.Tr
open Go
set_option linter.unusedVariables false
set_option linter.unusedSimpArgs false
set_option maxRecDepth 100000
set_option maxHeartbeats 1000000
end Go.Tr
