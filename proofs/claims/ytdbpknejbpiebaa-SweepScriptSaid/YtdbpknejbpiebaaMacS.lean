/- The laws of stations, of the printed functions. The laws of stations, of the printed functions: the statements. The law of comparisons, of the printed functions. The law of what stations are, of the printed function. Conditions: none but those that each theorem states. -/
import Derived.Test.YtdbpknejbpiebaaBE
import Derived.Test.YtdbpknejbpiebaaMacD
namespace Go.Tr
open Go
set_option linter.unusedVariables false
set_option linter.unusedSimpArgs false
set_option maxRecDepth 100000
set_option maxHeartbeats 4000000

def hexd (up : Bool) (n : Int) : UInt8 :=
  if up then [(48 : UInt8), 49, 50, 51, 52, 53, 54, 55, 56, 57, 65, 66, 67, 68, 69, 70].getD n.toNat 0
  else [(48 : UInt8), 49, 50, 51, 52, 53, 54, 55, 56, 57, 97, 98, 99, 100, 101, 102].getD n.toNat 0

def dgS (c : Int) : Int × Bool :=
  if 48 ≤ c ∧ c ≤ 57 then (c - 48, true) else if 65 ≤ c ∧ c ≤ 70 then (c - 55, true) else if 97 ≤ c ∧ c ≤ 102 then (c - 87, true) else (0, false)

theorem digit_eq (c : Int) : mac_digit c = some ((dgS c).1, (dgS c).2, ()) := by
  unfold mac_digit dgS
  simp only [chk_same, ltO_def, cnd_ite, u8_wrap, Bool.and_eq_true, decide_eq_true_eq, ge_iff_le]
  by_cases h1 : 48 ≤ c ∧ c ≤ 57
  · simp only [if_pos h1]; simp; omega
  · simp only [if_neg h1]
    by_cases h2 : 65 ≤ c ∧ c ≤ 70
    · simp only [if_pos h2]; simp; omega
    · simp only [if_neg h2]
      by_cases h3 : 97 ≤ c ∧ c ≤ 102
      · simp only [if_pos h3]; simp; omega
      · simp only [if_neg h3]

theorem dgS_hexd (up : Bool) {n : Int} (h0 : 0 ≤ n) (h1 : n < 16) : dgS ((hexd up n).toNat : Int) = (n, true) := by
  cases up
  · exact all_n (p := fun n => dgS ((hexd false n).toNat : Int) = (n, true)) 16 (by decide) h0 h1
  · exact all_n (p := fun n => dgS ((hexd true n).toNat : Int) = (n, true)) 16 (by decide) h0 h1

theorem pair_eq {c : Int} (h0 : 0 ≤ c) (h1 : c < 256) (up : Bool) : terrierlaw02_pair c up = some ([hexd up (c / 16), hexd up (c % 16)], ()) := by
  have e1 : c.tdiv 16 = c / 16 := Int.tdiv_eq_ediv_of_nonneg h0
  have e2 : c.tmod 16 = c % 16 := Int.tmod_eq_emod_of_nonneg h0
  have b1 : 0 ≤ c / 16 ∧ c / 16 < 16 := by omega
  have b2 : 0 ≤ c % 16 ∧ c % 16 < 16 := by omega
  have sl : ∀ (up : Bool) (n : Int), 0 ≤ n → n < 16 → sliceA n.toNat (n + 1).toNat (if up then [(48 : UInt8), 49, 50, 51, 52, 53, 54, 55, 56, 57, 65, 66, 67, 68, 69, 70] else [(48 : UInt8), 49, 50, 51, 52, 53, 54, 55, 56, 57, 97, 98, 99, 100, 101, 102]) = [hexd up n] := by
    intro up n h0 h1
    cases up
    · exact all_n (p := fun n => sliceA n.toNat (n + 1).toNat (if false then [(48 : UInt8), 49, 50, 51, 52, 53, 54, 55, 56, 57, 65, 66, 67, 68, 69, 70] else [(48 : UInt8), 49, 50, 51, 52, 53, 54, 55, 56, 57, 97, 98, 99, 100, 101, 102]) = [hexd false n]) 16 (by decide) h0 h1
    · exact all_n (p := fun n => sliceA n.toNat (n + 1).toNat (if true then [(48 : UInt8), 49, 50, 51, 52, 53, 54, 55, 56, 57, 65, 66, 67, 68, 69, 70] else [(48 : UInt8), 49, 50, 51, 52, 53, 54, 55, 56, 57, 97, 98, 99, 100, 101, 102]) = [hexd true n]) 16 (by decide) h0 h1
  have w1 : IntKind.u8.wrap (c / 16) = c / 16 := by rw [u8_wrap]; omega
  have w2 : IntKind.u8.wrap (c / 16 + 1) = c / 16 + 1 := by rw [u8_wrap]; omega
  have w3 : IntKind.u8.wrap (c % 16 + 1) = c % 16 + 1 := by rw [u8_wrap]; omega
  unfold terrierlaw02_pair
  cases up
  · have s1 := sl false _ b1.1 b1.2
    have s2 := sl false _ b2.1 b2.2
    simp only [Bool.false_eq_true, ite_false] at s1 s2
    simp only [cnd_false, ltO_def, e1, e2, w1, w2, w3]
    rw [chk_pos (by decide), chk_pos (by decide), chk_pos (by omega), chk_pos (by decide), chk_pos (by decide), chk_pos (by omega), s1, s2, chk_pos (by simp)]
    rfl
  · have s1 := sl true _ b1.1 b1.2
    have s2 := sl true _ b2.1 b2.2
    simp only [ite_true] at s1 s2
    simp only [cnd_true, ltO_def, e1, e2, w1, w2, w3]
    rw [chk_pos (by decide), chk_pos (by decide), chk_pos (by omega), chk_pos (by decide), chk_pos (by decide), chk_pos (by omega), s1, s2, chk_pos (by simp)]
    rfl

abbrev M6 := Int × Int × Int × Int × Int × Int
def by8 (a : Int) : Prop := 0 ≤ a ∧ a < 256
structure M6ok (m : M6) : Prop where
  h0 : by8 m.1
  h1 : by8 m.2.1
  h2 : by8 m.2.2.1
  h3 : by8 m.2.2.2.1
  h4 : by8 m.2.2.2.2.1
  h5 : by8 m.2.2.2.2.2

/-- A station's text. -/
def tx (sep : UInt8) (u : Fin 6 → Bool) (m : M6) : List UInt8 :=
  [hexd (u 0) (m.1 / 16), hexd (u 0) (m.1 % 16), sep, hexd (u 1) (m.2.1 / 16), hexd (u 1) (m.2.1 % 16), sep, hexd (u 2) (m.2.2.1 / 16), hexd (u 2) (m.2.2.1 % 16), sep,
   hexd (u 3) (m.2.2.2.1 / 16), hexd (u 3) (m.2.2.2.1 % 16), sep, hexd (u 4) (m.2.2.2.2.1 / 16), hexd (u 4) (m.2.2.2.2.1 % 16), sep, hexd (u 5) (m.2.2.2.2.2 / 16), hexd (u 5) (m.2.2.2.2.2 % 16)]
def lowT (m : M6) : List UInt8 := tx 58 (fun _ => false) m

theorem shr4' {a : Int} (h : by8 a) : shrI .u8 a 4 = a / 16 := by
  unfold shrI; exact shr4 a h.1
theorem and15' {a : Int} (h : by8 a) : IntKind.u8.wrap (bandI .u8 a 15) = a % 16 := by
  unfold bandI; exact and15 a h.1
theorem or16 {a b : Int} (ha : 0 ≤ a ∧ a < 16) (hb : 0 ≤ b ∧ b < 16) : IntKind.u8.wrap (borI .u8 (shlI .u8 a 4) b) = a * 16 + b := by
  have h : ∀ (a b : Fin 16), IntKind.u8.wrap (borI .u8 (shlI .u8 (a.val : Int) 4) (b.val : Int)) = (a.val : Int) * 16 + (b.val : Int) := by decide +kernel
  have := h ⟨a.toNat, by omega⟩ ⟨b.toNat, by omega⟩
  simp only [Int.toNat_of_nonneg ha.1, Int.toNat_of_nonneg hb.1] at this
  exact this

theorem text_body {m : M6} (hm : M6ok m) (i : Nat) (out : List Int) (hi : i < 6) (ho : out.length ≤ 100) :
    let a := [m.1, m.2.1, m.2.2.1, m.2.2.2.1, m.2.2.2.2.1, m.2.2.2.2.2].getD i 0
    mac_Text_b0 m (i : Int) out = some (.inl (m, ((i : Int) + 1), (if 0 < i then out ++ [58] else out) ++ [((hexd false (a / 16)).toNat : Int), ((hexd false (a % 16)).toNat : Int)], ())) := by
  intro a
  have ha : by8 a := by
    have : a = [m.1, m.2.1, m.2.2.1, m.2.2.2.1, m.2.2.2.2.1, m.2.2.2.2.2].getD i 0 := rfl
    rw [this]
    match i, hi with
    | 0, _ => exact hm.h0
    | 1, _ => exact hm.h1
    | 2, _ => exact hm.h2
    | 3, _ => exact hm.h3
    | 4, _ => exact hm.h4
    | 5, _ => exact hm.h5
  have g : ∀ n : Int, 0 ≤ n → n < 16 → [(48 : UInt8), 49, 50, 51, 52, 53, 54, 55, 56, 57, 97, 98, 99, 100, 101, 102].getD n.toNat 0 = hexd false n := fun n _ _ => rfl
  have w : IntKind.i64.wrap ((i : Int) + 1) = (i : Int) + 1 := by rw [i64_wrap]; omega
  have r4 : shrI .u8 a 4 = a / 16 := shr4' ha
  have r15 := and15' ha
  unfold mac_Text_b0
  simp only [ltO_def]
  rw [decide_eq_true (by omega : (i : Int) < 6), cnd_true, chk_pos (by omega)]
  have e : [m.1, m.2.1, m.2.2.1, m.2.2.2.1, m.2.2.2.2.1, m.2.2.2.2.2].getD (i : Int).toNat 0 = a := by simp only [Int.toNat_natCast]; rfl
  rw [e, r4, r15, w, cnd_ite]
  have d1 := ha.1
  have d2 := ha.2
  by_cases hp : 0 < i
  · rw [if_pos (by simp; omega), if_pos hp, chk_pos (by simp; omega), chk_pos (by decide), chk_pos (by omega), chk_pos (by omega), chk_pos (by simp; omega)]
    rfl
  · rw [if_neg (by simp; omega), if_neg hp, chk_pos (by decide), chk_pos (by omega), chk_pos (by omega), chk_pos (by simp; omega)]
    rfl

theorem text_eq {m : M6} (hm : M6ok m) : mac_Text m = some (lowT m, ()) := by
  unfold mac_Text mac_Text_l0
  rw [chk_pos (by simp)]
  have st : ∀ (i : Nat) (out : List Int), i < 6 → out.length ≤ 100 → _ := fun i out hi ho => text_body hm i out hi ho
  rw [loopM_next (by simpa using text_body hm 0 [] (by omega) (by simp))]
  rw [loopM_next (by simpa using text_body hm 1 _ (by omega) (by simp))]
  rw [loopM_next (by simpa using text_body hm 2 _ (by omega) (by simp))]
  rw [loopM_next (by simpa using text_body hm 3 _ (by omega) (by simp))]
  rw [loopM_next (by simpa using text_body hm 4 _ (by omega) (by simp))]
  rw [loopM_next (by simpa using text_body hm 5 _ (by omega) (by simp))]
  rw [loopM_last (by unfold mac_Text_b0; rw [decide_eq_false (by simp)]; rfl)]
  simp [toBytes, lowT, tx, ltO_def]

/-! ### Reading -/

def cnP (s : List UInt8) (i : Nat) : Bool :=
  (dgS ((s.getD (3 * i) 0).toNat : Int)).2 && ((dgS ((s.getD (3 * i + 1) 0).toNat : Int)).2 && (!decide (i < 5) || s.getD (3 * i + 2) 0 == s.getD 2 0))
def vlP (s : List UInt8) (i : Nat) : Int := (dgS ((s.getD (3 * i) 0).toNat : Int)).1 * 16 + (dgS ((s.getD (3 * i + 1) 0).toNat : Int)).1

theorem dgS_ok {c : Int} (h : (dgS c).2 = true) : 0 ≤ (dgS c).1 ∧ (dgS c).1 < 16 := by
  revert h
  unfold dgS
  split
  · intro _; simp; omega
  · split
    · intro _; simp; omega
    · split
      · intro _; simp; omega
      · intro h; simp at h

theorem u8i {a b : UInt8} : ((a.toNat : Int) == (b.toNat : Int)) = (a == b) := by
  apply Bool.eq_iff_iff.2
  rw [beq_iff_eq, beq_iff_eq]
  constructor
  · intro h; exact UInt8.toNat.inj (by omega)
  · intro h; rw [h]

theorem parse_body {s : List UInt8} (hs : s.length = 17) (i : Nat) (hi : i < 6) (x0 x1 x2 x3 x4 x5 m0 m1 m2 m3 m4 m5 : Int) :
    mac_Parse_b0 s (i : Int) x0 x1 x2 x3 x4 x5 m0 m1 m2 m3 m4 m5 = if cnP s i = true then
      some (.inl (s, (i : Int) + 1, x0, x1, x2, x3, x4, x5, ([m0, m1, m2, m3, m4, m5].set i (vlP s i)).getD 0 0, ([m0, m1, m2, m3, m4, m5].set i (vlP s i)).getD 1 0, ([m0, m1, m2, m3, m4, m5].set i (vlP s i)).getD 2 0, ([m0, m1, m2, m3, m4, m5].set i (vlP s i)).getD 3 0, ([m0, m1, m2, m3, m4, m5].set i (vlP s i)).getD 4 0, ([m0, m1, m2, m3, m4, m5].set i (vlP s i)).getD 5 0, ()))
      else some (.inr (.inr ((0, 0, 0, 0, 0, 0), false, ()))) := by
  have w1 : IntKind.i64.wrap (3 * (i : Int)) = 3 * (i : Int) := by rw [i64_wrap]; omega
  have w2 : IntKind.i64.wrap (3 * (i : Int) + 1) = 3 * (i : Int) + 1 := by rw [i64_wrap]; omega
  have w3 : IntKind.i64.wrap (3 * (i : Int) + 2) = 3 * (i : Int) + 2 := by rw [i64_wrap]; omega
  have w4 : IntKind.i64.wrap ((i : Int) + 1) = (i : Int) + 1 := by rw [i64_wrap]; omega
  have n1 : (3 * (i : Int)).toNat = 3 * i := by omega
  have n2 : (3 * (i : Int) + 1).toNat = 3 * i + 1 := by omega
  have n3 : (3 * (i : Int) + 2).toNat = 3 * i + 2 := by omega
  unfold mac_Parse_b0
  simp only [ltO_def, w1, w2, w3, w4, n1, n2, n3, digit_eq, bnd_val, hs, chk_same, Int.toNat_natCast]
  rw [decide_eq_true (by omega : (i : Int) < 6), cnd_true, chk_pos (by omega), chk_pos (by omega)]
  rw [chk_pos (by simp), chk_pos (by intro h; simp at h; omega), chk_pos (by intro h; omega), chk_pos (by intro h; simp at h ⊢; intro h2; exact ⟨h, h2⟩), chk_pos (by simp)]
  have hd : decide ((i : Int) < 5) = decide (i < 5) := by simp only [decide_eq_decide]; omega
  have c0 : (!(dgS ((s.getD (3 * i) 0).toNat : Int)).2 || !(dgS ((s.getD (3 * i + 1) 0).toNat : Int)).2 || (decide ((i : Int) < 5) && (((s.getD (3 * i + 2) 0).toNat : Int) != ((s.getD 2 0).toNat : Int)))) = !cnP s i := by
    unfold cnP bne
    rw [u8i, hd]
    cases (dgS ((s.getD (3 * i) 0).toNat : Int)).2 <;> cases (dgS ((s.getD (3 * i + 1) 0).toNat : Int)).2 <;> cases decide (i < 5) <;> cases s.getD (3 * i + 2) 0 == s.getD 2 0 <;> rfl
  rw [c0]
  cases hc : cnP s i with
  | false => simp
  | true =>
    simp only [Bool.not_true, cnd_false, if_true]
    rw [chk_pos (by decide), chk_pos (by omega)]
    have q : (dgS ((s.getD (3 * i) 0).toNat : Int)).2 = true ∧ (dgS ((s.getD (3 * i + 1) 0).toNat : Int)).2 = true := by
      unfold cnP at hc; simp only [Bool.and_eq_true] at hc; exact ⟨hc.1, hc.2.1⟩
    rw [or16 (dgS_ok q.1) (dgS_ok q.2)]
    rfl

def okP (s : List UInt8) : Bool :=
  s.length == 17 && ((s.getD 2 0 == 58 || s.getD 2 0 == 45) && (cnP s 0 && (cnP s 1 && (cnP s 2 && (cnP s 3 && (cnP s 4 && cnP s 5))))))

def pf (s : List UInt8) (i j : Nat) : Int := if j < i then vlP s j else 0

theorem parse_eq (s : List UInt8) : mac_Parse s = some (if okP s = true then ((vlP s 0, vlP s 1, vlP s 2, vlP s 3, vlP s 4, vlP s 5), true, ()) else ((0, 0, 0, 0, 0, 0), false, ())) := by
  unfold mac_Parse
  simp only [ltO_def, chk_same, chk_nn, chk_and]
  by_cases hs : s.length = 17
  · have e0 : ((s.length : Int) != 17) = false := by rw [hs]; rfl
    rw [e0]
    simp only [Bool.not_false, Bool.true_and, Bool.false_or]
    rw [chk_pos (by intro _; omega), chk_pos (by intro _; omega)]
    have e1 : ((((s.getD 2 0).toNat : Int) != 58) && (((s.getD 2 0).toNat : Int) != 45)) = !(s.getD 2 0 == 58 || s.getD 2 0 == 45) := by
      have a := @u8i (s.getD 2 0) 58
      have b := @u8i (s.getD 2 0) 45
      rw [← a, ← b]
      unfold bne
      rw [Bool.not_or]; rfl
    rw [e1]
    cases hp : (s.getD 2 0 == 58 || s.getD 2 0 == 45) with
    | false =>
      simp only [Bool.not_false, cnd_true]
      rw [if_neg]
      unfold okP
      rw [hp]; simp
    | true =>
      simp only [Bool.not_true, cnd_false]
      have hq : okP s = (List.range' 0 6).all (cnP s) := by
        unfold okP; rw [hp, hs]; simp [List.range', Bool.and_assoc]
      have L := loopM_all (f := fun s : (List UInt8) × Int × Int × Int × Int × Int × Int × Int × Int × Int × Int × Int × Int × Int × Unit => mac_Parse_b0 s.1 s.2.1 s.2.2.1 s.2.2.2.1 s.2.2.2.2.1 s.2.2.2.2.2.1 s.2.2.2.2.2.2.1 s.2.2.2.2.2.2.2.1 s.2.2.2.2.2.2.2.2.1 s.2.2.2.2.2.2.2.2.2.1 s.2.2.2.2.2.2.2.2.2.2.1 s.2.2.2.2.2.2.2.2.2.2.2.1 s.2.2.2.2.2.2.2.2.2.2.2.2.1 s.2.2.2.2.2.2.2.2.2.2.2.2.2.1)
        (fun i => (s, (i : Int), 0, 0, 0, 0, 0, 0, pf s i 0, pf s i 1, pf s i 2, pf s i 3, pf s i 4, pf s i 5, ())) (cnP s) (.inr ((0, 0, 0, 0, 0, 0), false, ())) (.inl (0, 0, 0, 0, 0, 0, vlP s 0, vlP s 1, vlP s 2, vlP s 3, vlP s 4, vlP s 5, ())) 6
        (fun i hi => by
          show mac_Parse_b0 s (i : Int) 0 0 0 0 0 0 (pf s i 0) (pf s i 1) (pf s i 2) (pf s i 3) (pf s i 4) (pf s i 5) = _
          rw [parse_body hs i hi]
          match i, hi with
          | 0, _ => rfl
          | 1, _ => rfl
          | 2, _ => rfl
          | 3, _ => rfl
          | 4, _ => rfl
          | 5, _ => rfl) (by
          show mac_Parse_b0 s ((6 : Nat) : Int) 0 0 0 0 0 0 (pf s 6 0) (pf s 6 1) (pf s 6 2) (pf s 6 3) (pf s 6 4) (pf s 6 5) = _
          unfold mac_Parse_b0; rw [decide_eq_false (by decide)]; rfl) 6 0 rfl
      have L' : mac_Parse_l0 (s, 0, 0, 0, 0, 0, 0, 0, 0, 0, 0, 0, 0, 0, ()) = _ := L
      rw [L', hq]
      cases (List.range' 0 6).all (cnP s) <;> rfl
  · have e0 : ((s.length : Int) != 17) = true := by simp; omega
    rw [e0]
    simp only [Bool.not_true, Bool.true_or, Bool.false_and, cnd_true]
    rw [chk_pos (by simp), chk_pos (by simp), if_neg]
    unfold okP
    rw [show (s.length == 17) = false from by simp [hs]]; simp

theorem parse_tx (sep : UInt8) (hsep : sep = 58 ∨ sep = 45) (u : Fin 6 → Bool) {m : M6} (hm : M6ok m) : mac_Parse (tx sep u m) = some (m, true, ()) := by
  have D : ∀ (a : Int) (b : Bool), by8 a → dgS ((hexd b (a / 16)).toNat : Int) = (a / 16, true) ∧ dgS ((hexd b (a % 16)).toNat : Int) = (a % 16, true) := by
    intro a b h
    obtain ⟨h1, h2⟩ := h
    exact ⟨dgS_hexd b (by omega) (by omega), dgS_hexd b (by omega) (by omega)⟩
  rw [parse_eq]
  have c : okP (tx sep u m) = true := by
    unfold okP cnP tx
    simp [(D _ (u 0) hm.h0).1, (D _ (u 0) hm.h0).2, (D _ (u 1) hm.h1).1, (D _ (u 1) hm.h1).2, (D _ (u 2) hm.h2).1, (D _ (u 2) hm.h2).2, (D _ (u 3) hm.h3).1, (D _ (u 3) hm.h3).2, (D _ (u 4) hm.h4).1, (D _ (u 4) hm.h4).2, (D _ (u 5) hm.h5).1, (D _ (u 5) hm.h5).2]
    exact hsep
  rw [if_pos c]
  obtain ⟨a0, a1, a2, a3, a4, a5⟩ := m
  unfold vlP tx
  simp [(D _ (u 0) hm.h0).1, (D _ (u 0) hm.h0).2, (D _ (u 1) hm.h1).1, (D _ (u 1) hm.h1).2, (D _ (u 2) hm.h2).1, (D _ (u 2) hm.h2).2, (D _ (u 3) hm.h3).1, (D _ (u 3) hm.h3).2, (D _ (u 4) hm.h4).1, (D _ (u 4) hm.h4).2, (D _ (u 5) hm.h5).1, (D _ (u 5) hm.h5).2]
  omega

theorem group_eq (m : M6) (hm : M6ok m) : mac_Group m = some (m.1 % 2 == 1, ()) := by
  unfold mac_Group bandI
  rw [chk_pos (by decide), and1 _ hm.h0.1]; rfl
theorem none_eq (m : M6) : mac_None m = some (m == (0, 0, 0, 0, 0, 0), ()) := by
  unfold mac_None; rfl

theorem awake_eq : terrierlaw02_awake = some (true, ()) := by
  unfold terrierlaw02_awake
  have h : M6ok (2, 0, 0, 0, 0, 10) := ⟨⟨by decide, by decide⟩, ⟨by decide, by decide⟩, ⟨by decide, by decide⟩, ⟨by decide, by decide⟩, ⟨by decide, by decide⟩, ⟨by decide, by decide⟩⟩
  have p := parse_tx 45 (.inr rfl) (fun _ => true) h
  have e : tx 45 (fun _ => true) (2, 0, 0, 0, 0, 10) = [(48 : UInt8), (50 : UInt8), (45 : UInt8), (48 : UInt8), (48 : UInt8), (45 : UInt8), (48 : UInt8), (48 : UInt8), (45 : UInt8), (48 : UInt8), (48 : UInt8), (45 : UInt8), (48 : UInt8), (48 : UInt8), (45 : UInt8), (48 : UInt8), (65 : UInt8)] := by decide
  rw [e] at p
  rw [p]
  simp only [bnd_val, text_eq h, chk_same, ltO_def, bndG_val, group_eq _ h, none_eq]
  rfl

end Go.Tr
namespace Go.Tr
open Go
set_option linter.unusedVariables false
set_option linter.unusedSimpArgs false
set_option maxRecDepth 100000
set_option maxHeartbeats 4000000

abbrev m6at (m : M6) (i : Nat) : Int := [m.1, m.2.1, m.2.2.1, m.2.2.2.1, m.2.2.2.2.1, m.2.2.2.2.2].getD i 0
theorem M6ok.at {m : M6} (hm : M6ok m) {i : Nat} (hi : i < 6) : by8 (m6at m i) := by
  match i, hi with
  | 0, _ => exact hm.h0
  | 1, _ => exact hm.h1
  | 2, _ => exact hm.h2
  | 3, _ => exact hm.h3
  | 4, _ => exact hm.h4
  | 5, _ => exact hm.h5

def upB (great : Int) (i : Nat) : Bool := IntKind.u8.wrap (bandI .u8 (shrI .u8 great (i : Int)) 1) == 1

theorem macText_body {m : M6} (hm : M6ok m) (great : Int) (s t : List UInt8) (sep : UInt8) (i : Nat) (hi : i < 6) (hs : s.length ≤ 100) (ht : t.length ≤ 100) (m0 m1 m2 m3 m4 m5 : Int) :
    terrierlaw02_MacText_b0 great s t [sep] m (i : Int) m0 m1 m2 m3 m4 m5 = some (.inl (great, (if 0 < i then s ++ [58] else s) ++ [hexd false (m6at m i / 16), hexd false (m6at m i % 16)],
      (if 0 < i then t ++ [sep] else t) ++ [hexd (upB great i) (m6at m i / 16), hexd (upB great i) (m6at m i % 16)], [sep], m, (i : Int) + 1, m0, m1, m2, m3, m4, m5, ())) := by
  have ha := hm.at hi
  have w : IntKind.i64.wrap ((i : Int) + 1) = (i : Int) + 1 := by rw [i64_wrap]; omega
  unfold terrierlaw02_MacText_b0
  simp only [ltO_def]
  rw [decide_eq_true (by omega : (i : Int) < 6), cnd_true, chk_pos (by omega)]
  have e : [m.1, m.2.1, m.2.2.1, m.2.2.2.1, m.2.2.2.2.1, m.2.2.2.2.2].getD (i : Int).toNat 0 = m6at m i := by simp only [Int.toNat_natCast]
  rw [e, w, cnd_ite, pair_eq ha.1 ha.2 false, pair_eq ha.1 ha.2 (IntKind.u8.wrap (bandI IntKind.u8 (shrI IntKind.u8 great (i : Int)) 1) == 1)]
  simp only [bnd_val]
  by_cases hp : 0 < i
  · rw [if_pos (by simp; omega), if_pos hp, if_pos hp, chk_pos (by omega), chk_pos (by simp; omega), chk_pos (by simp; omega), chk_pos (by omega), chk_pos (by simp; omega)]
    rfl
  · rw [if_neg (by simp; omega), if_neg hp, if_neg hp, chk_pos (by simp; omega), chk_pos (by omega), chk_pos (by simp; omega)]
    rfl

def txU (great : Int) : Fin 6 → Bool := fun i => upB great i.val
theorem macText_loop {m : M6} (hm : M6ok m) (great : Int) (sep : UInt8) (m0 m1 m2 m3 m4 m5 : Int) :
    terrierlaw02_MacText_l0 (great, [], [], [sep], m, 0, m0, m1, m2, m3, m4, m5, ()) = some (.inl (lowT m, tx sep (txU great) m, m0, m1, m2, m3, m4, m5, ())) := by
  have L := loopM_steps (f := fun s : Int × (List UInt8) × (List UInt8) × (List UInt8) × (Int × Int × Int × Int × Int × Int) × Int × Int × Int × Int × Int × Int × Int × Unit => terrierlaw02_MacText_b0 s.1 s.2.1 s.2.2.1 s.2.2.2.1 s.2.2.2.2.1 s.2.2.2.2.2.1 s.2.2.2.2.2.2.1 s.2.2.2.2.2.2.2.1 s.2.2.2.2.2.2.2.2.1 s.2.2.2.2.2.2.2.2.2.1 s.2.2.2.2.2.2.2.2.2.2.1 s.2.2.2.2.2.2.2.2.2.2.2.1)
    (fun i => (great, (lowT m).take (3 * i - 1), (tx sep (txU great) m).take (3 * i - 1), [sep], m, (i : Int), m0, m1, m2, m3, m4, m5, ())) (a := 0) (n := 6) (by omega)
    (fun i h1 h2 => by
      show terrierlaw02_MacText_b0 great ((lowT m).take (3 * i - 1)) ((tx sep (txU great) m).take (3 * i - 1)) [sep] m (i : Int) m0 m1 m2 m3 m4 m5 = _
      rw [macText_body hm great _ _ sep i h2 (by simp; omega) (by simp; omega)]
      match i, h2 with
      | 0, _ => rfl
      | 1, _ => rfl
      | 2, _ => rfl
      | 3, _ => rfl
      | 4, _ => rfl
      | 5, _ => rfl)
  have L' : terrierlaw02_MacText_l0 (great, [], [], [sep], m, 0, m0, m1, m2, m3, m4, m5, ()) = _ := L
  rw [L', loopM_last (y := .inl (lowT m, tx sep (txU great) m, m0, m1, m2, m3, m4, m5, ()))]
  show terrierlaw02_MacText_b0 great ((lowT m).take (3 * 6 - 1)) ((tx sep (txU great) m).take (3 * 6 - 1)) [sep] m ((6 : Nat) : Int) m0 m1 m2 m3 m4 m5 = _
  unfold terrierlaw02_MacText_b0
  rw [decide_eq_false (by decide)]
  rfl

theorem macText_law {m : M6} (hm : M6ok m) (great : Int) (stroke : Bool) : terrierlaw02_MacText m great stroke = some (true, ()) := by
  unfold terrierlaw02_MacText
  have L := fun sep => macText_loop hm great sep m.1 m.2.1 m.2.2.1 m.2.2.2.1 m.2.2.2.2.1 m.2.2.2.2.2
  simp only [awake_eq, bnd_val, Bool.not_true, cnd_false, L, sumO_inl, chk_same, ltO_def, text_eq hm]
  rw [show mac_Parse (lowT m) = some (m, true, ()) from parse_tx 58 (.inl rfl) _ hm, parse_tx 58 (.inl rfl) _ hm, parse_tx 45 (.inr rfl) _ hm]
  cases stroke <;> simp [cnd, lowT]

theorem tx_inj {a b : M6} (ha : M6ok a) (hb : M6ok b) (h : lowT a = lowT b) : a = b := by
  have p := parse_tx 58 (.inl rfl) (fun _ => false) ha
  have q := parse_tx 58 (.inl rfl) (fun _ => false) hb
  have : mac_Parse (lowT a) = mac_Parse (lowT b) := by rw [h]
  unfold lowT at this
  rw [p, q] at this
  simp only [Option.some.injEq, Prod.mk.injEq, and_true] at this
  exact this

theorem macRound_law {a b : M6} (ha : M6ok a) (hb : M6ok b) : terrierlaw02_MacRound a b = some (true, ()) := by
  unfold terrierlaw02_MacRound
  simp only [awake_eq, bnd_val, bndG_val, Bool.not_true, cnd_false, chk_same, ltO_def, text_eq ha, text_eq hb]
  have e : (lowT a == lowT b) = (a == b) := by
    apply Bool.eq_iff_iff.2
    simp only [beq_iff_eq]
    exact ⟨tx_inj ha hb, fun h => by rw [h]⟩
  rw [e]
  have e2 : (a == b) = (a.1 == b.1 && (a.2.1 == b.2.1 && (a.2.2.1 == b.2.2.1 && (a.2.2.2.1 == b.2.2.2.1 && (a.2.2.2.2.1 == b.2.2.2.2.1 && a.2.2.2.2.2 == b.2.2.2.2.2))))) := rfl
  rw [← e2]
  simp [lowT, tx]

/-! ### Any text -/

def isD (c : UInt8) : Bool := (dgS (c.toNat : Int)).2
def wtP (x : List UInt8) (k : Nat) : Bool := (k % 3 == 2 && x.getD k 0 == x.getD 2 0) || (decide (k % 3 < 2) && isD (x.getD k 0))

theorem isD_eq (c : UInt8) : isD c = ((decide (((c.toNat : Nat) : Int) ≥ 48) && decide (((c.toNat : Nat) : Int) ≤ 57)) || (decide (((c.toNat : Nat) : Int) ≥ 97) && decide (((c.toNat : Nat) : Int) ≤ 102)) || (decide (((c.toNat : Nat) : Int) ≥ 65) && decide (((c.toNat : Nat) : Int) ≤ 70))) := by
  unfold isD dgS
  apply Bool.eq_iff_iff.2
  simp only [Bool.or_eq_true, Bool.and_eq_true, decide_eq_true_eq]
  split
  · simp; omega
  · split
    · simp; omega
    · split
      · simp; omega
      · simp; omega

theorem any_body {x : List UInt8} (hx : x.length = 17) (ok : Bool) (k : Nat) (hk : k < 17) (t1 t2 n0 n1 n2 n3 n4 n5 : Int) (xs : List (List UInt8)) :
    terrierlaw02_MacAny_b1 x ok true (k : Int) t1 t2 n0 n1 n2 n3 n4 n5 xs = some (.inl (x, ok, wtP x k, (k : Int) + 1, t1, t2, n0, n1, n2, n3, n4, n5, xs, ())) := by
  have w : IntKind.i64.wrap ((k : Int) + 1) = (k : Int) + 1 := by rw [i64_wrap]; omega
  have m : (k : Int).tmod 3 = ((k % 3 : Nat) : Int) := by rw [Int.tmod_eq_emod_of_nonneg (by omega)]; rfl
  unfold terrierlaw02_MacAny_b1
  simp only [ltO_def, chk_same, chk_nn, chk_and, w, m, hx, Int.toNat_natCast]
  rw [decide_eq_true (by omega : (k : Int) < ((17 : Int))), Bool.true_and, cnd_true]
  rw [chk_pos (by omega), chk_pos (by intro _; omega), chk_pos (by intro _; omega), chk_pos (by intro _; omega), chk_pos (by intro _; omega), chk_pos (by intro _; omega), chk_pos (by decide), chk_pos (by intro _; omega), chk_pos (by intro _; omega), chk_pos (by intro _; decide), u8i, ← isD_eq]
  have e : (((k % 3 : Nat) : Int) == 2 && x.getD k 0 == x.getD 2 0 || decide (((k % 3 : Nat) : Int) < 2) && isD (x.getD k 0)) = wtP x k := by
    unfold wtP
    have a : (((k % 3 : Nat) : Int) == 2) = (k % 3 == 2) := by apply Bool.eq_iff_iff.2; simp only [beq_iff_eq]; omega
    have b : decide (((k % 3 : Nat) : Int) < 2) = decide (k % 3 < 2) := by simp only [decide_eq_decide]; omega
    rw [a, b]
  rw [e]

theorem any_loop {x : List UInt8} (hx : x.length = 17) (ok : Bool) (t1 t2 n0 n1 n2 n3 n4 n5 : Int) (xs : List (List UInt8)) : ∀ (n k : Nat), k + n = 17 → ∀ w : Bool,
    terrierlaw02_MacAny_l1 (x, ok, w, (k : Int), t1, t2, n0, n1, n2, n3, n4, n5, xs, ()) = some (.inl (ok, w && (List.range' k n).all (wtP x), t1, t2, n0, n1, n2, n3, n4, n5, xs, ()))
  | 0, k, hk, w => by
    unfold terrierlaw02_MacAny_l1
    rw [loopM_last (y := .inl (ok, w && (List.range' k 0).all (wtP x), t1, t2, n0, n1, n2, n3, n4, n5, xs, ()))]
    show terrierlaw02_MacAny_b1 x ok w (k : Int) t1 t2 n0 n1 n2 n3 n4 n5 xs = _
    unfold terrierlaw02_MacAny_b1
    rw [decide_eq_false (by omega)]
    simp [ltO_def]
  | n + 1, k, hk, false => by
    unfold terrierlaw02_MacAny_l1
    rw [loopM_last (y := .inl (ok, false, t1, t2, n0, n1, n2, n3, n4, n5, xs, ()))]
    · simp
    show terrierlaw02_MacAny_b1 x ok false (k : Int) t1 t2 n0 n1 n2 n3 n4 n5 xs = _
    unfold terrierlaw02_MacAny_b1
    simp [ltO_def]
  | n + 1, k, hk, true => by
    have ih := any_loop hx ok t1 t2 n0 n1 n2 n3 n4 n5 xs n (k + 1) (by omega) (wtP x k)
    unfold terrierlaw02_MacAny_l1 at ih ⊢
    rw [loopM_next (any_body hx ok k (by omega) t1 t2 n0 n1 n2 n3 n4 n5 xs), List.range'_succ, List.all_cons, Bool.true_and]
    exact ih

theorem all_okP {x : List UInt8} (hx : x.length = 17) : ((x.getD 2 0 == 58 || x.getD 2 0 == 45) && (List.range' 0 17).all (wtP x)) = okP x := by
  unfold okP
  rw [hx]
  simp [List.range', wtP, cnP, isD, Bool.and_assoc]

theorem any_round (t37 : Int) (i : Nat) (xs : List (List UInt8)) (hi : i < xs.length) (h37 : t37 = (xs.length : Int)) (hb : xs.length ≤ 100) :
    terrierlaw02_MacAny_b0 t37 (i : Int) xs = some (.inl (t37, (i : Int) + 1, xs, ())) := by
  have w : IntKind.i64.wrap ((i : Int) + 1) = (i : Int) + 1 := by rw [i64_wrap]; omega
  unfold terrierlaw02_MacAny_b0
  rw [decide_eq_true (by omega : (i : Int) < t37), cnd_true, chk_pos (by omega), Int.toNat_natCast, chk_pos hi]
  generalize xs.getD i [] = x
  simp only [ltO_def, chk_same, chk_nn, chk_and, w, parse_eq, bnd_val]
  have hw : (((x.length : Nat) : Int) == 17 && ((((x.getD 2 0).toNat : Nat) : Int) == 58 || (((x.getD 2 0).toNat : Nat) : Int) == 45)) = (x.length == 17 && (x.getD 2 0 == 58 || x.getD 2 0 == 45)) := by
    have a := @u8i (x.getD 2 0) 58
    have b := @u8i (x.getD 2 0) 45
    rw [← a, ← b]
    have c : (((x.length : Nat) : Int) == 17) = (x.length == 17) := by apply Bool.eq_iff_iff.2; simp only [beq_iff_eq]; omega
    rw [c]; rfl
  rw [chk_pos (by intro h; simp at h ⊢; omega), chk_pos (by intro h; simp at h ⊢; omega)]
  rw [chk_pos (by intro h1 h2; rw [h1, h2]; rfl)]
  rw [hw]
  have key : ∀ (ok : Bool) (n0 n1 n2 n3 n4 n5 : Int), terrierlaw02_MacAny_l1 (x, ok, (x.length == 17 && (x.getD 2 0 == 58 || x.getD 2 0 == 45)), 0, t37, (i : Int), n0, n1, n2, n3, n4, n5, xs, ()) = some (.inl (ok, okP x, t37, (i : Int), n0, n1, n2, n3, n4, n5, xs, ())) := by
    intro ok n0 n1 n2 n3 n4 n5
    by_cases hx : x.length = 17
    · have := any_loop hx ok t37 i n0 n1 n2 n3 n4 n5 xs 17 0 rfl (x.length == 17 && (x.getD 2 0 == 58 || x.getD 2 0 == 45))
      rw [show (0 : Int) = ((0 : Nat) : Int) from rfl, this, ← all_okP hx]
      rw [show (x.length == 17) = true from by simp [hx], Bool.true_and]
    · have h2 : (x.length == 17) = false := by simp [hx]
      have h3 : okP x = false := by unfold okP; rw [h2]; rfl
      rw [h2, h3, Bool.false_and]
      unfold terrierlaw02_MacAny_l1
      rw [loopM_last (y := .inl (ok, false, t37, i, n0, n1, n2, n3, n4, n5, xs, ()))]
      show terrierlaw02_MacAny_b1 x ok false 0 t37 i n0 n1 n2 n3 n4 n5 xs = _
      unfold terrierlaw02_MacAny_b1
      simp [ltO_def]
  rw [key]
  cases okP x
  · simp only [bnd_val, sumO_inl, chk_same, Bool.false_eq_true, if_false, ltO_def]
    simp [w]
  · simp only [bnd_val, sumO_inl, chk_same, if_true, ltO_def]
    simp [w]

theorem macAny_law (s : List UInt8) {m : M6} (hm : M6ok m) {at' c : Int} (hat : by8 at') : terrierlaw02_MacAny s m at' c = some (true, ()) := by
  unfold terrierlaw02_MacAny
  have hl : (ofBytes (lowT m)).length = 17 := by simp [ofBytes, lowT, tx]
  have ht : at'.tmod 17 = at' % 17 := Int.tmod_eq_emod_of_nonneg hat.1
  simp only [awake_eq, bnd_val, Bool.not_true, cnd_false, text_eq hm, ltO_def, hl, ht]
  rw [show (((17 : Nat) : Int) != 17) = false from rfl, cnd_false, chk_pos (by decide), chk_pos (by omega), chk_pos (by omega), chk_pos (by simp [hl]), chk_pos (by simp [hl])]
  have G : ∀ (a b : List UInt8), terrierlaw02_MacAny_l0 ((([s, a, b].length : Nat) : Int), 0, [s, a, b], ()) = some (.inl ()) := by
    intro a b
    have L := loopM_steps (f := fun s : Int × Int × (List (List UInt8)) × Unit => terrierlaw02_MacAny_b0 s.1 s.2.1 s.2.2.1) (fun i => ((([s, a, b].length : Nat) : Int), (i : Int), [s, a, b], ())) (a := 0) (n := 3) (by omega) fun i _ hi => any_round _ i [s, a, b] hi rfl (by simp)
    have L' : terrierlaw02_MacAny_l0 ((([s, a, b].length : Nat) : Int), 0, [s, a, b], ()) = _ := L
    rw [L', loopM_last (y := .inl ())]
    show terrierlaw02_MacAny_b0 (([s, a, b].length : Nat) : Int) ((3 : Nat) : Int) [s, a, b] = _
    unfold terrierlaw02_MacAny_b0
    rw [decide_eq_false (by simp)]; rfl
  rw [G]; rfl

end Go.Tr
namespace Go.Tr
open Go
set_option linter.unusedVariables false
set_option linter.unusedSimpArgs false
set_option maxRecDepth 100000
set_option maxHeartbeats 4000000

def cm (x y w : Int) : Int := if x > y then 1 else if x < y then -1 else w
def cmL : List Int → List Int → Int
  | a :: as, b :: bs => cm a b (cmL as bs)
  | _, _ => 0
abbrev l6 (m : M6) : List Int := [m.1, m.2.1, m.2.2.1, m.2.2.2.1, m.2.2.2.2.1, m.2.2.2.2.2]

theorem cmL_neg : ∀ (a b : List Int), cmL b a = - cmL a b
  | [], [] => rfl
  | [], _ :: _ => rfl
  | _ :: _, [] => rfl
  | a :: as, b :: bs => by
    simp only [cmL, cm]; have := cmL_neg as bs
    split <;> split <;> (try split) <;> (try split) <;> omega
theorem cmL_self : ∀ (a : List Int), cmL a a = 0
  | [] => rfl
  | a :: as => by simp only [cmL, cm]; have := cmL_self as; split <;> (try split) <;> omega
theorem cmL_zero : ∀ (a b : List Int), a.length = b.length → cmL a b = 0 → a = b
  | [], [], _, _ => rfl
  | [], _ :: _, h, _ => by simp at h
  | _ :: _, [], h, _ => by simp at h
  | a :: as, b :: bs, h, h2 => by
    simp only [cmL, cm] at h2
    split at h2
    · omega
    · split at h2
      · omega
      · rw [cmL_zero as bs (by simpa using h) h2, show a = b from by omega]
theorem cmL_trans : ∀ (a b c : List Int), a.length = b.length → b.length = c.length → cmL a b ≤ 0 → cmL b c ≤ 0 → cmL a c ≤ 0
  | [], [], [], _, _, _, _ => by simp [cmL]
  | a :: as, b :: bs, c :: cs, h, h', h1, h2 => by
    have ih := cmL_trans as bs cs (by simpa using h) (by simpa using h')
    simp only [cmL, cm] at h1 h2 ⊢
    split at h1
    · omega
    · split at h2
      · omega
      · split
        · omega
        · split
          · omega
          · split at h1
            · omega
            · split at h2
              · omega
              · exact ih h1 h2
  | [], _ :: _, _, h, _, _, _ => by simp at h
  | _ :: _, [], _, h, _, _, _ => by simp at h
  | [], [], _ :: _, _, h, _, _ => by simp at h
  | _ :: _, _ :: _, [], _, h, _, _ => by simp at h

theorem cmp_eq (x y : Int) : cmp_Compare_byte_ x y = some (cm x y 0, ()) := by
  unfold cmp_Compare_byte_ cmp_isNaN_byte_ cm
  simp only [ltO_def, bnd_val]
  rw [show (x != x) = false from by simp, show (y != y) = false from by simp]
  simp only [cnd_false]
  simp only [cnd_ite, decide_eq_true_eq]
  by_cases h : x < y
  · rw [if_pos h, if_neg (show ¬ x > y from by omega), if_pos h]
  · rw [if_neg h]
    by_cases h2 : x > y
    · rw [if_pos h2, if_pos h2]
    · rw [if_neg h2, if_neg h2, if_neg h]

theorem compare_loop (a b : M6) : ∀ (n i : Nat), i + n = 6 → mac_Compare_l0 ((i : Int), a.1, a.2.1, a.2.2.1, a.2.2.2.1, a.2.2.2.2.1, a.2.2.2.2.2, b.1, b.2.1, b.2.2.1, b.2.2.2.1, b.2.2.2.2.1, b.2.2.2.2.2, ()) =
    some (if cmL ((l6 a).drop i) ((l6 b).drop i) = 0 then .inl () else .inr (cmL ((l6 a).drop i) ((l6 b).drop i), ()))
  | 0, i, hi => by
    obtain rfl : i = 6 := by omega
    unfold mac_Compare_l0
    rw [loopM_last (y := .inl ())]
    · rfl
    show mac_Compare_b0 ((6 : Nat) : Int) a.1 a.2.1 a.2.2.1 a.2.2.2.1 a.2.2.2.2.1 a.2.2.2.2.2 b.1 b.2.1 b.2.2.1 b.2.2.2.1 b.2.2.2.2.1 b.2.2.2.2.2 = _
    unfold mac_Compare_b0
    rw [decide_eq_false (by decide)]; rfl
  | n + 1, i, hi => by
    have ih := compare_loop a b n (i + 1) (by omega)
    have w : IntKind.i64.wrap ((i : Int) + 1) = (i : Int) + 1 := by rw [i64_wrap]; omega
    have ea : (l6 a).drop i = (l6 a).getD i 0 :: (l6 a).drop (i + 1) := by
      have h6 : i < 6 := by omega
      match i, h6 with
      | 0, _ => rfl
      | 1, _ => rfl
      | 2, _ => rfl
      | 3, _ => rfl
      | 4, _ => rfl
      | 5, _ => rfl
    have eb : (l6 b).drop i = (l6 b).getD i 0 :: (l6 b).drop (i + 1) := by
      have h6 : i < 6 := by omega
      match i, h6 with
      | 0, _ => rfl
      | 1, _ => rfl
      | 2, _ => rfl
      | 3, _ => rfl
      | 4, _ => rfl
      | 5, _ => rfl
    have st : mac_Compare_b0 (i : Int) a.1 a.2.1 a.2.2.1 a.2.2.2.1 a.2.2.2.2.1 a.2.2.2.2.2 b.1 b.2.1 b.2.2.1 b.2.2.2.1 b.2.2.2.2.1 b.2.2.2.2.2 =
        if cm ((l6 a).getD i 0) ((l6 b).getD i 0) 0 = 0 then some (.inl (((i + 1 : Nat) : Int), a.1, a.2.1, a.2.2.1, a.2.2.2.1, a.2.2.2.2.1, a.2.2.2.2.2, b.1, b.2.1, b.2.2.1, b.2.2.2.1, b.2.2.2.2.1, b.2.2.2.2.2, ())) else some (.inr (.inr (cm ((l6 a).getD i 0) ((l6 b).getD i 0) 0, ()))) := by
      unfold mac_Compare_b0
      simp only [cmp_eq, bnd_val, ltO_def, w, Int.toNat_natCast]
      rw [decide_eq_true (by omega : (i : Int) < 6), cnd_true, chk_pos (by omega), chk_pos (by omega), cnd_ite]
      by_cases h : cm ((l6 a).getD i 0) ((l6 b).getD i 0) 0 = 0
      · rw [if_pos h, if_neg (by simpa using h)]; rfl
      · rw [if_neg h, if_pos (by simpa using h)]
    rw [ea, eb]
    by_cases h : cm ((l6 a).getD i 0) ((l6 b).getD i 0) 0 = 0
    · rw [if_pos h] at st
      have e : ∀ w, cm ((l6 a).getD i 0) ((l6 b).getD i 0) w = w := by
        intro w; unfold cm at h ⊢; split at h
        · omega
        · rename_i h1; split at h
          · omega
          · rename_i h2; rw [if_neg h1, if_neg h2]
      unfold mac_Compare_l0 at ih ⊢
      rw [loopM_next (show (fun s : Int × Int × Int × Int × Int × Int × Int × Int × Int × Int × Int × Int × Int × Unit => mac_Compare_b0 s.1 s.2.1 s.2.2.1 s.2.2.2.1 s.2.2.2.2.1 s.2.2.2.2.2.1 s.2.2.2.2.2.2.1 s.2.2.2.2.2.2.2.1 s.2.2.2.2.2.2.2.2.1 s.2.2.2.2.2.2.2.2.2.1 s.2.2.2.2.2.2.2.2.2.2.1 s.2.2.2.2.2.2.2.2.2.2.2.1 s.2.2.2.2.2.2.2.2.2.2.2.2.1) _ = _ from st), ih]
      simp only [cmL, e]
    · rw [if_neg h] at st
      have e : ∀ w, cm ((l6 a).getD i 0) ((l6 b).getD i 0) w = cm ((l6 a).getD i 0) ((l6 b).getD i 0) 0 := by
        intro w; unfold cm at h ⊢; split
        · rfl
        · split
          · rfl
          · rename_i h1 h2; rw [if_neg h1, if_neg h2] at h; exact absurd rfl h
      unfold mac_Compare_l0
      rw [loopM_last (show (fun s : Int × Int × Int × Int × Int × Int × Int × Int × Int × Int × Int × Int × Int × Unit => mac_Compare_b0 s.1 s.2.1 s.2.2.1 s.2.2.2.1 s.2.2.2.2.1 s.2.2.2.2.2.1 s.2.2.2.2.2.2.1 s.2.2.2.2.2.2.2.1 s.2.2.2.2.2.2.2.2.1 s.2.2.2.2.2.2.2.2.2.1 s.2.2.2.2.2.2.2.2.2.2.1 s.2.2.2.2.2.2.2.2.2.2.2.1 s.2.2.2.2.2.2.2.2.2.2.2.2.1) _ = _ from st)]
      simp only [cmL, e, if_neg h]

theorem compare_eq (a b : M6) : mac_Compare a b = some (cmL (l6 a) (l6 b), ()) := by
  unfold mac_Compare
  have := compare_loop a b 6 0 rfl
  rw [show (0 : Int) = ((0 : Nat) : Int) from rfl, this]
  by_cases h : cmL ((l6 a).drop 0) ((l6 b).drop 0) = 0
  · rw [if_pos h]
    show some (((0 : Nat) : Int), ()) = some (cmL ((l6 a).drop 0) ((l6 b).drop 0), ())
    rw [h]; rfl
  · rw [if_neg h]; rfl

theorem want_loop (a b c d : M6) : ∀ (i : Nat) (w : Int), i ≤ 6 → terrierlaw02_MacCompare_l0 (w, (i : Int) - 1, a.1, a.2.1, a.2.2.1, a.2.2.2.1, a.2.2.2.2.1, a.2.2.2.2.2, b.1, b.2.1, b.2.2.1, b.2.2.2.1, b.2.2.2.2.1, b.2.2.2.2.2, c.1, c.2.1, c.2.2.1, c.2.2.2.1, c.2.2.2.2.1, c.2.2.2.2.2, d.1, d.2.1, d.2.2.1, d.2.2.2.1, d.2.2.2.2.1, d.2.2.2.2.2, ()) =
    some (.inl (((List.range i).reverse.foldl (fun w k => cm ((l6 a).getD k 0) ((l6 b).getD k 0) w) w), a.1, a.2.1, a.2.2.1, a.2.2.2.1, a.2.2.2.2.1, a.2.2.2.2.2, b.1, b.2.1, b.2.2.1, b.2.2.2.1, b.2.2.2.2.1, b.2.2.2.2.2, c.1, c.2.1, c.2.2.1, c.2.2.2.1, c.2.2.2.2.1, c.2.2.2.2.2, d.1, d.2.1, d.2.2.1, d.2.2.2.1, d.2.2.2.2.1, d.2.2.2.2.2, ()))
  | 0, w, hi => by
    unfold terrierlaw02_MacCompare_l0
    refine loopM_last ?_
    show terrierlaw02_MacCompare_b0 w (((0 : Nat) : Int) - 1) a.1 a.2.1 a.2.2.1 a.2.2.2.1 a.2.2.2.2.1 a.2.2.2.2.2 b.1 b.2.1 b.2.2.1 b.2.2.2.1 b.2.2.2.2.1 b.2.2.2.2.2 c.1 c.2.1 c.2.2.1 c.2.2.2.1 c.2.2.2.2.1 c.2.2.2.2.2 d.1 d.2.1 d.2.2.1 d.2.2.2.1 d.2.2.2.2.1 d.2.2.2.2.2 = _
    unfold terrierlaw02_MacCompare_b0
    rw [decide_eq_false (by decide)]; rfl
  | i + 1, w, hi => by
    have ih := want_loop a b c d i (cm ((l6 a).getD i 0) ((l6 b).getD i 0) w) (by omega)
    have st : terrierlaw02_MacCompare_b0 w (((i + 1 : Nat) : Int) - 1) a.1 a.2.1 a.2.2.1 a.2.2.2.1 a.2.2.2.2.1 a.2.2.2.2.2 b.1 b.2.1 b.2.2.1 b.2.2.2.1 b.2.2.2.2.1 b.2.2.2.2.2 c.1 c.2.1 c.2.2.1 c.2.2.2.1 c.2.2.2.2.1 c.2.2.2.2.2 d.1 d.2.1 d.2.2.1 d.2.2.2.1 d.2.2.2.2.1 d.2.2.2.2.2 =
        some (.inl (cm ((l6 a).getD i 0) ((l6 b).getD i 0) w, (i : Int) - 1, a.1, a.2.1, a.2.2.1, a.2.2.2.1, a.2.2.2.2.1, a.2.2.2.2.2, b.1, b.2.1, b.2.2.1, b.2.2.2.1, b.2.2.2.2.1, b.2.2.2.2.2, c.1, c.2.1, c.2.2.1, c.2.2.2.1, c.2.2.2.2.1, c.2.2.2.2.2, d.1, d.2.1, d.2.2.1, d.2.2.2.1, d.2.2.2.2.1, d.2.2.2.2.2, ())) := by
      have e : ((i + 1 : Nat) : Int) - 1 = (i : Int) := by omega
      have w' : IntKind.i64.wrap ((i : Int) - 1) = (i : Int) - 1 := by rw [i64_wrap]; omega
      rw [e]
      unfold terrierlaw02_MacCompare_b0
      simp only [ltO_def, w', Int.toNat_natCast, cnd_ite, decide_eq_true_eq]
      have hi6 : 0 ≤ (i : Int) ∧ (i : Int) < 6 := by omega
      rw [if_pos (by omega)]
      simp only [chk_pos hi6]
      unfold cm
      by_cases h1 : (l6 a).getD i 0 < (l6 b).getD i 0
      · have h2 : ¬ (l6 a).getD i 0 > (l6 b).getD i 0 := by omega
        simp only [if_pos h1, if_neg h2]
      · by_cases h2 : (l6 a).getD i 0 > (l6 b).getD i 0
        · simp only [if_neg h1, if_pos h2]
        · simp only [if_neg h1, if_neg h2]
    unfold terrierlaw02_MacCompare_l0 at ih ⊢
    refine (loopM_next ?_).trans (ih.trans ?_)
    · exact st
    · rw [List.range_succ, List.reverse_append]; rfl

def setA (m : M6) (i : Nat) (v : Int) : M6 := (((l6 m).set i v).getD 0 0, ((l6 m).set i v).getD 1 0, ((l6 m).set i v).getD 2 0, ((l6 m).set i v).getD 3 0, ((l6 m).set i v).getD 4 0, ((l6 m).set i v).getD 5 0)

theorem l6_inj {a b : M6} : (cmL (l6 a) (l6 b) == 0) = (a == b) := by
  apply Bool.eq_iff_iff.2
  simp only [beq_iff_eq]
  constructor
  · intro h
    have := cmL_zero (l6 a) (l6 b) (by simp) h
    obtain ⟨a0, a1, a2, a3, a4, a5⟩ := a
    obtain ⟨b0, b1, b2, b3, b4, b5⟩ := b
    simpa using this
  · rintro rfl; exact cmL_self _

theorem cmL_bound : ∀ (a b : List Int), -1 ≤ cmL a b ∧ cmL a b ≤ 1
  | [], [] => by simp [cmL]
  | [], _ :: _ => by simp [cmL]
  | _ :: _, [] => by simp [cmL]
  | a :: as, b :: bs => by
    simp only [cmL, cm]; have := cmL_bound as bs
    split
    · omega
    · split <;> omega

theorem macCompare_law (a b c : M6) {at' : Int} (hat : by8 at') : terrierlaw02_MacCompare a b c at' = some (true, ()) := by
  unfold terrierlaw02_MacCompare
  have ht : at'.tmod 6 = at' % 6 := Int.tmod_eq_emod_of_nonneg hat.1
  simp only [awake_eq, bnd_val, Bool.not_true, cnd_false, ltO_def, ht]
  rw [chk_pos (by decide), chk_pos (by decide), chk_pos (by omega), chk_pos (by omega)]
  have L := fun (d : M6) => want_loop a b c d 6 0 (by omega)
  have W : (List.range 6).reverse.foldl (fun w k => cm ((l6 a).getD k 0) ((l6 b).getD k 0) w) 0 = cmL (l6 a) (l6 b) := rfl
  simp only [W] at L
  have L' := L (setA a (at' % 6).toNat ((l6 b).getD (at' % 6).toNat 0))
  have E : ((6 : Nat) : Int) - 1 = 5 := rfl
  rw [E] at L'
  have L2 := L'
  unfold setA at L'
  simp only [] at L'
  rw [L']
  simp only [bnd_val, bndG_val, sumO_inl, compare_eq, chk_same, chk_nn]
  have e1 : (a.1, a.2.1, a.2.2.1, a.2.2.2.1, a.2.2.2.2.1, a.2.2.2.2.2) = a := rfl
  have e2 : (b.1, b.2.1, b.2.2.1, b.2.2.2.1, b.2.2.2.2.1, b.2.2.2.2.2) = b := rfl
  have e3 : (c.1, c.2.1, c.2.2.1, c.2.2.2.1, c.2.2.2.2.1, c.2.2.2.2.2) = c := rfl
  rw [e1, e2, e3]
  have bd := cmL_bound (l6 a) (l6 b)
  have wr : IntKind.i64.wrap (0 - cmL (l6 a) (l6 b)) = - cmL (l6 a) (l6 b) := by rw [i64_wrap]; omega
  rw [wr, cmL_neg (l6 a) (l6 b), cmL_self]
  have D := @l6_inj a (setA a (at' % 6).toNat ((l6 b).getD (at' % 6).toNat 0))
  have T := cmL_trans (l6 a) (l6 b) (l6 c) rfl rfl
  have D2 : (a == setA a (at' % 6).toNat ((l6 b).getD (at' % 6).toNat 0)) = (a.1 == (setA a (at' % 6).toNat ((l6 b).getD (at' % 6).toNat 0)).1 && (a.2.1 == (setA a (at' % 6).toNat ((l6 b).getD (at' % 6).toNat 0)).2.1 && (a.2.2.1 == (setA a (at' % 6).toNat ((l6 b).getD (at' % 6).toNat 0)).2.2.1 && (a.2.2.2.1 == (setA a (at' % 6).toNat ((l6 b).getD (at' % 6).toNat 0)).2.2.2.1 && (a.2.2.2.2.1 == (setA a (at' % 6).toNat ((l6 b).getD (at' % 6).toNat 0)).2.2.2.2.1 && a.2.2.2.2.2 == (setA a (at' % 6).toNat ((l6 b).getD (at' % 6).toNat 0)).2.2.2.2.2))))) := rfl
  rw [D2] at D
  unfold setA at D
  simp only [] at D
  rw [D]
  simp
  omega

end Go.Tr
namespace Go.Tr
open Go
set_option linter.unusedVariables false
set_option linter.unusedSimpArgs false
set_option maxRecDepth 100000
set_option maxHeartbeats 4000000

theorem kinds_loop (m : M6) (m0 m1 m2 m3 m4 m5 : Int) : terrierlaw02_MacKinds_l0 (true, m, 0, m0, m1, m2, m3, m4, m5, ()) = some (.inl (m == (0, 0, 0, 0, 0, 0), m0, m1, m2, m3, m4, m5, ())) := by
  have L := loopM_steps (f := fun s : Bool × (Int × Int × Int × Int × Int × Int) × Int × Int × Int × Int × Int × Int × Int × Unit => terrierlaw02_MacKinds_b0 s.1 s.2.1 s.2.2.1 s.2.2.2.1 s.2.2.2.2.1 s.2.2.2.2.2.1 s.2.2.2.2.2.2.1 s.2.2.2.2.2.2.2.1 s.2.2.2.2.2.2.2.2.1)
    (fun i => (((l6 m).take i).all (· == 0), m, (i : Int), m0, m1, m2, m3, m4, m5, ())) (a := 0) (n := 6) (by omega)
    (fun i h1 h2 => by
      show terrierlaw02_MacKinds_b0 (((l6 m).take i).all (· == 0)) m (i : Int) m0 m1 m2 m3 m4 m5 = _
      unfold terrierlaw02_MacKinds_b0
      have w : IntKind.i64.wrap ((i : Int) + 1) = (i : Int) + 1 := by rw [i64_wrap]; omega
      simp only [ltO_def, chk_same]
      rw [decide_eq_true (by omega : (i : Int) < 6), cnd_true, chk_pos (by omega), w]
      match i, h2 with
      | 0, _ => simp [l6]
      | 1, _ => simp [l6]
      | 2, _ => simp [l6, Bool.and_assoc]
      | 3, _ => simp [l6, Bool.and_assoc]
      | 4, _ => simp [l6, Bool.and_assoc]
      | 5, _ => simp [l6, Bool.and_assoc])
  have L' : terrierlaw02_MacKinds_l0 (true, m, 0, m0, m1, m2, m3, m4, m5, ()) = _ := L
  rw [L', loopM_last (y := .inl (((l6 m).take 6).all (· == 0), m0, m1, m2, m3, m4, m5, ()))]
  · have : ((l6 m).take 6).all (· == 0) = (m == (0, 0, 0, 0, 0, 0)) := by
      obtain ⟨a, b, c, d, e, f⟩ := m
      rw [Bool.eq_iff_iff]
      simp [l6]
    rw [this]
  · show terrierlaw02_MacKinds_b0 _ m ((6 : Nat) : Int) m0 m1 m2 m3 m4 m5 = _
    unfold terrierlaw02_MacKinds_b0
    rw [decide_eq_false (by decide)]
    rfl

theorem macKinds_law {m : M6} (hm : M6ok m) : terrierlaw02_MacKinds m = some (true, ()) := by
  unfold terrierlaw02_MacKinds
  have L : terrierlaw02_MacKinds_l0 (true, (m.fst, m.snd.fst, m.snd.snd.fst, m.snd.snd.snd.fst, m.snd.snd.snd.snd.fst, m.snd.snd.snd.snd.snd), 0, m.fst, m.snd.fst, m.snd.snd.fst, m.snd.snd.snd.fst, m.snd.snd.snd.snd.fst, m.snd.snd.snd.snd.snd, ()) = _ := kinds_loop m m.fst m.snd.fst m.snd.snd.fst m.snd.snd.snd.fst m.snd.snd.snd.snd.fst m.snd.snd.snd.snd.snd
  simp only [awake_eq, bnd_val, Bool.not_true, cnd_false]
  rw [L]
  simp only [bnd_val, sumO_inl]
  have e : (m.fst, m.snd.fst, m.snd.snd.fst, m.snd.snd.snd.fst, m.snd.snd.snd.snd.fst, m.snd.snd.snd.snd.snd) = m := rfl
  have h0 := hm.h0
  have e1 : m.fst.tmod 2 = m.fst % 2 := Int.tmod_eq_emod_of_nonneg h0.1
  rw [e, none_eq]
  simp only [bnd_val, group_eq m hm, ltO_def, bndG_val, chk_same, e1, beq_self_eq_true, Bool.and_self]
  rw [chk_pos (by omega), chk_pos (by omega)]
end Go.Tr
