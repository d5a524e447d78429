/- The laws of stations, of the printed functions. The laws of stations, of the printed functions: the statements. The law of comparisons, of the printed functions. The law of what stations are, of the printed function. Conditions: none but those that each theorem states. -/
import Derived.Test.YtfaaeeabiikhbaaGreatDoorBE
import Derived.Test.YtfaaeeabiikhbaaGreatDoorMacD
namespace Go.Tr
open Go
set_option linter.unusedVariables false
set_option linter.unusedSimpArgs false
set_option maxRecDepth 100000
set_option maxHeartbeats 4000000
def hexd (up : Bool) (n : Int) : UInt8 :=
  if up then [(48 : UInt8), 49, 50, 51, 52, 53, 54, 55, 56, 57, 65, 66, 67, 68, 69, 70].getD n.toNat 0
  else [(48 : UInt8), 49, 50, 51, 52, 53, 54, 55, 56, 57, 97, 98, 99, 100, 101, 102].getD n.toNat 0
def dgS (c : Int) : Int × Bool :=
  if 48 ≤ c ∧ c ≤ 57 then (c - 48, true) else if 65 ≤ c ∧ c ≤ 70 then (c - 55, true) else if 97 ≤ c ∧ c ≤ 102 then (c - 87, true) else (0, false)
theorem digit_eq (c : Int) : mac_digit c = some ((dgS c).1, (dgS c).2, ()) := by
  unfold mac_digit dgS
  simp only [chk_same, ltO_def, cnd_ite, u8_wrap, Bool.and_eq_true, decide_eq_true_eq, ge_iff_le]
  by_cases h1 : 48 ≤ c ∧ c ≤ 57
  · simp only [if_pos h1]; simp; omega
  · simp only [if_neg h1]
    by_cases h2 : 65 ≤ c ∧ c ≤ 70
    · simp only [if_pos h2]; simp; omega
    · simp only [if_neg h2]
      by_cases h3 : 97 ≤ c ∧ c ≤ 102
      · simp only [if_pos h3]; simp; omega
      · simp only [if_neg h3]
abbrev M6 := Int × Int × Int × Int × Int × Int
def by8 (a : Int) : Prop := 0 ≤ a ∧ a < 256
structure M6ok (m : M6) : Prop where
  h0 : by8 m.1
  h1 : by8 m.2.1
  h2 : by8 m.2.2.1
  h3 : by8 m.2.2.2.1
  h4 : by8 m.2.2.2.2.1
  h5 : by8 m.2.2.2.2.2
def tx (sep : UInt8) (u : Fin 6 → Bool) (m : M6) : List UInt8 :=
  [hexd (u 0) (m.1 / 16), hexd (u 0) (m.1 % 16), sep, hexd (u 1) (m.2.1 / 16), hexd (u 1) (m.2.1 % 16), sep, hexd (u 2) (m.2.2.1 / 16), hexd (u 2) (m.2.2.1 % 16), sep,
   hexd (u 3) (m.2.2.2.1 / 16), hexd (u 3) (m.2.2.2.1 % 16), sep, hexd (u 4) (m.2.2.2.2.1 / 16), hexd (u 4) (m.2.2.2.2.1 % 16), sep, hexd (u 5) (m.2.2.2.2.2 / 16), hexd (u 5) (m.2.2.2.2.2 % 16)]
def lowT (m : M6) : List UInt8 := tx 58 (fun _ => false) m
theorem shr4' {a : Int} (h : by8 a) : shrI .u8 a 4 = a / 16 := by
  unfold shrI; exact shr4 a h.1
theorem and15' {a : Int} (h : by8 a) : IntKind.u8.wrap (bandI .u8 a 15) = a % 16 := by
  unfold bandI; exact and15 a h.1
theorem or16 {a b : Int} (ha : 0 ≤ a ∧ a < 16) (hb : 0 ≤ b ∧ b < 16) : IntKind.u8.wrap (borI .u8 (shlI .u8 a 4) b) = a * 16 + b := by
  have h : ∀ (a b : Fin 16), IntKind.u8.wrap (borI .u8 (shlI .u8 (a.val : Int) 4) (b.val : Int)) = (a.val : Int) * 16 + (b.val : Int) := by decide +kernel
  have := h ⟨a.toNat, by omega⟩ ⟨b.toNat, by omega⟩
  simp only [Int.toNat_of_nonneg ha.1, Int.toNat_of_nonneg hb.1] at this
  exact this
theorem text_body {m : M6} (hm : M6ok m) (i : Nat) (out : List Int) (hi : i < 6) (ho : out.length ≤ 100) :
    let a := [m.1, m.2.1, m.2.2.1, m.2.2.2.1, m.2.2.2.2.1, m.2.2.2.2.2].getD i 0
    mac_Text_b0 m (i : Int) out = some (.inl (m, ((i : Int) + 1), (if 0 < i then out ++ [58] else out) ++ [((hexd false (a / 16)).toNat : Int), ((hexd false (a % 16)).toNat : Int)], ())) := by
  intro a
  have ha : by8 a := by
    have : a = [m.1, m.2.1, m.2.2.1, m.2.2.2.1, m.2.2.2.2.1, m.2.2.2.2.2].getD i 0 := rfl
    rw [this]
    match i, hi with
    | 0, _ => exact hm.h0
    | 1, _ => exact hm.h1
    | 2, _ => exact hm.h2
    | 3, _ => exact hm.h3
    | 4, _ => exact hm.h4
    | 5, _ => exact hm.h5
  have g : ∀ n : Int, 0 ≤ n → n < 16 → [(48 : UInt8), 49, 50, 51, 52, 53, 54, 55, 56, 57, 97, 98, 99, 100, 101, 102].getD n.toNat 0 = hexd false n := fun n _ _ => rfl
  have w : IntKind.i64.wrap ((i : Int) + 1) = (i : Int) + 1 := by rw [i64_wrap]; omega
  have r4 : shrI .u8 a 4 = a / 16 := shr4' ha
  have r15 := and15' ha
  unfold mac_Text_b0
  simp only [ltO_def]
  rw [decide_eq_true (by omega : (i : Int) < 6), cnd_true, chk_pos (by omega)]
  have e : [m.1, m.2.1, m.2.2.1, m.2.2.2.1, m.2.2.2.2.1, m.2.2.2.2.2].getD (i : Int).toNat 0 = a := by simp only [Int.toNat_natCast]; rfl
  rw [e, r4, r15, w, cnd_ite]
  have d1 := ha.1
  have d2 := ha.2
  by_cases hp : 0 < i
  · rw [if_pos (by simp; omega), if_pos hp, chk_pos (by simp; omega), chk_pos (by decide), chk_pos (by omega), chk_pos (by omega), chk_pos (by simp; omega)]
    rfl
  · rw [if_neg (by simp; omega), if_neg hp, chk_pos (by decide), chk_pos (by omega), chk_pos (by omega), chk_pos (by simp; omega)]
    rfl
theorem text_eq {m : M6} (hm : M6ok m) : mac_Text m = some (lowT m, ()) := by
  unfold mac_Text mac_Text_l0
  rw [chk_pos (by simp)]
  have st : ∀ (i : Nat) (out : List Int), i < 6 → out.length ≤ 100 → _ := fun i out hi ho => text_body hm i out hi ho
  rw [loopM_next (by simpa using text_body hm 0 [] (by omega) (by simp))]
  rw [loopM_next (by simpa using text_body hm 1 _ (by omega) (by simp))]
  rw [loopM_next (by simpa using text_body hm 2 _ (by omega) (by simp))]
  rw [loopM_next (by simpa using text_body hm 3 _ (by omega) (by simp))]
  rw [loopM_next (by simpa using text_body hm 4 _ (by omega) (by simp))]
  rw [loopM_next (by simpa using text_body hm 5 _ (by omega) (by simp))]
  rw [loopM_last (by unfold mac_Text_b0; rw [decide_eq_false (by simp)]; rfl)]
  simp [toBytes, lowT, tx, ltO_def]
def cnP (s : List UInt8) (i : Nat) : Bool :=
  (dgS ((s.getD (3 * i) 0).toNat : Int)).2 && ((dgS ((s.getD (3 * i + 1) 0).toNat : Int)).2 && (!decide (i < 5) || s.getD (3 * i + 2) 0 == s.getD 2 0))
def vlP (s : List UInt8) (i : Nat) : Int := (dgS ((s.getD (3 * i) 0).toNat : Int)).1 * 16 + (dgS ((s.getD (3 * i + 1) 0).toNat : Int)).1
theorem dgS_ok {c : Int} (h : (dgS c).2 = true) : 0 ≤ (dgS c).1 ∧ (dgS c).1 < 16 := by
  revert h
  unfold dgS
  split
  · intro _; simp; omega
  · split
    · intro _; simp; omega
    · split
      · intro _; simp; omega
      · intro h; simp at h
theorem u8i {a b : UInt8} : ((a.toNat : Int) == (b.toNat : Int)) = (a == b) := by
  apply Bool.eq_iff_iff.2
  rw [beq_iff_eq, beq_iff_eq]
  constructor
  · intro h; exact UInt8.toNat.inj (by omega)
  · intro h; rw [h]
theorem parse_body {s : List UInt8} (hs : s.length = 17) (i : Nat) (hi : i < 6) (x0 x1 x2 x3 x4 x5 m0 m1 m2 m3 m4 m5 : Int) :
    mac_Parse_b0 s (i : Int) x0 x1 x2 x3 x4 x5 m0 m1 m2 m3 m4 m5 = if cnP s i = true then
      some (.inl (s, (i : Int) + 1, x0, x1, x2, x3, x4, x5, ([m0, m1, m2, m3, m4, m5].set i (vlP s i)).getD 0 0, ([m0, m1, m2, m3, m4, m5].set i (vlP s i)).getD 1 0, ([m0, m1, m2, m3, m4, m5].set i (vlP s i)).getD 2 0, ([m0, m1, m2, m3, m4, m5].set i (vlP s i)).getD 3 0, ([m0, m1, m2, m3, m4, m5].set i (vlP s i)).getD 4 0, ([m0, m1, m2, m3, m4, m5].set i (vlP s i)).getD 5 0, ()))
      else some (.inr (.inr ((0, 0, 0, 0, 0, 0), false, ()))) := by
  have w1 : IntKind.i64.wrap (3 * (i : Int)) = 3 * (i : Int) := by rw [i64_wrap]; omega
  have w2 : IntKind.i64.wrap (3 * (i : Int) + 1) = 3 * (i : Int) + 1 := by rw [i64_wrap]; omega
  have w3 : IntKind.i64.wrap (3 * (i : Int) + 2) = 3 * (i : Int) + 2 := by rw [i64_wrap]; omega
  have w4 : IntKind.i64.wrap ((i : Int) + 1) = (i : Int) + 1 := by rw [i64_wrap]; omega
  have n1 : (3 * (i : Int)).toNat = 3 * i := by omega
  have n2 : (3 * (i : Int) + 1).toNat = 3 * i + 1 := by omega
  have n3 : (3 * (i : Int) + 2).toNat = 3 * i + 2 := by omega
  unfold mac_Parse_b0
  simp only [ltO_def, w1, w2, w3, w4, n1, n2, n3, digit_eq, bnd_val, hs, chk_same, Int.toNat_natCast]
  rw [decide_eq_true (by omega : (i : Int) < 6), cnd_true, chk_pos (by omega), chk_pos (by omega)]
  rw [chk_pos (by simp), chk_pos (by intro h; simp at h; omega), chk_pos (by intro h; omega), chk_pos (by intro h; simp at h ⊢; intro h2; exact ⟨h, h2⟩), chk_pos (by simp)]
  have hd : decide ((i : Int) < 5) = decide (i < 5) := by simp only [decide_eq_decide]; omega
  have c0 : (!(dgS ((s.getD (3 * i) 0).toNat : Int)).2 || !(dgS ((s.getD (3 * i + 1) 0).toNat : Int)).2 || (decide ((i : Int) < 5) && (((s.getD (3 * i + 2) 0).toNat : Int) != ((s.getD 2 0).toNat : Int)))) = !cnP s i := by
    unfold cnP bne
    rw [u8i, hd]
    cases (dgS ((s.getD (3 * i) 0).toNat : Int)).2 <;> cases (dgS ((s.getD (3 * i + 1) 0).toNat : Int)).2 <;> cases decide (i < 5) <;> cases s.getD (3 * i + 2) 0 == s.getD 2 0 <;> rfl
  rw [c0]
  cases hc : cnP s i with
  | false => simp
  | true =>
    simp only [Bool.not_true, cnd_false, if_true]
    rw [chk_pos (by decide), chk_pos (by omega)]
    have q : (dgS ((s.getD (3 * i) 0).toNat : Int)).2 = true ∧ (dgS ((s.getD (3 * i + 1) 0).toNat : Int)).2 = true := by
      unfold cnP at hc; simp only [Bool.and_eq_true] at hc; exact ⟨hc.1, hc.2.1⟩
    rw [or16 (dgS_ok q.1) (dgS_ok q.2)]
    rfl
def okP (s : List UInt8) : Bool :=
  s.length == 17 && ((s.getD 2 0 == 58 || s.getD 2 0 == 45) && (cnP s 0 && (cnP s 1 && (cnP s 2 && (cnP s 3 && (cnP s 4 && cnP s 5))))))
def pf (s : List UInt8) (i j : Nat) : Int := if j < i then vlP s j else 0
theorem parse_eq (s : List UInt8) : mac_Parse s = some (if okP s = true then ((vlP s 0, vlP s 1, vlP s 2, vlP s 3, vlP s 4, vlP s 5), true, ()) else ((0, 0, 0, 0, 0, 0), false, ())) := by
  unfold mac_Parse
  simp only [ltO_def, chk_same, chk_nn, chk_and]
  by_cases hs : s.length = 17
  · have e0 : ((s.length : Int) != 17) = false := by rw [hs]; rfl
    rw [e0]
    simp only [Bool.not_false, Bool.true_and, Bool.false_or]
    rw [chk_pos (by intro _; omega), chk_pos (by intro _; omega)]
    have e1 : ((((s.getD 2 0).toNat : Int) != 58) && (((s.getD 2 0).toNat : Int) != 45)) = !(s.getD 2 0 == 58 || s.getD 2 0 == 45) := by
      have a := @u8i (s.getD 2 0) 58
      have b := @u8i (s.getD 2 0) 45
      rw [← a, ← b]
      unfold bne
      rw [Bool.not_or]; rfl
    rw [e1]
    cases hp : (s.getD 2 0 == 58 || s.getD 2 0 == 45) with
    | false =>
      simp only [Bool.not_false, cnd_true]
      rw [if_neg]
      unfold okP
      rw [hp]; simp
    | true =>
      simp only [Bool.not_true, cnd_false]
      have hq : okP s = (List.range' 0 6).all (cnP s) := by
        unfold okP; rw [hp, hs]; simp [List.range', Bool.and_assoc]
      have L := loopM_all (f := fun s : (List UInt8) × Int × Int × Int × Int × Int × Int × Int × Int × Int × Int × Int × Int × Int × Unit => mac_Parse_b0 s.1 s.2.1 s.2.2.1 s.2.2.2.1 s.2.2.2.2.1 s.2.2.2.2.2.1 s.2.2.2.2.2.2.1 s.2.2.2.2.2.2.2.1 s.2.2.2.2.2.2.2.2.1 s.2.2.2.2.2.2.2.2.2.1 s.2.2.2.2.2.2.2.2.2.2.1 s.2.2.2.2.2.2.2.2.2.2.2.1 s.2.2.2.2.2.2.2.2.2.2.2.2.1 s.2.2.2.2.2.2.2.2.2.2.2.2.2.1)
        (fun i => (s, (i : Int), 0, 0, 0, 0, 0, 0, pf s i 0, pf s i 1, pf s i 2, pf s i 3, pf s i 4, pf s i 5, ())) (cnP s) (.inr ((0, 0, 0, 0, 0, 0), false, ())) (.inl (0, 0, 0, 0, 0, 0, vlP s 0, vlP s 1, vlP s 2, vlP s 3, vlP s 4, vlP s 5, ())) 6
        (fun i hi => by
          show mac_Parse_b0 s (i : Int) 0 0 0 0 0 0 (pf s i 0) (pf s i 1) (pf s i 2) (pf s i 3) (pf s i 4) (pf s i 5) = _
          rw [parse_body hs i hi]
          match i, hi with
          | 0, _ => rfl
          | 1, _ => rfl
          | 2, _ => rfl
          | 3, _ => rfl
          | 4, _ => rfl
          | 5, _ => rfl) (by
          show mac_Parse_b0 s ((6 : Nat) : Int) 0 0 0 0 0 0 (pf s 6 0) (pf s 6 1) (pf s 6 2) (pf s 6 3) (pf s 6 4) (pf s 6 5) = _
          unfold mac_Parse_b0; rw [decide_eq_false (by decide)]; rfl) 6 0 rfl
      have L' : mac_Parse_l0 (s, 0, 0, 0, 0, 0, 0, 0, 0, 0, 0, 0, 0, 0, ()) = _ := L
      rw [L', hq]
      cases (List.range' 0 6).all (cnP s) <;> rfl
  · have e0 : ((s.length : Int) != 17) = true := by simp; omega
    rw [e0]
    simp only [Bool.not_true, Bool.true_or, Bool.false_and, cnd_true]
    rw [chk_pos (by simp), chk_pos (by simp), if_neg]
    unfold okP
    rw [show (s.length == 17) = false from by simp [hs]]; simp
theorem none_eq (m : M6) : mac_None m = some (m == (0, 0, 0, 0, 0, 0), ()) := by
  unfold mac_None; rfl
end Go.Tr
namespace Go.Tr
open Go
set_option linter.unusedVariables false
set_option linter.unusedSimpArgs false
set_option maxRecDepth 100000
set_option maxHeartbeats 4000000
abbrev m6at (m : M6) (i : Nat) : Int := [m.1, m.2.1, m.2.2.1, m.2.2.2.1, m.2.2.2.2.1, m.2.2.2.2.2].getD i 0
theorem M6ok.at {m : M6} (hm : M6ok m) {i : Nat} (hi : i < 6) : by8 (m6at m i) := by
  match i, hi with
  | 0, _ => exact hm.h0
  | 1, _ => exact hm.h1
  | 2, _ => exact hm.h2
  | 3, _ => exact hm.h3
  | 4, _ => exact hm.h4
  | 5, _ => exact hm.h5
end Go.Tr
namespace Go.Tr
open Go
set_option linter.unusedVariables false
set_option linter.unusedSimpArgs false
set_option maxRecDepth 100000
set_option maxHeartbeats 4000000
end Go.Tr
namespace Go.Tr
open Go
set_option linter.unusedVariables false
set_option linter.unusedSimpArgs false
set_option maxRecDepth 100000
set_option maxHeartbeats 4000000
end Go.Tr
