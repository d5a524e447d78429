/- The law of comparisons, of the printed functions. Conditions: none but the numbers' bounds. -/
import Derived.Test.YtbdgfpfafcjmgaaDoorMacL2
namespace Go.Tr
open Go
set_option linter.unusedVariables false
set_option linter.unusedSimpArgs false
set_option maxRecDepth 100000
set_option maxHeartbeats 4000000

def cm (x y w : Int) : Int := if x > y then 1 else if x < y then -1 else w
def cmL : List Int → List Int → Int
  | a :: as, b :: bs => cm a b (cmL as bs)
  | _, _ => 0
abbrev l6 (m : M6) : List Int := [m.1, m.2.1, m.2.2.1, m.2.2.2.1, m.2.2.2.2.1, m.2.2.2.2.2]

theorem cmL_neg : ∀ (a b : List Int), cmL b a = - cmL a b
  | [], [] => rfl
  | [], _ :: _ => rfl
  | _ :: _, [] => rfl
  | a :: as, b :: bs => by
    simp only [cmL, cm]; have := cmL_neg as bs
    split <;> split <;> (try split) <;> (try split) <;> omega
theorem cmL_self : ∀ (a : List Int), cmL a a = 0
  | [] => rfl
  | a :: as => by simp only [cmL, cm]; have := cmL_self as; split <;> (try split) <;> omega
theorem cmL_zero : ∀ (a b : List Int), a.length = b.length → cmL a b = 0 → a = b
  | [], [], _, _ => rfl
  | [], _ :: _, h, _ => by simp at h
  | _ :: _, [], h, _ => by simp at h
  | a :: as, b :: bs, h, h2 => by
    simp only [cmL, cm] at h2
    split at h2
    · omega
    · split at h2
      · omega
      · rw [cmL_zero as bs (by simpa using h) h2, show a = b from by omega]
theorem cmL_trans : ∀ (a b c : List Int), a.length = b.length → b.length = c.length → cmL a b ≤ 0 → cmL b c ≤ 0 → cmL a c ≤ 0
  | [], [], [], _, _, _, _ => by simp [cmL]
  | a :: as, b :: bs, c :: cs, h, h', h1, h2 => by
    have ih := cmL_trans as bs cs (by simpa using h) (by simpa using h')
    simp only [cmL, cm] at h1 h2 ⊢
    split at h1
    · omega
    · split at h2
      · omega
      · split
        · omega
        · split
          · omega
          · split at h1
            · omega
            · split at h2
              · omega
              · exact ih h1 h2
  | [], _ :: _, _, h, _, _, _ => by simp at h
  | _ :: _, [], _, h, _, _, _ => by simp at h
  | [], [], _ :: _, _, h, _, _ => by simp at h
  | _ :: _, _ :: _, [], _, h, _, _ => by simp at h

theorem cmp_eq (x y : Int) : cmp_Compare_byte_ x y = some (cm x y 0, ()) := by
  unfold cmp_Compare_byte_ cmp_isNaN_byte_ cm
  simp only [ltO_def, bnd_val]
  rw [show (x != x) = false from by simp, show (y != y) = false from by simp]
  simp only [cnd_false]
  simp only [cnd_ite, decide_eq_true_eq]
  by_cases h : x < y
  · rw [if_pos h, if_neg (show ¬ x > y from by omega), if_pos h]
  · rw [if_neg h]
    by_cases h2 : x > y
    · rw [if_pos h2, if_pos h2]
    · rw [if_neg h2, if_neg h2, if_neg h]

theorem compare_loop (a b : M6) : ∀ (n i : Nat), i + n = 6 → mac_Compare_l0 ((i : Int), a.1, a.2.1, a.2.2.1, a.2.2.2.1, a.2.2.2.2.1, a.2.2.2.2.2, b.1, b.2.1, b.2.2.1, b.2.2.2.1, b.2.2.2.2.1, b.2.2.2.2.2, ()) =
    some (if cmL ((l6 a).drop i) ((l6 b).drop i) = 0 then .inl () else .inr (cmL ((l6 a).drop i) ((l6 b).drop i), ()))
  | 0, i, hi => by
    obtain rfl : i = 6 := by omega
    unfold mac_Compare_l0
    rw [loopM_last (y := .inl ())]
    · rfl
    show mac_Compare_b0 ((6 : Nat) : Int) a.1 a.2.1 a.2.2.1 a.2.2.2.1 a.2.2.2.2.1 a.2.2.2.2.2 b.1 b.2.1 b.2.2.1 b.2.2.2.1 b.2.2.2.2.1 b.2.2.2.2.2 = _
    unfold mac_Compare_b0
    rw [decide_eq_false (by decide)]; rfl
  | n + 1, i, hi => by
    have ih := compare_loop a b n (i + 1) (by omega)
    have w : IntKind.i64.wrap ((i : Int) + 1) = (i : Int) + 1 := by rw [i64_wrap]; omega
    have ea : (l6 a).drop i = (l6 a).getD i 0 :: (l6 a).drop (i + 1) := by
      have h6 : i < 6 := by omega
      match i, h6 with
      | 0, _ => rfl
      | 1, _ => rfl
      | 2, _ => rfl
      | 3, _ => rfl
      | 4, _ => rfl
      | 5, _ => rfl
    have eb : (l6 b).drop i = (l6 b).getD i 0 :: (l6 b).drop (i + 1) := by
      have h6 : i < 6 := by omega
      match i, h6 with
      | 0, _ => rfl
      | 1, _ => rfl
      | 2, _ => rfl
      | 3, _ => rfl
      | 4, _ => rfl
      | 5, _ => rfl
    have st : mac_Compare_b0 (i : Int) a.1 a.2.1 a.2.2.1 a.2.2.2.1 a.2.2.2.2.1 a.2.2.2.2.2 b.1 b.2.1 b.2.2.1 b.2.2.2.1 b.2.2.2.2.1 b.2.2.2.2.2 =
        if cm ((l6 a).getD i 0) ((l6 b).getD i 0) 0 = 0 then some (.inl (((i + 1 : Nat) : Int), a.1, a.2.1, a.2.2.1, a.2.2.2.1, a.2.2.2.2.1, a.2.2.2.2.2, b.1, b.2.1, b.2.2.1, b.2.2.2.1, b.2.2.2.2.1, b.2.2.2.2.2, ())) else some (.inr (.inr (cm ((l6 a).getD i 0) ((l6 b).getD i 0) 0, ()))) := by
      unfold mac_Compare_b0
      simp only [cmp_eq, bnd_val, ltO_def, w, Int.toNat_natCast]
      rw [decide_eq_true (by omega : (i : Int) < 6), cnd_true, chk_pos (by omega), chk_pos (by omega), cnd_ite]
      by_cases h : cm ((l6 a).getD i 0) ((l6 b).getD i 0) 0 = 0
      · rw [if_pos h, if_neg (by simpa using h)]; rfl
      · rw [if_neg h, if_pos (by simpa using h)]
    rw [ea, eb]
    by_cases h : cm ((l6 a).getD i 0) ((l6 b).getD i 0) 0 = 0
    · rw [if_pos h] at st
      have e : ∀ w, cm ((l6 a).getD i 0) ((l6 b).getD i 0) w = w := by
        intro w; unfold cm at h ⊢; split at h
        · omega
        · rename_i h1; split at h
          · omega
          · rename_i h2; rw [if_neg h1, if_neg h2]
      unfold mac_Compare_l0 at ih ⊢
      rw [loopM_next (show (fun s : Int × Int × Int × Int × Int × Int × Int × Int × Int × Int × Int × Int × Int × Unit => mac_Compare_b0 s.1 s.2.1 s.2.2.1 s.2.2.2.1 s.2.2.2.2.1 s.2.2.2.2.2.1 s.2.2.2.2.2.2.1 s.2.2.2.2.2.2.2.1 s.2.2.2.2.2.2.2.2.1 s.2.2.2.2.2.2.2.2.2.1 s.2.2.2.2.2.2.2.2.2.2.1 s.2.2.2.2.2.2.2.2.2.2.2.1 s.2.2.2.2.2.2.2.2.2.2.2.2.1) _ = _ from st), ih]
      simp only [cmL, e]
    · rw [if_neg h] at st
      have e : ∀ w, cm ((l6 a).getD i 0) ((l6 b).getD i 0) w = cm ((l6 a).getD i 0) ((l6 b).getD i 0) 0 := by
        intro w; unfold cm at h ⊢; split
        · rfl
        · split
          · rfl
          · rename_i h1 h2; rw [if_neg h1, if_neg h2] at h; exact absurd rfl h
      unfold mac_Compare_l0
      rw [loopM_last (show (fun s : Int × Int × Int × Int × Int × Int × Int × Int × Int × Int × Int × Int × Int × Unit => mac_Compare_b0 s.1 s.2.1 s.2.2.1 s.2.2.2.1 s.2.2.2.2.1 s.2.2.2.2.2.1 s.2.2.2.2.2.2.1 s.2.2.2.2.2.2.2.1 s.2.2.2.2.2.2.2.2.1 s.2.2.2.2.2.2.2.2.2.1 s.2.2.2.2.2.2.2.2.2.2.1 s.2.2.2.2.2.2.2.2.2.2.2.1 s.2.2.2.2.2.2.2.2.2.2.2.2.1) _ = _ from st)]
      simp only [cmL, e, if_neg h]

theorem compare_eq (a b : M6) : mac_Compare a b = some (cmL (l6 a) (l6 b), ()) := by
  unfold mac_Compare
  have := compare_loop a b 6 0 rfl
  rw [show (0 : Int) = ((0 : Nat) : Int) from rfl, this]
  by_cases h : cmL ((l6 a).drop 0) ((l6 b).drop 0) = 0
  · rw [if_pos h]
    show some (((0 : Nat) : Int), ()) = some (cmL ((l6 a).drop 0) ((l6 b).drop 0), ())
    rw [h]; rfl
  · rw [if_neg h]; rfl

theorem want_loop (a b c d : M6) : ∀ (i : Nat) (w : Int), i ≤ 6 → terrierlaw02_MacCompare_l0 (w, (i : Int) - 1, a.1, a.2.1, a.2.2.1, a.2.2.2.1, a.2.2.2.2.1, a.2.2.2.2.2, b.1, b.2.1, b.2.2.1, b.2.2.2.1, b.2.2.2.2.1, b.2.2.2.2.2, c.1, c.2.1, c.2.2.1, c.2.2.2.1, c.2.2.2.2.1, c.2.2.2.2.2, d.1, d.2.1, d.2.2.1, d.2.2.2.1, d.2.2.2.2.1, d.2.2.2.2.2, ()) =
    some (.inl (((List.range i).reverse.foldl (fun w k => cm ((l6 a).getD k 0) ((l6 b).getD k 0) w) w), a.1, a.2.1, a.2.2.1, a.2.2.2.1, a.2.2.2.2.1, a.2.2.2.2.2, b.1, b.2.1, b.2.2.1, b.2.2.2.1, b.2.2.2.2.1, b.2.2.2.2.2, c.1, c.2.1, c.2.2.1, c.2.2.2.1, c.2.2.2.2.1, c.2.2.2.2.2, d.1, d.2.1, d.2.2.1, d.2.2.2.1, d.2.2.2.2.1, d.2.2.2.2.2, ()))
  | 0, w, hi => by
    unfold terrierlaw02_MacCompare_l0
    refine loopM_last ?_
    show terrierlaw02_MacCompare_b0 w (((0 : Nat) : Int) - 1) a.1 a.2.1 a.2.2.1 a.2.2.2.1 a.2.2.2.2.1 a.2.2.2.2.2 b.1 b.2.1 b.2.2.1 b.2.2.2.1 b.2.2.2.2.1 b.2.2.2.2.2 c.1 c.2.1 c.2.2.1 c.2.2.2.1 c.2.2.2.2.1 c.2.2.2.2.2 d.1 d.2.1 d.2.2.1 d.2.2.2.1 d.2.2.2.2.1 d.2.2.2.2.2 = _
    unfold terrierlaw02_MacCompare_b0
    rw [decide_eq_false (by decide)]; rfl
  | i + 1, w, hi => by
    have ih := want_loop a b c d i (cm ((l6 a).getD i 0) ((l6 b).getD i 0) w) (by omega)
    have st : terrierlaw02_MacCompare_b0 w (((i + 1 : Nat) : Int) - 1) a.1 a.2.1 a.2.2.1 a.2.2.2.1 a.2.2.2.2.1 a.2.2.2.2.2 b.1 b.2.1 b.2.2.1 b.2.2.2.1 b.2.2.2.2.1 b.2.2.2.2.2 c.1 c.2.1 c.2.2.1 c.2.2.2.1 c.2.2.2.2.1 c.2.2.2.2.2 d.1 d.2.1 d.2.2.1 d.2.2.2.1 d.2.2.2.2.1 d.2.2.2.2.2 =
        some (.inl (cm ((l6 a).getD i 0) ((l6 b).getD i 0) w, (i : Int) - 1, a.1, a.2.1, a.2.2.1, a.2.2.2.1, a.2.2.2.2.1, a.2.2.2.2.2, b.1, b.2.1, b.2.2.1, b.2.2.2.1, b.2.2.2.2.1, b.2.2.2.2.2, c.1, c.2.1, c.2.2.1, c.2.2.2.1, c.2.2.2.2.1, c.2.2.2.2.2, d.1, d.2.1, d.2.2.1, d.2.2.2.1, d.2.2.2.2.1, d.2.2.2.2.2, ())) := by
      have e : ((i + 1 : Nat) : Int) - 1 = (i : Int) := by omega
      have w' : IntKind.i64.wrap ((i : Int) - 1) = (i : Int) - 1 := by rw [i64_wrap]; omega
      rw [e]
      unfold terrierlaw02_MacCompare_b0
      simp only [ltO_def, w', Int.toNat_natCast, cnd_ite, decide_eq_true_eq]
      have hi6 : 0 ≤ (i : Int) ∧ (i : Int) < 6 := by omega
      rw [if_pos (by omega)]
      simp only [chk_pos hi6]
      unfold cm
      by_cases h1 : (l6 a).getD i 0 < (l6 b).getD i 0
      · have h2 : ¬ (l6 a).getD i 0 > (l6 b).getD i 0 := by omega
        simp only [if_pos h1, if_neg h2]
      · by_cases h2 : (l6 a).getD i 0 > (l6 b).getD i 0
        · simp only [if_neg h1, if_pos h2]
        · simp only [if_neg h1, if_neg h2]
    unfold terrierlaw02_MacCompare_l0 at ih ⊢
    refine (loopM_next ?_).trans (ih.trans ?_)
    · exact st
    · rw [List.range_succ, List.reverse_append]; rfl

def setA (m : M6) (i : Nat) (v : Int) : M6 := (((l6 m).set i v).getD 0 0, ((l6 m).set i v).getD 1 0, ((l6 m).set i v).getD 2 0, ((l6 m).set i v).getD 3 0, ((l6 m).set i v).getD 4 0, ((l6 m).set i v).getD 5 0)

theorem l6_inj {a b : M6} : (cmL (l6 a) (l6 b) == 0) = (a == b) := by
  apply Bool.eq_iff_iff.2
  simp only [beq_iff_eq]
  constructor
  · intro h
    have := cmL_zero (l6 a) (l6 b) (by simp) h
    obtain ⟨a0, a1, a2, a3, a4, a5⟩ := a
    obtain ⟨b0, b1, b2, b3, b4, b5⟩ := b
    simpa using this
  · rintro rfl; exact cmL_self _

theorem cmL_bound : ∀ (a b : List Int), -1 ≤ cmL a b ∧ cmL a b ≤ 1
  | [], [] => by simp [cmL]
  | [], _ :: _ => by simp [cmL]
  | _ :: _, [] => by simp [cmL]
  | a :: as, b :: bs => by
    simp only [cmL, cm]; have := cmL_bound as bs
    split
    · omega
    · split <;> omega

theorem macCompare_law (a b c : M6) {at' : Int} (hat : by8 at') : terrierlaw02_MacCompare a b c at' = some (true, ()) := by
  unfold terrierlaw02_MacCompare
  have ht : at'.tmod 6 = at' % 6 := Int.tmod_eq_emod_of_nonneg hat.1
  simp only [awake_eq, bnd_val, Bool.not_true, cnd_false, ltO_def, ht]
  rw [chk_pos (by decide), chk_pos (by decide), chk_pos (by omega), chk_pos (by omega)]
  have L := fun (d : M6) => want_loop a b c d 6 0 (by omega)
  have W : (List.range 6).reverse.foldl (fun w k => cm ((l6 a).getD k 0) ((l6 b).getD k 0) w) 0 = cmL (l6 a) (l6 b) := rfl
  simp only [W] at L
  have L' := L (setA a (at' % 6).toNat ((l6 b).getD (at' % 6).toNat 0))
  have E : ((6 : Nat) : Int) - 1 = 5 := rfl
  rw [E] at L'
  have L2 := L'
  unfold setA at L'
  simp only [] at L'
  rw [L']
  simp only [bnd_val, bndG_val, sumO_inl, compare_eq, chk_same, chk_nn]
  have e1 : (a.1, a.2.1, a.2.2.1, a.2.2.2.1, a.2.2.2.2.1, a.2.2.2.2.2) = a := rfl
  have e2 : (b.1, b.2.1, b.2.2.1, b.2.2.2.1, b.2.2.2.2.1, b.2.2.2.2.2) = b := rfl
  have e3 : (c.1, c.2.1, c.2.2.1, c.2.2.2.1, c.2.2.2.2.1, c.2.2.2.2.2) = c := rfl
  rw [e1, e2, e3]
  have bd := cmL_bound (l6 a) (l6 b)
  have wr : IntKind.i64.wrap (0 - cmL (l6 a) (l6 b)) = - cmL (l6 a) (l6 b) := by rw [i64_wrap]; omega
  rw [wr, cmL_neg (l6 a) (l6 b), cmL_self]
  have D := @l6_inj a (setA a (at' % 6).toNat ((l6 b).getD (at' % 6).toNat 0))
  have T := cmL_trans (l6 a) (l6 b) (l6 c) rfl rfl
  have D2 : (a == setA a (at' % 6).toNat ((l6 b).getD (at' % 6).toNat 0)) = (a.1 == (setA a (at' % 6).toNat ((l6 b).getD (at' % 6).toNat 0)).1 && (a.2.1 == (setA a (at' % 6).toNat ((l6 b).getD (at' % 6).toNat 0)).2.1 && (a.2.2.1 == (setA a (at' % 6).toNat ((l6 b).getD (at' % 6).toNat 0)).2.2.1 && (a.2.2.2.1 == (setA a (at' % 6).toNat ((l6 b).getD (at' % 6).toNat 0)).2.2.2.1 && (a.2.2.2.2.1 == (setA a (at' % 6).toNat ((l6 b).getD (at' % 6).toNat 0)).2.2.2.2.1 && a.2.2.2.2.2 == (setA a (at' % 6).toNat ((l6 b).getD (at' % 6).toNat 0)).2.2.2.2.2))))) := rfl
  rw [D2] at D
  unfold setA at D
  simp only [] at D
  rw [D]
  simp
  omega

end Go.Tr
