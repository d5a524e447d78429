/- The statements of lines hold of the printed functions. Conditions: the arguments' bounds. -/
import Derived.Test.YtfaaeeabiikhbaaGreatDoorLinO
import Derived.Test.YtfaaeeabiikhbaaGreatDoorCmdKc
import Derived.KernelRfl
namespace Go.Tr
open Go
set_option linter.unusedVariables false
set_option linter.unusedSimpArgs false
set_option maxRecDepth 100000
set_option maxHeartbeats 4000000
def litN : List UInt8 := [49, 48, 46, 48, 46, 48, 46, 49, 32, 108, 108, 97, 100, 100, 114, 32, 48, 50, 58, 48, 48, 58, 48, 48, 58, 48, 48, 58, 48, 48, 58, 48, 49, 32, 83, 84, 65, 76, 69]
def litL : List UInt8 := [108, 101, 97, 115, 101, 32, 49, 48, 46, 48, 46, 48, 46, 49, 32, 48, 50, 58, 48, 48, 58, 48, 48, 58, 48, 48, 58, 48, 48, 58, 48, 49, 32, 48, 48, 55]
theorem litN_eq : nbP litN = ((167772161, (2, 0, 0, 0, 0, 1), 0), 0) := by kernel_rfl
theorem nu007 : nuP [48, 48, 55] = none := nuP_none (by
  rintro ⟨v, hv, h⟩
  have a := atoi_itoa hv
  rw [h] at a
  have b : Lib.atoiAll [48, 48, 55] = .ok 7 := by kernel_rfl
  rw [b] at a
  injection a with a
  subst a
  rw [show (7 : Int) = ((7 : Nat) : Int) from rfl, Lib.itoa_nonneg, Lib.decDigits, dif_pos (by decide)] at h
  simp at h)
theorem litL_eq : leP litL = (zSight, 1) := by
  have e : splitC 32 litL = [wLE, [49, 48, 46, 48, 46, 48, 46, 49], [48, 50, 58, 48, 48, 58, 48, 48, 58, 48, 48, 58, 48, 48, 58, 48, 49], [48, 48, 55]] := by kernel_rfl
  unfold leP
  rw [e, if_neg (by decide), if_neg (by simp), if_neg (by intro h; exact h rfl)]
  rw [show ([wLE, [49, 48, 46, 48, 46, 48, 46, 49], [48, 50, 58, 48, 48, 58, 48, 48, 58, 48, 48, 58, 48, 48, 58, 48, 49], [48, 48, 55]] : List (List UInt8)).getD 3 [] = [48, 48, 55] from rfl, nu007]
theorem awake08 : terrierlaw08_awake = some (true, ()) := by
  obtain ⟨⟨y1, y2, ⟨⟩⟩, hy, a1, a2⟩ := Neighbour_ok (s := litN) (by decide)
  obtain ⟨⟨z1, z2, ⟨⟩⟩, hz, b1, b2⟩ := Lease_ok (s := litL) (by decide)
  rw [litN_eq] at a1 a2
  rw [litL_eq] at b1 b2
  have h1 : y2 = .nil := by
    rcases a2 with ⟨_, h⟩ | ⟨h, _⟩
    · exact h
    · exfalso; have : (0 : Int) = 1 ∨ (0 : Int) = 3 ∨ (0 : Int) = 8 := h; omega
  obtain ⟨q, h2⟩ : ∃ q, z2 = eLin q (eNum 1) := by
    rcases b2 with ⟨h, _⟩ | ⟨_, _, h⟩
    · exfalso; have : (1 : Int) = 0 := h; omega
    · exact h
  simp only at a1 b1
  subst a1 h1 h2
  have ok : ErrOk eTy (eLin q (eNum 1)) := ok_lin num_ne (ok_num ⟨by decide, by decide⟩)
  show bnd (lines_Neighbour litN) _ = _
  rw [hy, bnd_val]
  show bnd (lines_Lease litL) _ = _
  rw [hz, bnd_val]
  dsimp only
  rw [is_ok ok, number_ok ok]
  simp only [ltO_def, chk_same, errN_nil, bndG_val, is_lin, is_num, no_lin, no_num]
  rw [chk_pos (by intro _; decide)]
  rfl
theorem wrap_l0 {at' n : Int} {deep : Nat} (hat : i64 at') (hn : -128 ≤ n ∧ n ≤ 127) (hd : deep ≤ 255) : ∃ e, ErrOk eTy e ∧ e ≠ .nil ∧ errNo eTy e = n ∧ errAt eTy e = some (IntKind.i64.wrap (at' + ((deep % 5 : Nat) : Int))) ∧
    terrierlaw08_LinesWrap_l0 (at', n, (deep : Int), eAt at' (eNum n), 0, ()) = some (.inl (at', n, (deep : Int), e, ())) := by
  have hm : (deep : Int).tmod 5 = ((deep % 5 : Nat) : Int) := by rw [Int.tmod_eq_emod_of_nonneg (by omega)]; omega
  have ww : ∀ k : Int, IntKind.i64.wrap (IntKind.i64.wrap (at' + k) + 1) = IntKind.i64.wrap (at' + k + 1) := by
    intro k; rw [i64_wrap, i64_wrap, i64_wrap]; omega
  have B : ∀ (e : TErr) (k : Nat), k < deep % 5 → terrierlaw08_LinesWrap_b0 at' n (deep : Int) e (k : Int) = some (.inl (at', n, (deep : Int), eAt (IntKind.i64.wrap (at' + (k : Int) + 1)) e, ((k + 1 : Nat) : Int), ())) := by
    intro e k hk
    unfold terrierlaw08_LinesWrap_b0
    rw [chk_pos (by decide), ltO_def, hm, ltO_def, w64 (by omega) (by omega), decide_eq_true (by omega), cnd_true]
    simp only [ltO_def]
    rw [w64 (n := (k : Int) + 1) (by omega) (by omega), ww]
    rfl
  have E : ∀ e : TErr, terrierlaw08_LinesWrap_b0 at' n (deep : Int) e ((deep % 5 : Nat) : Int) = some (.inr (.inl (at', n, (deep : Int), e, ()))) := by
    intro e
    unfold terrierlaw08_LinesWrap_b0
    rw [chk_pos (by decide), ltO_def, hm, ltO_def, w64 (by omega) (by omega), decide_eq_false (by omega), cnd_false]
  have H : ∀ j, j ≤ deep % 5 → ∀ e : TErr, ErrOk eTy e → e ≠ .nil → errNo eTy e = n → ∃ e', ErrOk eTy e' ∧ e' ≠ .nil ∧ errNo eTy e' = n ∧ errAt eTy e' = (if j = 0 then errAt eTy e else some (IntKind.i64.wrap (at' + ((deep % 5 : Nat) : Int)))) ∧
      terrierlaw08_LinesWrap_l0 (at', n, (deep : Int), e, ((deep % 5 - j : Nat) : Int), ()) = some (.inl (at', n, (deep : Int), e', ())) := by
    intro j
    induction j with
    | zero =>
      intro _ e h1 h2 h3
      refine ⟨e, h1, h2, h3, by simp, ?_⟩
      exact loopM_last (by show terrierlaw08_LinesWrap_b0 at' n (deep : Int) e ((deep % 5 - 0 : Nat) : Int) = _; exact E e)
    | succ j ih =>
      intro hj e h1 h2 h3
      obtain ⟨e', a1, a2, a3, a4, a5⟩ := ih (by omega) (eAt (IntKind.i64.wrap (at' + ((deep % 5 - (j + 1) : Nat) : Int) + 1)) e) (ok_at (i64_in _) h2 h1) at_ne h3
      refine ⟨e', a1, a2, a3, ?_, ?_⟩
      · rw [a4]
        simp only [at_at, Nat.add_eq_zero_iff, Nat.one_ne_zero, and_false, if_false]
        split
        · rename_i h0
          subst h0
          congr 2
          omega
        · rfl
      · rw [← a5, show deep % 5 - j = (deep % 5 - (j + 1)) + 1 from by omega]
        exact loopM_next (by show terrierlaw08_LinesWrap_b0 at' n (deep : Int) e ((deep % 5 - (j + 1) : Nat) : Int) = _; exact B e _ (by omega))
  obtain ⟨e', a1, a2, a3, a4, a5⟩ := H (deep % 5) (Nat.le_refl _) (eAt at' (eNum n)) (ok_at hat num_ne (ok_num ⟨by omega, by omega⟩)) at_ne (by simp)
  refine ⟨e', a1, a2, a3, ?_, ?_⟩
  · rw [a4]
    split
    · rename_i h0
      rw [h0, at_at]
      congr 1
      rw [Int.natCast_zero, Int.add_zero, w64 hat.1 hat.2]
    · rfl
  · rw [Nat.sub_self] at a5; exact a5
theorem new_ok : ErrOk eTy eNew := by simp [ErrOk, eNew, eTy]
theorem linesWrap_law {at' n deep : Int} (hat : i64 at') (hn : -128 ≤ n ∧ n ≤ 127) (hd : 0 ≤ deep ∧ deep ≤ 255) : terrierlaw08_LinesWrap at' n deep = some (true, ()) := by
  obtain ⟨d, rfl⟩ : ∃ d : Nat, deep = d := ⟨deep.toNat, by omega⟩
  unfold terrierlaw08_LinesWrap
  rw [awake08, bnd_val, Bool.not_true, cnd_false, ltO_def, w64 (by omega) (by omega)]
  obtain ⟨e, h1, h2, h3, h4, h5⟩ := wrap_l0 (at' := at') (n := n) (deep := d) hat hn (by omega)
  have hm : (d : Int).tmod 5 = ((d % 5 : Nat) : Int) := by rw [Int.tmod_eq_emod_of_nonneg (by omega)]; omega
  have okn : ErrOk eTy (eNum n) := ok_num ⟨by omega, by omega⟩
  rw [h5, bnd_val, sumO_inl]
  dsimp only
  rw [place_ok h1, h4, bnd_val, ltO_def, w64 (n := n) (by omega) (by omega), place_ok okn, at_num, bnd_val, number_ok h1, h3, number_ok ok_nil]
  have hnew : errors_New [120] = some (eNew, ()) := rfl
  rw [hnew]
  simp only [ltO_def, chk_same, hm, bndG_val, number_ok new_ok, BEq.rfl]
  rw [chk_pos (by intro _; decide), w64 (n := ((d % 5 : Nat) : Int)) (by omega) (by omega)]
  have e0 : errNo eTy eNew = 0 := rfl
  simp [e0]
end Go.Tr
