/- Prefixes: the printed functions' answers in plain words. Conditions: none but the numbers' bounds. -/
import Derived.Test.YtbdgfpfafcjmgaaDoorAddrL1
namespace Go.Tr
open Go
set_option linter.unusedVariables false
set_option linter.unusedSimpArgs false
set_option maxRecDepth 100000
set_option maxHeartbeats 400000

/-- How many addresses a prefix of so many bits has. -/
def Wd (n : Int) : Int := 2 ^ (32 - n).toNat
def bo (n : Int) : Prop := 0 ≤ n ∧ n ≤ 32
instance (n : Int) : Decidable (bo n) := inferInstanceAs (Decidable (_ ∧ _))

theorem Wd_nat {n : Int} (h : bo n) : ∃ j : Nat, j ≤ 32 ∧ n = 32 - (j : Int) ∧ Wd n = 2 ^ j := by
  obtain ⟨h0, h1⟩ := h
  exact ⟨(32 - n).toNat, by omega, by omega, rfl⟩
theorem Wd_all : ∀ n : Fin 33, 1 ≤ Wd (n.val : Int) ∧ Wd (n.val : Int) ≤ 4294967296 ∧ (n.val = 0 ∨ Wd ((n.val : Int) - 1) = 2 * Wd (n.val : Int)) ∧ 4294967296 % Wd (n.val : Int) = 0 := by decide
theorem Wd_bd {n : Int} (h : bo n) : 1 ≤ Wd n ∧ Wd n ≤ 4294967296 ∧ (n = 0 ∨ Wd (n - 1) = 2 * Wd n) ∧ 4294967296 % Wd n = 0 := by
  obtain ⟨h0, h1⟩ := h
  have := Wd_all ⟨n.toNat, by omega⟩
  simp only [Int.toNat_of_nonneg h0] at this
  refine ⟨this.1, this.2.1, ?_, this.2.2.2⟩
  rcases this.2.2.1 with h | h
  · left; omega
  · exact .inr h

def rB (b : Int × Int) : Bool := decide (bo b.2) && b.1 % Wd b.2 == 0

theorem mask_eq {n : Int} (h : bo n) : addr_mask n = some (4294967296 - Wd n, ()) := by
  obtain ⟨j, hj, rfl, e⟩ := Wd_nat h
  unfold addr_mask
  rw [w64 (by omega) (by omega), ltO_def, chk_pos (by omega), e]
  have : (32 : Int) - (32 - (j : Int)) = (j : Int) := by omega
  rw [this, shl_eq (k := .u32) j hj, ltO_def]
  have key : ∀ j : Fin 33, IntKind.u32.wrap (4294967295 * 2 ^ j.val) = 4294967296 - 2 ^ j.val := by decide
  rw [key ⟨j, by omega⟩]

theorem Right_eq {b : Int × Int} (hb : in32 b.1) : addr_Right b = some (rB b, ()) := by
  unfold addr_Right
  simp only [ltO_def, chk_same]
  by_cases h : bo b.2
  · have hv : (decide (b.2 ≥ 0) && decide (b.2 ≤ 32)) = true := by simp only [Bool.and_eq_true, decide_eq_true_eq]; exact h
    rw [hv, mask_eq h, bndG_val]
    obtain ⟨j, hj, e0, e⟩ := Wd_nat h
    have hbits : (2 : Int) ^ IntKind.u32.bits = 4294967296 := rfl
    rw [bandn_high (k := .u32) (m := 4294967296 - Wd b.2) j hb.1 (by rw [e, hbits]) hj, ← e]
    have bd := Wd_bd h
    have m0 := Int.emod_nonneg b.1 (show Wd b.2 ≠ 0 by omega)
    have m1 := Int.emod_lt_of_pos b.1 (show 0 < Wd b.2 by omega)
    rw [wu32 (by omega) (by omega)]
    unfold rB
    rw [decide_eq_true h]
  · have hv : (decide (b.2 ≥ 0) && decide (b.2 ≤ 32)) = false := by
      rw [Bool.and_eq_false_iff, decide_eq_false_iff_not, decide_eq_false_iff_not]
      unfold bo at h; omega
    rw [hv, bndG_false]
    unfold rB
    rw [decide_eq_false h]; rfl

theorem rB_bo {b : Int × Int} (h : rB b = true) : bo b.2 ∧ b.1 % Wd b.2 = 0 := by
  unfold rB at h
  rw [Bool.and_eq_true, decide_eq_true_eq, beq_iff_eq] at h
  exact h

theorem mask_and {n a : Int} (h : bo n) (ha : in32 a) : IntKind.u32.wrap (bandI .u32 a (4294967296 - Wd n)) = a - a % Wd n := by
  obtain ⟨j, hj, e0, e⟩ := Wd_nat h
  have hbits : (2 : Int) ^ IntKind.u32.bits = 4294967296 := rfl
  rw [band_high (k := .u32) (m := 4294967296 - Wd n) j ha.1 (by rw [hbits]; exact ha.2) (by rw [e, hbits]) hj, ← e]
  have bd := Wd_bd h
  have m0 := Int.emod_nonneg a (show Wd n ≠ 0 by omega)
  have m2 : a % Wd n ≤ a := by
    have := Int.mul_ediv_add_emod a (Wd n)
    have : 0 ≤ a / Wd n := Int.ediv_nonneg ha.1 (by omega)
    have : 0 ≤ Wd n * (a / Wd n) := Int.mul_nonneg (by omega) this
    omega
  have := ha.2
  rw [wu32 (by omega) (by omega)]

theorem Has_eq {b : Int × Int} {a : Int} (hb : in32 b.1) (ha : in32 a) : addr_Has b a = some (rB b && (a - a % Wd b.2 == b.1), ()) := by
  unfold addr_Has
  rw [Right_eq hb]
  simp only [bnd_val, chk_same, ltO_def]
  cases h : rB b with
  | false => rw [bndG_false]; rfl
  | true => rw [mask_eq (rB_bo h).1, bndG_val, mask_and (rB_bo h).1 ha]

def wiB (x y : Int × Int) : Bool := rB x && rB y && decide (x.2 ≥ y.2) && (rB y && (x.1 - x.1 % Wd y.2 == y.1))
theorem Within_eq {x y : Int × Int} (hx : in32 x.1) (hy : in32 y.1) : addr_Within x y = some (wiB x y, ()) := by
  unfold addr_Within
  rw [Right_eq hx, Right_eq hy, Has_eq hy hx]
  simp only [bnd_val, bndG_val, chk_same, ltO_def]
  rfl
theorem Overlap_eq {x y : Int × Int} (hx : in32 x.1) (hy : in32 y.1) : addr_Overlap x y = some (wiB x y || wiB y x, ()) := by
  unfold addr_Overlap
  rw [Within_eq hx hy, Within_eq hy hx]
  simp only [bnd_val, bndG_val, chk_same, chk_nn, ltO_def]

def szB (b : Int × Int) : Int := if rB b = true then Wd b.2 else 0
theorem Size_eq {b : Int × Int} (hb : in32 b.1) : addr_Size b = some (szB b, ()) := by
  unfold addr_Size szB
  rw [Right_eq hb]
  simp only [bnd_val]
  cases h : rB b with
  | false => rfl
  | true =>
    simp only [Bool.not_true, cnd_false, if_true]
    obtain ⟨j, hj, e0, e⟩ := Wd_nat (rB_bo h).1
    rw [w64 (by omega) (by omega), ltO_def, chk_pos (by omega), show (32 : Int) - b.2 = (j : Int) from by omega, shl_eq j (by show j ≤ 64; omega), ltO_def, e]
    have key : ∀ j : Fin 33, IntKind.i64.wrap (1 * 2 ^ j.val) = 2 ^ j.val := by decide
    rw [key ⟨j, by omega⟩]

theorem szB_le {b : Int × Int} (hb : in32 b.1) : 0 ≤ szB b ∧ b.1 + szB b ≤ 4294967296 := by
  unfold szB
  split
  · rename_i h
    obtain ⟨h1, h2⟩ := rB_bo h
    have bd := Wd_bd h1
    refine ⟨by omega, ?_⟩
    obtain ⟨q, hq⟩ := Int.dvd_of_emod_eq_zero h2
    obtain ⟨p, hp⟩ := Int.dvd_of_emod_eq_zero bd.2.2.2
    rw [hq, hp]
    have : q < p := by
      have := hb.2
      rw [hq, hp] at this
      exact Int.lt_of_mul_lt_mul_left this (by omega)
    have : Wd b.2 * (q + 1) ≤ Wd b.2 * p := Int.mul_le_mul_of_nonneg_left (by omega) (by omega)
    rw [Int.mul_add] at this
    omega
  · have := hb.2; omega

theorem At_eq {b : Int × Int} (hb : in32 b.1) (k : Int) : addr_At b k = some (if 0 ≤ k ∧ k < szB b then (b.1 + k, true, ()) else (0, false, ())) := by
  unfold addr_At
  rw [Size_eq hb]
  simp only [bndG_val, chk_same, chk_nn, ltO_def, cnd_ite, Bool.or_eq_true, decide_eq_true_eq]
  have := szB_le hb
  have := hb.1
  by_cases h : 0 ≤ k ∧ k < szB b
  · rw [if_neg (by omega), if_pos h, wu32 (n := k) (by omega) (by omega), wu32 (by omega) (by omega)]
  · rw [if_pos (by omega), if_neg h]

theorem Make_eq {a n : Int} (ha : in32 a) : addr_Make a n = some (if bo n then ((a - a % Wd n, n), true, ()) else ((0, 0), false, ())) := by
  unfold addr_Make
  simp only [ltO_def, chk_same, chk_nn, cnd_ite, Bool.or_eq_true, decide_eq_true_eq]
  by_cases h : bo n
  · rw [if_neg (by unfold bo at h; omega), if_pos h, mask_eq h, bnd_val, mask_and h ha]
  · rw [if_pos (by unfold bo at h; omega), if_neg h]

def haB (b : Int × Int) : (Int × Int) × (Int × Int) × Bool × Unit :=
  if rB b = true ∧ b.2 ≠ 32 then ((b.1, b.2 + 1), (b.1 + Wd (b.2 + 1), b.2 + 1), true, ()) else ((0, 0), (0, 0), false, ())
theorem Halves_eq {b : Int × Int} (hb : in32 b.1) : addr_Halves b = some (haB b) := by
  unfold addr_Halves haB
  rw [Right_eq hb]
  simp only [bnd_val, chk_same, ltO_def]
  rw [chk_pos (by cases rB b <;> simp), cnd_ite]
  by_cases h : rB b = true ∧ b.2 ≠ 32
  · obtain ⟨h1, h2⟩ := h
    obtain ⟨g1, g2⟩ := rB_bo h1
    have g1' := g1
    unfold bo at g1'
    have hb1 : bo (b.2 + 1) := by unfold bo; omega
    rw [if_neg (by rw [h1]; simp; exact h2), if_pos ⟨h1, h2⟩, w64 (n := b.2 + 1) (by omega) (by omega), w64 (n := 32 - (b.2 + 1)) (by omega) (by omega), chk_pos (by omega)]
    obtain ⟨j, hj, e0, e⟩ := Wd_nat hb1
    have bd := Wd_bd hb1
    have bd0 := Wd_bd g1
    have hsz := szB_le hb
    unfold szB at hsz
    rw [if_pos h1] at hsz
    have ed : Wd b.2 = 2 * Wd (b.2 + 1) := by
      rcases bd.2.2.1 with h | h
      · omega
      · rw [← h]; congr 1; omega
    rw [show (32 : Int) - (b.2 + 1) = (j : Int) from by omega, shl_eq (k := .u32) j hj]
    have key : ∀ j : Fin 33, j.val = 32 ∨ IntKind.u32.wrap (1 * 2 ^ j.val) = 2 ^ j.val := by decide
    have hs := (key ⟨j, by omega⟩).resolve_left (by show j ≠ 32; omega)
    rw [hs, ← e]
    have hd : b.1 % 2 ^ (j + 1) = 0 := by
      rw [Int.pow_succ, ← e, Int.mul_comm, ← ed]; exact g2
    rw [bor_add (k := .u32) (j + 1) hb.1 (by omega) (by rw [Int.pow_succ, ← e]; omega) hd (by show _ < (4294967296 : Int); omega), wu32 (by have := hb.1; omega) (by omega)]
  · rw [if_neg h, if_pos]
    simp only [Bool.or_eq_true, Bool.not_eq_true', beq_iff_eq]
    cases hr : rB b with
    | false => exact .inl rfl
    | true => right; exact Classical.byContradiction fun hh => h ⟨hr, hh⟩

theorem Whole_eq {x y : Int × Int} (hx : in32 x.1) : addr_Whole x y = some (if rB x = true ∧ x.2 ≠ 0 ∧ haB (x.1 - x.1 % Wd (x.2 - 1), x.2 - 1) = (x, y, true, ()) then ((x.1 - x.1 % Wd (x.2 - 1), x.2 - 1), true, ()) else ((0, 0), false, ())) := by
  unfold addr_Whole
  rw [Right_eq hx]
  simp only [bnd_val, chk_same, ltO_def]
  rw [chk_pos (by cases rB x <;> simp), cnd_ite]
  by_cases h : rB x = true ∧ x.2 ≠ 0
  · obtain ⟨h1, h2⟩ := h
    obtain ⟨g1, g2⟩ := rB_bo h1
    have g1' := g1
    unfold bo at g1'
    have hb1 : bo (x.2 - 1) := by unfold bo; omega
    have bd := Wd_bd hb1
    have m0 := Int.emod_nonneg x.1 (show Wd (x.2 - 1) ≠ 0 by omega)
    have m2 : x.1 % Wd (x.2 - 1) ≤ x.1 := by
      have := Int.mul_ediv_add_emod x.1 (Wd (x.2 - 1))
      have : 0 ≤ x.1 / Wd (x.2 - 1) := Int.ediv_nonneg hx.1 (by omega)
      have : 0 ≤ Wd (x.2 - 1) * (x.1 / Wd (x.2 - 1)) := Int.mul_nonneg (by omega) this
      omega
    have ho : in32 (x.1 - x.1 % Wd (x.2 - 1)) := by have := hx.2; exact ⟨by omega, by omega⟩
    have ro : rB (x.1 - x.1 % Wd (x.2 - 1), x.2 - 1) = true := by
      unfold rB
      rw [Bool.and_eq_true, decide_eq_true_eq, beq_iff_eq]
      refine ⟨hb1, ?_⟩
      show (x.1 - x.1 % Wd (x.2 - 1)) % Wd (x.2 - 1) = 0
      rw [Int.sub_emod, Int.emod_emod_of_dvd _ (Int.dvd_refl _), Int.sub_self, Int.zero_emod]
    rw [if_neg (by rw [h1]; simpa using h2), w64 (by omega) (by omega), Make_eq hx, if_pos hb1]
    simp only [bnd_val]
    rw [Halves_eq ho]
    have hh : haB (x.1 - x.1 % Wd (x.2 - 1), x.2 - 1) = ((x.1 - x.1 % Wd (x.2 - 1), x.2 - 1 + 1), (x.1 - x.1 % Wd (x.2 - 1) + Wd (x.2 - 1 + 1), x.2 - 1 + 1), true, ()) := by
      unfold haB
      rw [if_pos ⟨ro, by show x.2 - 1 ≠ 32; omega⟩]
    rw [hh]
    simp only [bnd_val, chk_nn]
    obtain ⟨x1, x2⟩ := x
    obtain ⟨y1, y2⟩ := y
    simp only at *
    rw [cnd_ite]
    have hc : (!(x1 - x1 % Wd (x2 - 1) == x1 && x2 - 1 + 1 == x2) || !(x1 - x1 % Wd (x2 - 1) + Wd (x2 - 1 + 1) == y1 && x2 - 1 + 1 == y2)) = !decide (rB (x1, x2) = true ∧ x2 ≠ 0 ∧ (((x1 - x1 % Wd (x2 - 1), x2 - 1 + 1), (x1 - x1 % Wd (x2 - 1) + Wd (x2 - 1 + 1), x2 - 1 + 1), true, ()) : (Int × Int) × (Int × Int) × Bool × Unit) = ((x1, x2), (y1, y2), true, ())) := by
      apply Bool.eq_iff_iff.2
      simp only [Bool.or_eq_true, Bool.not_eq_true', Bool.and_eq_false_iff, beq_eq_false_iff_ne, ne_eq, decide_eq_false_iff_not, Prod.mk.injEq, and_true, h1, h2, not_false_iff, true_and]
      constructor
      · rintro h ⟨⟨a1, a2⟩, a3, a4⟩
        rcases h with (h | h) | (h | h)
        · exact h a1
        · exact h a2
        · exact h a3
        · exact h a4
      · intro h
        refine Classical.byContradiction fun hn => ?_
        simp only [not_or, Classical.not_not] at hn
        exact h ⟨⟨hn.1.1, hn.1.2⟩, hn.2.1, hn.2.2⟩
    rw [hc]
    by_cases e : (rB (x1, x2) = true ∧ x2 ≠ 0 ∧ (((x1 - x1 % Wd (x2 - 1), x2 - 1 + 1), (x1 - x1 % Wd (x2 - 1) + Wd (x2 - 1 + 1), x2 - 1 + 1), true, ()) : (Int × Int) × (Int × Int) × Bool × Unit) = ((x1, x2), (y1, y2), true, ()))
    · rw [decide_eq_true e, if_neg (by simp)]; exact (congrArg some (if_pos e)).symm
    · rw [decide_eq_false e, if_pos (by simp)]; exact (congrArg some (if_neg e)).symm
  · rw [if_pos, if_neg (fun hh => h ⟨hh.1, hh.2.1⟩)]
    simp only [Bool.or_eq_true, Bool.not_eq_true', beq_iff_eq]
    cases hr : rB x with
    | false => exact .inl rfl
    | true => right; exact Classical.byContradiction fun hh => h ⟨hr, hh⟩

theorem right_eq {b : Int × Int} (hb : in32 b.1) : terrierlaw01_right b = some (rB b, ()) := by
  unfold terrierlaw01_right
  simp only [ltO_def, chk_same, chk_nn, cnd_ite, Bool.or_eq_true, decide_eq_true_eq]
  by_cases h : bo b.2
  · have h' := h
    unfold bo at h'
    obtain ⟨j, hj, e0, e⟩ := Wd_nat h
    have bd := Wd_bd h
    have hb0 := hb.1
    have hb1 := hb.2
    rw [if_neg (by omega), w64 (by omega) (by omega), chk_pos (by omega), show (32 : Int) - b.2 = (j : Int) from by omega, shl_eq j (by show j ≤ 64; omega)]
    have key : ∀ j : Fin 33, IntKind.u64.wrap (1 * 2 ^ j.val) = 2 ^ j.val := by decide
    rw [key ⟨j, by omega⟩, ← e, chk_pos (by omega), wu64 (by omega) (by omega), Int.tmod_eq_emod_of_nonneg hb0]
    unfold rB
    rw [decide_eq_true h, Bool.true_and]
  · rw [if_pos (by unfold bo at h; omega)]
    unfold rB
    rw [decide_eq_false h]; rfl

end Go.Tr
