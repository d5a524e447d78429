/- The laws of addresses: prefixes made, written and read. Conditions: none but the numbers' bounds. -/
import Derived.Test.YtfibdndnfaihdaaDoorAddrL4
namespace Go.Tr
open Go
set_option linter.unusedVariables false
set_option linter.unusedSimpArgs false
set_option maxRecDepth 100000
set_option maxHeartbeats 1000000

theorem mk_ok {a n : Int} (ha : in32 a) (h : bo n) : in32 (a - a % Wd n) ∧ rB (a - a % Wd n, n) = true ∧ a - a % Wd n ≤ a := by
  have bd := Wd_bd h
  have m0 := Int.emod_nonneg a (show Wd n ≠ 0 by omega)
  have m2 : a % Wd n ≤ a := by
    have := Int.mul_ediv_add_emod a (Wd n)
    have : 0 ≤ a / Wd n := Int.ediv_nonneg ha.1 (by omega)
    have : 0 ≤ Wd n * (a / Wd n) := Int.mul_nonneg (by omega) this
    omega
  refine ⟨by have := ha.2; exact ⟨by omega, by omega⟩, ?_, by omega⟩
  unfold rB
  rw [Bool.and_eq_true, decide_eq_true_eq, beq_iff_eq]
  refine ⟨h, ?_⟩
  show (a - a % Wd n) % Wd n = 0
  rw [Int.sub_emod, Int.emod_emod_of_dvd _ (Int.dvd_refl _), Int.sub_self, Int.zero_emod]

def resB (o : Option (Int × Int)) : (Int × Int) × Bool × Unit :=
  match o with
  | some b => (b, true, ())
  | none => ((0, 0), false, ())
theorem ParseBlock_res {s : List UInt8} (hs : s.length < 4294967281) : addr_ParseBlock s = some (resB (rdB s)) := by
  rw [ParseBlock_eq hs]; rfl

theorem addrBlock_law {a bits : Int} {raw : Int × Int} {s : List UInt8} (ha : in32 a) (hb : -128 ≤ bits ∧ bits ≤ 127) (hr : in32 raw.1) (hs : s.length ≤ 268435456) : terrierlaw01_AddrBlock a bits raw s = some (true, ()) := by
  obtain ⟨m, ok, hM, h32, h1, h0⟩ : ∃ (m : Int × Int) (ok : Bool), addr_Make a bits = some (m, ok, ()) ∧ in32 m.1 ∧
      (ok = true → bo bits ∧ m = (a - a % Wd bits, bits) ∧ rB m = true) ∧ (ok = false → ¬ bo bits ∧ m = (0, 0)) := by
    rw [Make_eq ha]
    by_cases h : bo bits
    · obtain ⟨g1, g2, g3⟩ := mk_ok ha h
      exact ⟨_, _, by rw [if_pos h], g1, fun _ => ⟨h, rfl, g2⟩, fun h => by simp at h⟩
    · exact ⟨_, _, by rw [if_neg h], ⟨by decide, by decide⟩, fun h => by simp at h, fun _ => ⟨h, rfl⟩⟩
  have v3 : (decide (bits ≥ 0) && decide (bits ≤ 32)) = ok := by
    cases ok with
    | true => have := (h1 rfl).1; unfold bo at this; simp only [Bool.and_eq_true, decide_eq_true_eq]; omega
    | false => have := (h0 rfl).1; unfold bo at this; rw [Bool.and_eq_false_iff, decide_eq_false_iff_not, decide_eq_false_iff_not]; omega
  have hl := adT_len raw.1
  have b24 : bo 24 := ⟨by decide, by decide⟩
  -- the text
  have d24 : ds (24 : Int).toNat = [50, 52] := by decide
  have ht : adT raw.1 ++ [47, 50, 52] = bt (raw.1, 24) := by
    show _ = adT raw.1 ++ 47 :: ds (24 : Int).toNat
    rw [d24]
  have htl : (bt (raw.1, 24)).length < 4294967281 := by
    rw [← ht, List.length_append]; show _ + 3 < _; omega
  have r1 : ∀ b : Int × Int, ((b.1, b.2) : Int × Int) = b := fun b => rfl
  unfold terrierlaw01_AddrBlock
  rw [awakeA_eq]
  simp only [bnd_val, Bool.not_true, cnd_false, ltO_def]
  rw [w64 (n := bits) (by omega) (by omega), hM]
  simp only [bnd_val, chk_same, v3, r1]
  rw [Right_eq hr, right_eq hr, right_eq h32, Has_eq h32 ha, lawtext_eq hr]
  simp only [bndG_val, bnd_val, ht]
  rw [ParseBlock_res htl, right_eq (b := (raw.1, 24)) hr, BlockText_eq (b := (raw.1, 24)) hr b24, ParseBlock_res (show s.length < _ by omega), chk_pos (show (((adT raw.1).length + 3 : Nat) : Int) ≤ 9223372036854775807 by omega)]
  have e24 : resB (rdB (bt (raw.1, 24))) = if rB (raw.1, 24) = true then ((raw.1, 24), true, ()) else ((0, 0), false, ()) := by
    cases h : rB (raw.1, 24) with
    | true => rw [rd_bt (b := (raw.1, 24)) hr h]; rfl
    | false =>
      have : rdB (bt (raw.1, 24)) = none := by
        cases hh : rdB (bt (raw.1, 24)) with
        | none => rfl
        | some b =>
          exfalso
          unfold rdB bt at hh
          rw [cut_app _ adT_no] at hh
          simp only [rd_adT hr] at hh
          split at hh
          · rename_i hc
            have := hc.2.2
            have v : valN (ds (24 : Int).toNat) = 24 := by decide
            rw [v] at this
            rw [show ((24 : Nat) : Int) = 24 from rfl, h] at this
            simp at this
          · simp at hh
      rw [this]; rfl
  rw [e24]
  have tail : ∀ (z : (Int × Int) × Bool × Unit), z = resB (rdB s) → (z.2.1 = false ∧ z.1 = (0, 0)) ∨ (z.2.1 = true ∧ in32 z.1.1 ∧ rB z.1 = true ∧ bt z.1 = s) := by
    rintro z rfl
    cases h : rdB s with
    | none => exact .inl ⟨rfl, rfl⟩
    | some b => exact .inr ⟨rfl, bt_rd h⟩
  generalize hz : resB (rdB s) = z
  have hz' := tail z hz.symm
  obtain ⟨⟨z1, z2⟩, zb, ⟨⟩⟩ := z
  have fin : ∀ (m : Int × Int) (ok : Bool), (ok = true → bo bits ∧ m = (a - a % Wd bits, bits) ∧ rB m = true) → (ok = false → ¬ bo bits ∧ m = (0, 0)) →
      (!ok == ok) = false ∧ (!ok && !(m.1 == 0 && m.2 == 0)) = false ∧ (ok && (!rB m || m.2 != bits || decide (m.1 > a) || !(rB m && a - a % Wd m.2 == m.1))) = false := by
    intro m ok h1 h0
    cases ok with
    | true =>
      obtain ⟨g1, rfl, g3⟩ := h1 rfl
      have hle := (mk_ok ha g1).2.2
      have hd : decide (a - a % Wd bits > a) = false := decide_eq_false (by omega)
      refine ⟨rfl, rfl, ?_⟩
      rw [g3, hd]; simp
    | false =>
      obtain ⟨g1, rfl⟩ := h0 rfl
      exact ⟨rfl, rfl, rfl⟩
  obtain ⟨f1, f2, f3⟩ := fin m ok h1 h0
  have f4 : (!!ok == ok) = true := by cases ok <;> rfl
  simp only [bnd_val, chk_same, chk_nn, chk_and]
  rcases hz' with ⟨e1, e2⟩ | ⟨e1, h2, h3, h4⟩
  · simp only [Prod.mk.injEq] at e1 e2
    obtain ⟨rfl, rfl⟩ := e2
    subst e1
    rw [f3]
    cases ok <;> cases hq : rB (raw.1, 24) <;> simp_all
  · simp only at e1 h2 h3 h4
    subst e1
    rw [right_eq (b := (z1, z2)) h2, h3, BlockText_eq (b := (z1, z2)) h2 (rB_bo h3).1, h4, f3]
    cases ok <;> cases hq : rB (raw.1, 24) <;> simp_all

end Go.Tr
