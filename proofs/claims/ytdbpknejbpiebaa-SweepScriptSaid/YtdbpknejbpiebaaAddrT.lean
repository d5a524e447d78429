/- The laws of addresses: four numbers. The laws of addresses: prefixes made, written and read. The laws of addresses: prefixes that are none. The laws of addresses: which prefixes lie in which. The laws of addresses: halves. Conditions: none but those that each theorem states. -/
import Derived.Test.YtdbpknejbpiebaaAddrS
namespace Go.Tr
open Go
set_option linter.unusedVariables false
set_option linter.unusedSimpArgs false
set_option maxRecDepth 100000
set_option maxHeartbeats 1000000

theorem rd4 {x t y z : List UInt8} (hx : (46 : UInt8) ∉ x) (ht : (46 : UInt8) ∉ t) (hy : (46 : UInt8) ∉ y) (hz : (46 : UInt8) ∉ z) :
    rdA (x ++ 46 :: (t ++ 46 :: (y ++ 46 :: z))) = if okB x && (okB t && (okB y && okB z)) then some ((((valN x * 256 + valN t) * 256 + valN y) * 256 + valN z : Nat) : Int) else none := by
  unfold rdA
  rw [splitC_app _ hx, splitC_app _ ht, splitC_app _ hy, splitC_none hz]

theorem ok_ds {u : Nat} (h : u < 1000) : okB (ds u) = decide (u ≤ 255) := by
  unfold okB; rw [(ds_ok h).1, (ds_ok h).2.1, Bool.true_and]
theorem ok_zero {u : Nat} (h : u < 1000) : okB (48 :: ds u) = false := by
  unfold okB goodN
  have := (ds_ok h).2.2.1
  have e : (decide ((48 :: ds u).length ≤ 1) || (48 :: ds u).getD 0 0 != 48) = false := by
    rw [Bool.or_eq_false_iff]
    refine ⟨decide_eq_false (by rw [List.length_cons]; omega), rfl⟩
  rw [e]; simp

theorem addrNumbers_law {a b c : Int} (ha : 0 ≤ a ∧ a < 256) (hb : 0 ≤ b ∧ b < 256) (hc : 0 ≤ c ∧ c < 65536) (zero : Bool) : terrierlaw01_AddrNumbers a b c zero = some (true, ()) := by
  unfold terrierlaw01_AddrNumbers
  have hn : c.tmod 400 = c % 400 := Int.tmod_eq_emod_of_nonneg hc.1
  obtain ⟨n, hn2, hn3⟩ : ∃ n : Nat, c % 400 = (n : Int) ∧ n < 400 := ⟨(c % 400).toNat, by omega, by omega⟩
  obtain ⟨x, rfl⟩ := Int.eq_ofNat_of_zero_le ha.1
  obtain ⟨y, rfl⟩ := Int.eq_ofNat_of_zero_le hb.1
  have hx : x < 256 := by omega
  have hy : y < 256 := by omega
  rw [awakeA_eq]
  simp only [bnd_val, Bool.not_true, cnd_false, ltO_def, hn, hn2]
  rw [chk_pos (by decide), w64 (n := (n : Int)) (by omega) (by omega), digits_eq (n := (n : Int)) (by omega) (by omega)]
  simp only [bnd_val, Int.toNat_natCast]
  rw [w64 (n := (x : Int)) (by omega) (by omega), w64 (n := (y : Int)) (by omega) (by omega), digits_eq (n := (x : Int)) (by omega) (by omega), digits_eq (n := (y : Int)) (by omega) (by omega)]
  simp only [bnd_val, Int.toNat_natCast]
  have lx := (ds_ok (show x < 1000 by omega)).2.2.2
  have ly := (ds_ok (show y < 1000 by omega)).2.2.2
  have ln := (ds_ok (show n < 1000 by omega)).2.2.2
  have nx := ds_no (show x < 1000 by omega) (c := 46) (.inl rfl)
  have ny := ds_no (show y < 1000 by omega) (c := 46) (.inl rfl)
  have nn := ds_no (show n < 1000 by omega) (c := 46) (.inl rfl)
  have n0 : (46 : UInt8) ∉ ([48] : List UInt8) := by decide
  have o0 : okB [48] = true := by decide
  have v0 : valN [48] = 0 := by decide
  have ox : okB (ds x) = true := by rw [ok_ds (by omega)]; exact decide_eq_true (by omega)
  have oy : okB (ds y) = true := by rw [ok_ds (by omega)]; exact decide_eq_true (by omega)
  cases zero with
  | true =>
    simp only [cnd_true]
    rw [chk_pos (by omega), chk_pos (by omega), chk_pos (by simp; omega), chk_pos (by simp; omega), chk_pos (by simp; omega), chk_pos (by simp; omega)]
    have e : ds x ++ [46] ++ ([48] ++ ds n) ++ [46] ++ ds y ++ [46, 48] = ds x ++ 46 :: ((48 :: ds n) ++ 46 :: (ds y ++ 46 :: [48])) := by simp
    rw [e, Parse_eq (by simp; omega), rd4 nx (by simp [nn]) ny n0, ok_zero (by omega)]
    simp
  | false =>
    simp only [cnd_false]
    rw [chk_pos (by omega), chk_pos (by simp; omega), chk_pos (by simp; omega), chk_pos (by simp; omega), chk_pos (by simp; omega)]
    have e : ds x ++ [46] ++ ds n ++ [46] ++ ds y ++ [46, 48] = ds x ++ 46 :: (ds n ++ 46 :: (ds y ++ 46 :: [48])) := by simp
    rw [e, Parse_eq (by simp; omega), rd4 nx nn ny n0, ox, oy, o0, ok_ds (by omega), v0, (ds_ok (show x < 1000 by omega)).2.1, (ds_ok (show y < 1000 by omega)).2.1, (ds_ok (show n < 1000 by omega)).2.1]
    by_cases h : n ≤ 255
    · have h1 : decide ((n : Int) < 256) = true := decide_eq_true (by omega)
      rw [decide_eq_true h, h1]
      have s24 : shlI IntKind.u32 (x : Int) 24 = (x : Int) * 16777216 := by
        have : shlI IntKind.u32 (x : Int) 24 = IntKind.u32.wrap ((x : Int) * 2 ^ 24) := shl_eq 24 (by decide)
        rw [this, wu32 (by omega) (by omega)]; rfl
      have s16 : shlI IntKind.u32 (n : Int) 16 = (n : Int) * 65536 := by
        have : shlI IntKind.u32 (n : Int) 16 = IntKind.u32.wrap ((n : Int) * 2 ^ 16) := shl_eq 16 (by decide)
        rw [this, wu32 (by omega) (by omega)]; rfl
      have s8 : shlI IntKind.u32 (y : Int) 8 = (y : Int) * 256 := by
        have : shlI IntKind.u32 (y : Int) 8 = IntKind.u32.wrap ((y : Int) * 2 ^ 8) := shl_eq 8 (by decide)
        rw [this, wu32 (by omega) (by omega)]; rfl
      rw [wu32 (n := (x : Int)) (by omega) (by omega), wu32 (n := (n : Int)) (by omega) (by omega), wu32 (n := (y : Int)) (by omega) (by omega), s24, s16, s8, wu32 (n := (x : Int) * 16777216 + (n : Int) * 65536) (by omega) (by omega), wu32 (n := (x : Int) * 16777216 + (n : Int) * 65536 + (y : Int) * 256) (by omega) (by omega)]
      have ev : ((((x * 256 + n) * 256 + y) * 256 + 0 : Nat) : Int) = (x : Int) * 16777216 + (n : Int) * 65536 + (y : Int) * 256 := by omega
      simp only [Bool.and_self, if_true, ev]
      simp
    · have h1 : decide ((n : Int) < 256) = false := decide_eq_false (by omega)
      rw [decide_eq_false h, h1]
      simp

end Go.Tr
namespace Go.Tr
open Go
set_option linter.unusedVariables false
set_option linter.unusedSimpArgs false
set_option maxRecDepth 100000
set_option maxHeartbeats 1000000

theorem mk_ok {a n : Int} (ha : in32 a) (h : bo n) : in32 (a - a % Wd n) ∧ rB (a - a % Wd n, n) = true ∧ a - a % Wd n ≤ a := by
  have bd := Wd_bd h
  have m0 := Int.emod_nonneg a (show Wd n ≠ 0 by omega)
  have m2 : a % Wd n ≤ a := by
    have := Int.mul_ediv_add_emod a (Wd n)
    have : 0 ≤ a / Wd n := Int.ediv_nonneg ha.1 (by omega)
    have : 0 ≤ Wd n * (a / Wd n) := Int.mul_nonneg (by omega) this
    omega
  refine ⟨by have := ha.2; exact ⟨by omega, by omega⟩, ?_, by omega⟩
  unfold rB
  rw [Bool.and_eq_true, decide_eq_true_eq, beq_iff_eq]
  refine ⟨h, ?_⟩
  show (a - a % Wd n) % Wd n = 0
  rw [Int.sub_emod, Int.emod_emod_of_dvd _ (Int.dvd_refl _), Int.sub_self, Int.zero_emod]

def resB (o : Option (Int × Int)) : (Int × Int) × Bool × Unit :=
  match o with
  | some b => (b, true, ())
  | none => ((0, 0), false, ())
theorem ParseBlock_res {s : List UInt8} (hs : s.length < 4294967281) : addr_ParseBlock s = some (resB (rdB s)) := by
  rw [ParseBlock_eq hs]; rfl

theorem addrBlock_law {a bits : Int} {raw : Int × Int} {s : List UInt8} (ha : in32 a) (hb : -128 ≤ bits ∧ bits ≤ 127) (hr : in32 raw.1) (hs : s.length ≤ 268435456) : terrierlaw01_AddrBlock a bits raw s = some (true, ()) := by
  obtain ⟨m, ok, hM, h32, h1, h0⟩ : ∃ (m : Int × Int) (ok : Bool), addr_Make a bits = some (m, ok, ()) ∧ in32 m.1 ∧
      (ok = true → bo bits ∧ m = (a - a % Wd bits, bits) ∧ rB m = true) ∧ (ok = false → ¬ bo bits ∧ m = (0, 0)) := by
    rw [Make_eq ha]
    by_cases h : bo bits
    · obtain ⟨g1, g2, g3⟩ := mk_ok ha h
      exact ⟨_, _, by rw [if_pos h], g1, fun _ => ⟨h, rfl, g2⟩, fun h => by simp at h⟩
    · exact ⟨_, _, by rw [if_neg h], ⟨by decide, by decide⟩, fun h => by simp at h, fun _ => ⟨h, rfl⟩⟩
  have v3 : (decide (bits ≥ 0) && decide (bits ≤ 32)) = ok := by
    cases ok with
    | true => have := (h1 rfl).1; unfold bo at this; simp only [Bool.and_eq_true, decide_eq_true_eq]; omega
    | false => have := (h0 rfl).1; unfold bo at this; rw [Bool.and_eq_false_iff, decide_eq_false_iff_not, decide_eq_false_iff_not]; omega
  have hl := adT_len raw.1
  have b24 : bo 24 := ⟨by decide, by decide⟩
  -- the text
  have d24 : ds (24 : Int).toNat = [50, 52] := by decide
  have ht : adT raw.1 ++ [47, 50, 52] = bt (raw.1, 24) := by
    show _ = adT raw.1 ++ 47 :: ds (24 : Int).toNat
    rw [d24]
  have htl : (bt (raw.1, 24)).length < 4294967281 := by
    rw [← ht, List.length_append]; show _ + 3 < _; omega
  have r1 : ∀ b : Int × Int, ((b.1, b.2) : Int × Int) = b := fun b => rfl
  unfold terrierlaw01_AddrBlock
  rw [awakeA_eq]
  simp only [bnd_val, Bool.not_true, cnd_false, ltO_def]
  rw [w64 (n := bits) (by omega) (by omega), hM]
  simp only [bnd_val, chk_same, v3, r1]
  rw [Right_eq hr, right_eq hr, right_eq h32, Has_eq h32 ha, lawtext_eq hr]
  simp only [bndG_val, bnd_val, ht]
  rw [ParseBlock_res htl, right_eq (b := (raw.1, 24)) hr, BlockText_eq (b := (raw.1, 24)) hr b24, ParseBlock_res (show s.length < _ by omega), chk_pos (show (((adT raw.1).length + 3 : Nat) : Int) ≤ 9223372036854775807 by omega)]
  have e24 : resB (rdB (bt (raw.1, 24))) = if rB (raw.1, 24) = true then ((raw.1, 24), true, ()) else ((0, 0), false, ()) := by
    cases h : rB (raw.1, 24) with
    | true => rw [rd_bt (b := (raw.1, 24)) hr h]; rfl
    | false =>
      have : rdB (bt (raw.1, 24)) = none := by
        cases hh : rdB (bt (raw.1, 24)) with
        | none => rfl
        | some b =>
          exfalso
          unfold rdB bt at hh
          rw [cut_app _ adT_no] at hh
          simp only [rd_adT hr] at hh
          split at hh
          · rename_i hc
            have := hc.2.2
            have v : valN (ds (24 : Int).toNat) = 24 := by decide
            rw [v] at this
            rw [show ((24 : Nat) : Int) = 24 from rfl, h] at this
            simp at this
          · simp at hh
      rw [this]; rfl
  rw [e24]
  have tail : ∀ (z : (Int × Int) × Bool × Unit), z = resB (rdB s) → (z.2.1 = false ∧ z.1 = (0, 0)) ∨ (z.2.1 = true ∧ in32 z.1.1 ∧ rB z.1 = true ∧ bt z.1 = s) := by
    rintro z rfl
    cases h : rdB s with
    | none => exact .inl ⟨rfl, rfl⟩
    | some b => exact .inr ⟨rfl, bt_rd h⟩
  generalize hz : resB (rdB s) = z
  have hz' := tail z hz.symm
  obtain ⟨⟨z1, z2⟩, zb, ⟨⟩⟩ := z
  have fin : ∀ (m : Int × Int) (ok : Bool), (ok = true → bo bits ∧ m = (a - a % Wd bits, bits) ∧ rB m = true) → (ok = false → ¬ bo bits ∧ m = (0, 0)) →
      (!ok == ok) = false ∧ (!ok && !(m.1 == 0 && m.2 == 0)) = false ∧ (ok && (!rB m || m.2 != bits || decide (m.1 > a) || !(rB m && a - a % Wd m.2 == m.1))) = false := by
    intro m ok h1 h0
    cases ok with
    | true =>
      obtain ⟨g1, rfl, g3⟩ := h1 rfl
      have hle := (mk_ok ha g1).2.2
      have hd : decide (a - a % Wd bits > a) = false := decide_eq_false (by omega)
      refine ⟨rfl, rfl, ?_⟩
      rw [g3, hd]; simp
    | false =>
      obtain ⟨g1, rfl⟩ := h0 rfl
      exact ⟨rfl, rfl, rfl⟩
  obtain ⟨f1, f2, f3⟩ := fin m ok h1 h0
  have f4 : (!!ok == ok) = true := by cases ok <;> rfl
  simp only [bnd_val, chk_same, chk_nn, chk_and]
  rcases hz' with ⟨e1, e2⟩ | ⟨e1, h2, h3, h4⟩
  · simp only [Prod.mk.injEq] at e1 e2
    obtain ⟨rfl, rfl⟩ := e2
    subst e1
    rw [f3]
    cases ok <;> cases hq : rB (raw.1, 24) <;> simp_all
  · simp only at e1 h2 h3 h4
    subst e1
    rw [right_eq (b := (z1, z2)) h2, h3, BlockText_eq (b := (z1, z2)) h2 (rB_bo h3).1, h4, f3]
    cases ok <;> cases hq : rB (raw.1, 24) <;> simp_all

end Go.Tr
namespace Go.Tr
open Go
set_option linter.unusedVariables false
set_option linter.unusedSimpArgs false
set_option maxRecDepth 100000
set_option maxHeartbeats 1000000

theorem wi_self {x : Int × Int} (h : rB x = true) : wiB x x = true := by
  have h2 := (rB_bo h).2
  unfold wiB
  rw [h, h2]; simp
theorem wi_rB {x y : Int × Int} (h : wiB x y = true) : rB x = true ∧ rB y = true := by
  unfold wiB at h
  simp only [Bool.and_eq_true] at h
  exact ⟨h.1.1.1, h.1.1.2⟩

theorem Wd_half {n : Int} (h : bo n) (h2 : n ≠ 32) : bo (n + 1) ∧ Wd n = 2 * Wd (n + 1) := by
  unfold bo at h
  have hb : bo (n + 1) := by unfold bo; omega
  refine ⟨hb, ?_⟩
  rcases (Wd_bd hb).2.2.1 with h' | h'
  · omega
  · rw [← h']; congr 1; omega

theorem ha_rB {b x y : Int × Int} (h : haB b = (x, y, true, ())) : rB x = true ∧ rB y = true ∧ x.1 = b.1 ∧ y.1 = b.1 + Wd (b.2 + 1) ∧ x.2 = b.2 + 1 ∧ y.2 = b.2 + 1 ∧ rB b = true ∧ b.2 ≠ 32 := by
  unfold haB at h
  split at h
  · rename_i hh
    obtain ⟨h1, h2⟩ := hh
    obtain ⟨g1, g2⟩ := rB_bo h1
    obtain ⟨k1, k2⟩ := Wd_half g1 h2
    simp only [Prod.mk.injEq, and_true] at h
    obtain ⟨rfl, rfl⟩ := h
    have bd := Wd_bd k1
    have d1 : b.1 % Wd (b.2 + 1) = 0 := by
      rw [k2] at g2
      have := Int.dvd_of_emod_eq_zero g2
      exact Int.emod_eq_zero_of_dvd (Int.dvd_trans (Int.dvd_mul_left 2 _) this)
    refine ⟨?_, ?_, rfl, rfl, rfl, rfl, h1, h2⟩
    · unfold rB; rw [Bool.and_eq_true, decide_eq_true_eq, beq_iff_eq]; exact ⟨k1, d1⟩
    · unfold rB; rw [Bool.and_eq_true, decide_eq_true_eq, beq_iff_eq]
      refine ⟨k1, ?_⟩
      show (b.1 + Wd (b.2 + 1)) % Wd (b.2 + 1) = 0
      rw [Int.add_emod, d1, Int.emod_self]; rfl
  · simp at h

theorem addrRaw_law {x y : Int × Int} {a : Int} (hx : in32 x.1) (hy : in32 y.1) (ha : in32 a) (k : Int) : terrierlaw01_AddrRaw x y a k = some (true, ()) := by
  have r1 : ∀ b : Int × Int, ((b.1, b.2) : Int × Int) = b := fun b => rfl
  unfold terrierlaw01_AddrRaw
  rw [awakeA_eq, right_eq hx, right_eq hy, Within_eq hx hx, Overlap_eq hy hy, Halves_eq hx, Whole_eq hx, At_eq hx, Within_eq hx hy, Overlap_eq hx hy, Size_eq hx, Has_eq hx ha]
  simp only [bnd_val, bndG_val, Bool.not_true, cnd_false, ltO_def, chk_same, chk_nn, chk_and]
  cases h1 : rB x with
  | true =>
    cases h2 : rB y with
    | true => simp [wi_self h1, wi_self h2]
    | false =>
      have w1 : wiB x y = false := by
        cases h : wiB x y with
        | false => rfl
        | true => rw [(wi_rB h).2] at h2; simp at h2
      have w2 : wiB y x = false := by
        cases h : wiB y x with
        | false => rfl
        | true => rw [(wi_rB h).1] at h2; simp at h2
      have e : ¬ (x.2 ≠ 0 ∧ haB (x.1 - x.1 % Wd (x.2 - 1), x.2 - 1) = (x, y, true, ())) := by
        rintro ⟨_, h⟩
        rw [(ha_rB h).2.1] at h2; simp at h2
      simp [w1, w2, e]
  | false =>
    have w1 : wiB x y = false := by
      cases h : wiB x y with
      | false => rfl
      | true => rw [(wi_rB h).1] at h1; simp at h1
    have w2 : wiB y x = false := by
      cases h : wiB y x with
      | false => rfl
      | true => rw [(wi_rB h).2] at h1; simp at h1
    have e1 : haB x = ((0, 0), (0, 0), false, ()) := by unfold haB; rw [h1]; simp
    have e2 : szB x = 0 := by unfold szB; rw [h1]; simp
    have e3 : ¬ (0 ≤ k ∧ k < szB x) := by rw [e2]; omega
    rw [if_neg e3, e1, e2]
    simp [w1, w2]

end Go.Tr
namespace Go.Tr
open Go
set_option linter.unusedVariables false
set_option linter.unusedSimpArgs false
set_option maxRecDepth 100000
set_option maxHeartbeats 1000000

theorem chk_an' {X : Type} (a b : Bool) (x : Option X) : chk (a = true → b = false → (a && !b) = true) x = x := chk_pos (by cases a <;> cases b <;> simp) x

def bB (a bits : Int) : Int × Int := (a - a % Wd (20 + bits % 13), 20 + bits % 13)

theorem Wd_small : ∀ k : Fin 13, Wd (20 + (k.val : Int)) ≤ 4096 := by decide
theorem Block_eq {a bits : Int} (ha : in32 a) (hb : 0 ≤ bits) : terrierlaw01_Block a bits = some (bB a bits, ()) := by
  unfold terrierlaw01_Block
  rw [chk_pos (by decide), Int.tmod_eq_emod_of_nonneg hb, ltO_def, w64 (n := bits % 13) (by omega) (by omega), ltO_def, w64 (n := 20 + bits % 13) (by omega) (by omega), ltO_def]
  have hbo : bo (20 + bits % 13) := by unfold bo; omega
  obtain ⟨j, hj, e0, e⟩ := Wd_nat hbo
  have e1 : (32 : Int) - (20 + bits % 13) = (j : Int) := by omega
  rw [w64 (n := 32 - (20 + bits % 13)) (by omega) (by omega), ltO_def, chk_pos (by omega), e1, shr_eq (k := .u32) j hj, ltO_def, ltO_def, chk_pos (by omega), shl_eq (k := .u32) j hj, ltO_def]
  have bd := Wd_bd hbo
  have m0 := Int.emod_nonneg a (show Wd (20 + bits % 13) ≠ 0 by omega)
  have md := Int.mul_ediv_add_emod a (Wd (20 + bits % 13))
  have hq : 0 ≤ a / Wd (20 + bits % 13) := Int.ediv_nonneg ha.1 (by omega)
  have hq2 : 0 ≤ Wd (20 + bits % 13) * (a / Wd (20 + bits % 13)) := Int.mul_nonneg (by omega) hq
  have := ha.2
  rw [← e, Int.mul_comm, wu32 (by omega) (by omega)]
  unfold bB
  congr 3
  omega

structure BlkOK (b : Int × Int) : Prop where
  r : rB b = true
  i : in32 b.1
  n : 20 ≤ b.2 ∧ b.2 ≤ 32
  w : 1 ≤ Wd b.2 ∧ Wd b.2 ≤ 4096
  d : b.1 % Wd b.2 = 0
  t : b.1 + Wd b.2 ≤ 4294967296

theorem bB_ok {a bits : Int} (ha : in32 a) (hb : 0 ≤ bits) : BlkOK (bB a bits) := by
  have hbo : bo (20 + bits % 13) := by unfold bo; omega
  obtain ⟨g1, g2, g3⟩ := mk_ok ha hbo
  have bd := Wd_bd hbo
  have sz := szB_le (b := bB a bits) g1
  unfold szB at sz
  rw [if_pos (show rB (bB a bits) = true from g2)] at sz
  have ws := Wd_small ⟨(bits % 13).toNat, by omega⟩
  simp only [Int.toNat_of_nonneg (show 0 ≤ bits % 13 by omega)] at ws
  exact ⟨g2, g1, by show 20 ≤ 20 + bits % 13 ∧ 20 + bits % 13 ≤ 32; omega, ⟨bd.1, ws⟩, (rB_bo g2).2, sz.2⟩

/-- An address lies in a prefix. -/
theorem has_iff {x b W : Int} (hW : 0 < W) (hd : b % W = 0) : x - x % W = b ↔ b ≤ x ∧ x < b + W := by
  have m0 := Int.emod_nonneg x (show W ≠ 0 by omega)
  have m1 := Int.emod_lt_of_pos x hW
  constructor
  · intro h; omega
  · rintro ⟨h1, h2⟩
    have e : (x - b) % W = x % W := by rw [Int.sub_emod, hd, Int.sub_zero, Int.emod_emod_of_dvd _ (Int.dvd_refl _)]
    have e2 : (x - b) % W = x - b := Int.emod_eq_of_lt (by omega) (by omega)
    omega

theorem Wd_dvd : ∀ m n : Fin 33, n.val ≤ m.val → Wd (n.val : Int) % Wd (m.val : Int) = 0 := by decide +kernel
theorem Wd_dv {m n : Int} (hm : bo m) (hn : bo n) (h : n ≤ m) : Wd m ∣ Wd n := by
  obtain ⟨a0, a1⟩ := hm
  obtain ⟨b0, b1⟩ := hn
  have := Wd_dvd ⟨m.toNat, by omega⟩ ⟨n.toNat, by omega⟩ (by show n.toNat ≤ m.toNat; omega)
  simp only [Int.toNat_of_nonneg a0, Int.toNat_of_nonneg b0] at this
  exact Int.dvd_of_emod_eq_zero this

/-- Multiples that are less are less by one at least. -/
theorem mul_step {A u v : Int} (hA : 0 < A) (hu : A ∣ u) (hv : A ∣ v) (h : u < v) : u + A ≤ v := by
  obtain ⟨p, rfl⟩ := hu
  obtain ⟨q, rfl⟩ := hv
  have : p < q := Int.lt_of_mul_lt_mul_left h (by omega)
  have : A * (p + 1) ≤ A * q := Int.mul_le_mul_of_nonneg_left (by omega) (by omega)
  rw [Int.mul_add] at this
  omega

theorem nest_ge {x y : Int × Int} (hx : BlkOK x) (hy : BlkOK y) (h : y.2 ≤ x.2) :
    (y.1 ≤ x.1 ∧ x.1 < y.1 + Wd y.2 ↔ y.1 ≤ x.1 ∧ x.1 + Wd x.2 ≤ y.1 + Wd y.2) ∧ (y.1 ≤ x.1 ∧ x.1 < y.1 + Wd y.2 ↔ x.1 < y.1 + Wd y.2 ∧ y.1 < x.1 + Wd x.2) := by
  have dv := Wd_dv (rB_bo hx.r).1 (rB_bo hy.r).1 h
  have dx := Int.dvd_of_emod_eq_zero hx.d
  have dy := Int.dvd_trans dv (Int.dvd_of_emod_eq_zero hy.d)
  have dyb := Int.dvd_add dy dv
  have h1 := hx.w.1
  refine ⟨⟨fun ⟨a, b⟩ => ⟨a, mul_step (by omega) dx dyb b⟩, fun ⟨a, b⟩ => ⟨a, by omega⟩⟩, ⟨fun ⟨a, b⟩ => ⟨b, by omega⟩, fun ⟨a, b⟩ => ⟨?_, a⟩⟩⟩
  have := mul_step (by omega) dy (Int.dvd_add dx (Int.dvd_refl _)) b
  omega

theorem wi_ge {x y : Int × Int} (hx : BlkOK x) (hy : BlkOK y) (h : y.2 ≤ x.2) : wiB x y = (decide (y.1 ≤ x.1) && decide (x.1 < y.1 + Wd y.2)) := by
  unfold wiB
  rw [hx.r, hy.r, decide_eq_true (show x.2 ≥ y.2 from h)]
  apply Bool.eq_iff_iff.2
  simp only [Bool.and_eq_true, beq_iff_eq, decide_eq_true_eq, true_and]
  exact has_iff (by have := hy.w.1; omega) hy.d
theorem wi_lt {x y : Int × Int} (h : x.2 < y.2) : wiB x y = false := by
  unfold wiB
  rw [decide_eq_false (show ¬ x.2 ≥ y.2 from by omega)]; simp

theorem Wd_lt {m n : Int} (hm : bo m) (hn : bo n) (h : n < m) : Wd m < Wd n := by
  have bm := Wd_bd hm
  have hm' := hm
  have hn' := hn
  unfold bo at hm' hn'
  have e : Wd (m - 1) = 2 * Wd m := by
    rcases bm.2.2.1 with h' | h'
    · omega
    · exact h'
  have d := Wd_dv (m := m - 1) (n := n) (by unfold bo; omega) hn (by omega)
  have := Int.le_of_dvd (by have := (Wd_bd hn).1; omega) d
  omega

theorem nest {x y : Int × Int} (hx : BlkOK x) (hy : BlkOK y) : wiB x y = (decide (y.1 ≤ x.1) && decide (x.1 + Wd x.2 ≤ y.1 + Wd y.2)) := by
  by_cases h : y.2 ≤ x.2
  · rw [wi_ge hx hy h]
    apply Bool.eq_iff_iff.2
    simp only [Bool.and_eq_true, decide_eq_true_eq]
    exact (nest_ge hx hy h).1
  · rw [wi_lt (by omega)]
    have := Wd_lt (rB_bo hy.r).1 (rB_bo hx.r).1 (show x.2 < y.2 by omega)
    symm
    rw [Bool.and_eq_false_iff, decide_eq_false_iff_not, decide_eq_false_iff_not]
    omega
theorem lap {x y : Int × Int} (hx : BlkOK x) (hy : BlkOK y) : (wiB x y || wiB y x) = (decide (x.1 < y.1 + Wd y.2) && decide (y.1 < x.1 + Wd x.2)) := by
  apply Bool.eq_iff_iff.2
  simp only [Bool.or_eq_true, Bool.and_eq_true, decide_eq_true_eq]
  have key : ∀ {x y : Int × Int}, BlkOK x → BlkOK y → y.2 ≤ x.2 → (wiB x y = true ↔ x.1 < y.1 + Wd y.2 ∧ y.1 < x.1 + Wd x.2) := by
    intro x y hx hy h
    rw [wi_ge hx hy h]
    simp only [Bool.and_eq_true, decide_eq_true_eq]
    exact (nest_ge hx hy h).2
  rcases Int.lt_or_le x.2 y.2 with h | h
  · rw [wi_lt h, key hy hx (by omega)]
    simp only [Bool.false_eq_true, false_or]
    exact And.comm
  · rw [key hx hy h]
    constructor
    · rintro (h1 | h1)
      · exact h1
      · by_cases h2 : x.2 ≤ y.2
        · have := (key hy hx h2).1 h1; exact ⟨this.2, this.1⟩
        · rw [wi_lt (by omega)] at h1; simp at h1
    · exact .inl

theorem shl64 {k : IntKind} (hk : k = .i64 ∨ k = .u64) {n : Int} (h : bo n) : shlI k 1 (32 - n) = Wd n := by
  obtain ⟨j, hj, e0, e⟩ := Wd_nat h
  rw [show (32 : Int) - n = (j : Int) from by omega, e]
  have k1 : ∀ j : Fin 33, IntKind.i64.wrap (1 * 2 ^ j.val) = 2 ^ j.val := by decide
  have k2 : ∀ j : Fin 33, IntKind.u64.wrap (1 * 2 ^ j.val) = 2 ^ j.val := by decide
  rcases hk with rfl | rfl
  · rw [shl_eq (k := .i64) j (by show j ≤ 64; omega)]; exact k1 ⟨j, by omega⟩
  · rw [shl_eq (k := .u64) j (by show j ≤ 64; omega)]; exact k2 ⟨j, by omega⟩

theorem bxor_in {a c : Int} : in32 (IntKind.u32.wrap (bxorI .u32 a c)) := by
  rw [u32_wrap]; exact ⟨by omega, by omega⟩

theorem addrWithin_law {a bits c more : Int} (ha : in32 a) (hb : 0 ≤ bits) (hc : in32 c) (hm : 0 ≤ more) : terrierlaw01_AddrWithin a bits c more = some (true, ()) := by
  have r1 : ∀ b : Int × Int, ((b.1, b.2) : Int × Int) = b := fun b => rfl
  unfold terrierlaw01_AddrWithin
  rw [awakeA_eq, Block_eq ha hb, Block_eq hc hm]
  have hx := bB_ok ha hb
  generalize bB a bits = x at hx
  have n1 := hx.n
  have i1 := hx.i
  have w1 := hx.w
  have t1 := hx.t
  obtain ⟨i10, i11⟩ := i1
  simp only [bnd_val, Bool.not_true, cnd_false, ltO_def, r1]
  rw [w64 (n := 32 - x.2) (by omega) (by omega), wu64 (n := x.1) (by omega) (by omega), shl64 (.inr rfl) (rB_bo hx.r).1, wu64 (n := x.1 + Wd x.2) (by omega) (by omega)]
  have go : ∀ y : Int × Int, BlkOK y → wiB x y = (decide (y.1 ≤ x.1) && decide (x.1 + Wd x.2 ≤ y.1 + Wd y.2)) ∧ wiB y x = (decide (x.1 ≤ y.1) && decide (y.1 + Wd y.2 ≤ x.1 + Wd x.2)) ∧
      (wiB x y || wiB y x) = (decide (x.1 < y.1 + Wd y.2) && decide (y.1 < x.1 + Wd x.2)) := fun y hy => ⟨nest hx hy, nest hy hx, lap hx hy⟩
  cases hbig : decide (bits > 128) with
  | true =>
    simp only [cnd_true]
    rw [chk_pos (by decide), Block_eq (bxor_in (a := a) (c := c.tmod 64)) hm]
    have hy := bB_ok (bxor_in (a := a) (c := c.tmod 64)) hm
    generalize bB (IntKind.u32.wrap (bxorI IntKind.u32 a (c.tmod 64))) more = y at hy
    have n2 := hy.n
    have i2 := hy.i
    have w2 := hy.w
    have t2 := hy.t
    obtain ⟨i20, i21⟩ := i2
    simp only [bnd_val]
    rw [w64 (n := 32 - y.2) (by omega) (by omega), wu64 (n := y.1) (by omega) (by omega), shl64 (.inr rfl) (rB_bo hy.r).1, wu64 (n := y.1 + Wd y.2) (by omega) (by omega), Within_eq hx.i hy.i, Within_eq hy.i hx.i, Overlap_eq hx.i hy.i]
    obtain ⟨g1, g2, g3⟩ := go y hy
    rw [chk_pos (by omega), chk_pos (by omega)]
    simp only [bnd_val, bndG_val, chk_same, chk_nn, chk_and, chk_an']
    rw [← g1, ← g2, ← g3]
    simp
  | false =>
    simp only [cnd_false]
    have hy := bB_ok hc hm
    generalize bB c more = y at hy
    have n2 := hy.n
    have i2 := hy.i
    have w2 := hy.w
    have t2 := hy.t
    obtain ⟨i20, i21⟩ := i2
    rw [w64 (n := 32 - y.2) (by omega) (by omega), wu64 (n := y.1) (by omega) (by omega), shl64 (.inr rfl) (rB_bo hy.r).1, wu64 (n := y.1 + Wd y.2) (by omega) (by omega), Within_eq hx.i hy.i, Within_eq hy.i hx.i, Overlap_eq hx.i hy.i]
    obtain ⟨g1, g2, g3⟩ := go y hy
    rw [chk_pos (by omega), chk_pos (by omega)]
    simp only [bnd_val, bndG_val, chk_same, chk_nn, chk_and, chk_an']
    rw [← g1, ← g2, ← g3]
    simp

theorem addrHas_law {a bits c : Int} (ha : in32 a) (hb : 0 ≤ bits) (hc : in32 c) (near : Bool) : terrierlaw01_AddrHas a bits c near = some (true, ()) := by
  have r1 : ∀ b : Int × Int, ((b.1, b.2) : Int × Int) = b := fun b => rfl
  unfold terrierlaw01_AddrHas
  rw [awakeA_eq, Block_eq ha hb]
  have hx := bB_ok ha hb
  generalize bB a bits = b at hx
  have n1 := hx.n
  have i1 := hx.i
  have w1 := hx.w
  have t1 := hx.t
  obtain ⟨i10, i11⟩ := i1
  have hs : szB b = Wd b.2 := by unfold szB; rw [if_pos hx.r]
  simp only [bnd_val, Bool.not_true, cnd_false, ltO_def, r1]
  rw [w64 (n := 32 - b.2) (by omega) (by omega), wu64 (n := b.1) (by omega) (by omega), w64 (n := b.1) (by omega) (by omega), shl64 (.inl rfl) (rB_bo hx.r).1, wu64 (n := Wd b.2) (by omega) (by omega), wu64 (n := b.1 + Wd b.2) (by omega) (by omega), Size_eq hx.i, hs]
  have go : ∀ x, in32 x → (rB b && (x - x % Wd b.2 == b.1)) = (decide (x ≥ b.1) && decide (x < b.1 + Wd b.2)) := by
    intro x h
    rw [hx.r, Bool.true_and]
    apply Bool.eq_iff_iff.2
    simp only [beq_iff_eq, Bool.and_eq_true, decide_eq_true_eq]
    exact has_iff (by omega) hx.d
  have fin : ∀ x, in32 x → ∀ (q : Bool), q = (decide (x ≥ b.1) && decide (x < b.1 + Wd b.2)) → (if 0 ≤ x - b.1 ∧ x - b.1 < szB b then (b.1 + (x - b.1), true, ()) else ((0 : Int), false, ())) = if q = true then (x, true, ()) else (0, false, ()) := by
    intro x h q hq
    by_cases hh : 0 ≤ x - b.1 ∧ x - b.1 < szB b
    · rw [if_pos hh, if_pos]
      · congr 1; omega
      · rw [hq, hs] at *; simp only [Bool.and_eq_true, decide_eq_true_eq]; omega
    · rw [if_neg hh, if_neg]
      rw [hq, hs] at *; simp only [Bool.and_eq_true, decide_eq_true_eq]; omega
  cases near with
  | true =>
    simp only [cnd_true]
    have h8 : 0 ≤ c.tmod 8192 := Int.tmod_nonneg _ hc.1
    generalize hxx : IntKind.u32.wrap (b.1 + c.tmod 8192) = x
    have ix : in32 x := by rw [← hxx, u32_wrap]; exact ⟨by omega, by omega⟩
    obtain ⟨ix0, ix1⟩ := ix
    rw [chk_pos (by decide), chk_pos (by omega), wu64 (n := x) (by omega) (by omega), w64 (n := x) (by omega) (by omega), w64 (n := x - b.1) (by omega) (by omega), At_eq hx.i, Has_eq hx.i ⟨ix0, ix1⟩, go x ⟨ix0, ix1⟩]
    rw [fin x ⟨ix0, ix1⟩ _ rfl]
    generalize (decide (x ≥ b.1) && decide (x < b.1 + Wd b.2)) = q
    simp only [bnd_val, bndG_val, chk_same, chk_nn, chk_and, chk_an']
    cases q <;> simp
  | false =>
    simp only [cnd_false]
    obtain ⟨ix0, ix1⟩ := hc
    rw [chk_pos (by omega), wu64 (n := c) (by omega) (by omega), w64 (n := c) (by omega) (by omega), w64 (n := c - b.1) (by omega) (by omega), At_eq hx.i, Has_eq hx.i ⟨ix0, ix1⟩, go c ⟨ix0, ix1⟩]
    rw [fin c ⟨ix0, ix1⟩ _ rfl]
    generalize (decide (c ≥ b.1) && decide (c < b.1 + Wd b.2)) = q
    simp only [bnd_val, bndG_val, chk_same, chk_nn, chk_and, chk_an']
    cases q <;> simp

end Go.Tr
namespace Go.Tr
open Go
set_option linter.unusedVariables false
set_option linter.unusedSimpArgs false
set_option maxRecDepth 100000
set_option maxHeartbeats 1000000

theorem shl32 {n : Int} (h : 20 ≤ n ∧ n ≤ 32) : shlI .u32 1 (32 - n) = Wd n := by
  obtain ⟨j, hj, e0, e⟩ := Wd_nat (n := n) (by unfold bo; omega)
  rw [show (32 : Int) - n = (j : Int) from by omega, e, shl_eq (k := .u32) j hj]
  have k1 : ∀ j : Fin 13, IntKind.u32.wrap (1 * 2 ^ j.val) = 2 ^ j.val := by decide
  exact k1 ⟨j, by omega⟩
theorem shr32 {a n : Int} (h : 20 ≤ n ∧ n ≤ 32) : shrI .u32 a (32 - n) = a / Wd n := by
  obtain ⟨j, hj, e0, e⟩ := Wd_nat (n := n) (by unfold bo; omega)
  rw [show (32 : Int) - n = (j : Int) from by omega, e, shr_eq (k := .u32) j hj]

theorem blk_half {b : Int × Int} (h : BlkOK b) (h2 : b.2 ≠ 32) : haB b = ((b.1, b.2 + 1), (b.1 + Wd (b.2 + 1), b.2 + 1), true, ()) ∧ BlkOK (b.1, b.2 + 1) ∧ BlkOK (b.1 + Wd (b.2 + 1), b.2 + 1) ∧ Wd b.2 = 2 * Wd (b.2 + 1) := by
  have e : haB b = ((b.1, b.2 + 1), (b.1 + Wd (b.2 + 1), b.2 + 1), true, ()) := by unfold haB; rw [if_pos ⟨h.r, h2⟩]
  obtain ⟨r1, r2, _⟩ := ha_rB e
  obtain ⟨k1, k2⟩ := Wd_half (rB_bo h.r).1 h2
  have hn := h.n
  have hw := h.w
  have ht := h.t
  have hi := h.i
  obtain ⟨i0, i1⟩ := hi
  have bd := Wd_bd k1
  refine ⟨e, ⟨r1, ⟨i0, i1⟩, ?_, ?_, (rB_bo r1).2, ?_⟩, ⟨r2, ⟨?_, ?_⟩, ?_, ?_, (rB_bo r2).2, ?_⟩, k2⟩ <;> simp only <;> omega

/-- Whole, of prefixes of 20 to 32 bits. -/
theorem whole_ways {p q : Int × Int} (hp : BlkOK p) (hq : BlkOK q) : ∃ (w : Int × Int) (is : Bool), addr_Whole p q = some (w, is, ()) ∧ in32 w.1 ∧
    ((is = true ∧ haB w = (p, q, true, ())) ∨ (is = false ∧ w = (0, 0) ∧ (p.2 != q.2 || q.1 != IntKind.u32.wrap (p.1 + Wd p.2) || (p.1 / Wd p.2).tmod 2 == 1) = true)) := by
  have hn := hp.n
  have hi := hp.i
  obtain ⟨i0, i1⟩ := hi
  rw [Whole_eq hp.i]
  have hb1 : bo (p.2 - 1) := by unfold bo; omega
  by_cases h : rB p = true ∧ p.2 ≠ 0 ∧ haB (p.1 - p.1 % Wd (p.2 - 1), p.2 - 1) = (p, q, true, ())
  · rw [if_pos h]
    exact ⟨_, _, rfl, (mk_ok hp.i hb1).1, .inl ⟨rfl, h.2.2⟩⟩
  · rw [if_neg h]
    refine ⟨_, _, rfl, ⟨by decide, by decide⟩, .inr ⟨rfl, rfl, ?_⟩⟩
    refine Classical.byContradiction fun hc => h ⟨hp.r, by omega, ?_⟩
    simp only [Bool.or_eq_true, not_or, bne_iff_ne, ne_eq, Classical.not_not, beq_iff_eq] at hc
    obtain ⟨⟨c1, c2⟩, c3⟩ := hc
    have hw := hp.w
    have e2 : Wd (p.2 - 1) = 2 * Wd p.2 := by
      rcases (Wd_bd (rB_bo hp.r).1).2.2.1 with h' | h'
      · omega
      · exact h'
    have q0 : 0 ≤ p.1 / Wd p.2 := Int.ediv_nonneg i0 (by omega)
    rw [Int.tmod_eq_emod_of_nonneg q0] at c3
    have ev : (p.1 / Wd p.2) % 2 = 0 := by omega
    have md := Int.mul_ediv_add_emod p.1 (Wd p.2)
    rw [hp.d] at md
    obtain ⟨t, ht⟩ := Int.dvd_of_emod_eq_zero ev
    have ep : p.1 = (2 * Wd p.2) * t := by
      rw [ht] at md
      rw [← md, Int.add_zero, ← Int.mul_assoc, Int.mul_comm (Wd p.2) 2]
    have d2 : p.1 % Wd (p.2 - 1) = 0 := by rw [e2, ep]; exact Int.mul_emod_right _ _
    have ro : rB (p.1, p.2 - 1) = true := by
      unfold rB; rw [Bool.and_eq_true, decide_eq_true_eq, beq_iff_eq]; exact ⟨hb1, d2⟩
    have sz := szB_le (b := (p.1, p.2 - 1)) hp.i
    unfold szB at sz
    rw [if_pos ro] at sz
    simp only at sz
    rw [e2] at sz
    rw [wu32 (by omega) (by omega)] at c2
    have e5 : p.1 - p.1 % Wd (p.2 - 1) = p.1 := by omega
    rw [e5]
    unfold haB
    rw [if_pos ⟨ro, by show p.2 - 1 ≠ 32; omega⟩]
    obtain ⟨p1, p2⟩ := p
    obtain ⟨q1, q2⟩ := q
    simp only at *
    have e3 : p2 - 1 + 1 = p2 := by omega
    rw [e3, ← c1, c2]

theorem addrHalves_law {a bits c more : Int} (ha : in32 a) (hb : 0 ≤ bits) (hc : in32 c) (hm : 0 ≤ more) : terrierlaw01_AddrHalves a bits c more = some (true, ()) := by
  have r1 : ∀ b : Int × Int, ((b.1, b.2) : Int × Int) = b := fun b => rfl
  unfold terrierlaw01_AddrHalves
  rw [awakeA_eq, Block_eq ha hb, Block_eq hc hm]
  have hp := bB_ok ha hb
  have hq := bB_ok hc hm
  generalize bB a bits = p at hp
  generalize bB c more = q at hq
  have hn := hp.n
  have hi := hp.i
  have hw := hp.w
  obtain ⟨i0, i1⟩ := hi
  simp only [bnd_val, Bool.not_true, cnd_false, ltO_def, r1]
  rw [Halves_eq hp.i, w64 (n := 32 - p.2) (by omega) (by omega), shl32 hn, shr32 hn]
  obtain ⟨w, is, e1, iw, hww⟩ := whole_ways hp hq
  rw [e1]
  simp only [bnd_val, r1]
  rw [Halves_eq iw]
  have tail : ∀ {X : Type} (k : Option X), chk (0 ≤ 32 - p.2) k = k := fun k => chk_pos (by omega) k
  by_cases h32 : p.2 = 32
  · have eh : haB p = ((0, 0), (0, 0), false, ()) := by unfold haB; rw [if_neg (by rw [h32]; simp)]
    rw [eh, decide_eq_false (show ¬ p.2 < 32 by omega)]
    simp only [bnd_val]
    rcases hww with ⟨rfl, g⟩ | ⟨rfl, rfl, g⟩
    · rw [g]
      simp only [bnd_val, chk_same, chk_nn, chk_and, chk_an']
      simp
    · simp only [bnd_val, chk_same, chk_nn, chk_and, chk_an']
      simp only [Bool.or_assoc] at g
      simp [g]
      rw [chk_pos (by intro _; omega), chk_pos (by intro _ _; omega)]
      simpa [Bool.or_assoc] using g
  · obtain ⟨eh, bx, by', e2⟩ := blk_half hp h32
    have wx : addr_Whole (p.1, p.2 + 1) (p.1 + Wd (p.2 + 1), p.2 + 1) = some (p, true, ()) := by
      rw [Whole_eq bx.i]
      have e5 : (p.2 + 1 - 1) = p.2 := by omega
      have e6 : p.1 - p.1 % Wd p.2 = p.1 := by rw [hp.d]; omega
      simp only [e5, e6, r1]
      rw [if_pos ⟨bx.r, by omega, eh⟩]
    have wy : addr_Whole (p.1 + Wd (p.2 + 1), p.2 + 1) (p.1, p.2 + 1) = some ((0, 0), false, ()) := by
      rw [Whole_eq by'.i, if_neg]
      rintro ⟨_, _, h⟩
      have := (ha_rB h).2.2.1
      have h4 := (ha_rB h).2.2.2.1
      have h5 := bx.w
      have e9 : p.2 + 1 - 1 + 1 = p.2 + 1 := by omega
      simp only at this h4 h5
      rw [e9] at h4
      omega
    have ov : addr_Overlap (p.1, p.2 + 1) (p.1 + Wd (p.2 + 1), p.2 + 1) = some (false, ()) := by
      rw [Overlap_eq bx.i by'.i, lap bx by']
      simp
    have sx : addr_Size (p.1, p.2 + 1) = some (Wd (p.2 + 1), ()) := by rw [Size_eq bx.i]; unfold szB; rw [if_pos bx.r]
    have sy : addr_Size (p.1 + Wd (p.2 + 1), p.2 + 1) = some (Wd (p.2 + 1), ()) := by rw [Size_eq by'.i]; unfold szB; rw [if_pos by'.r]
    have sp : addr_Size p = some (Wd p.2, ()) := by rw [Size_eq hp.i]; unfold szB; rw [if_pos hp.r]
    rw [eh, decide_eq_true (show p.2 < 32 by omega), w64 (n := p.2 + 1) (by omega) (by omega)]
    simp only [bnd_val, r1]
    rw [wx, wy, ov, sx, sy, sp]
    simp only [bnd_val, bndG_val]
    have h5 := bx.w
    simp only at h5
    rw [w64 (n := Wd (p.2 + 1) + Wd (p.2 + 1)) (by omega) (by omega)]
    have e7 : (Wd (p.2 + 1) + Wd (p.2 + 1) != Wd p.2) = false := by
      rw [bne_eq_false_iff_eq]; omega
    rw [e7]
    rcases hww with ⟨rfl, g⟩ | ⟨rfl, rfl, g⟩
    · rw [g]
      simp only [bnd_val, chk_same, chk_nn, chk_and, chk_an']
      simp
    · simp only [bnd_val, chk_same, chk_nn, chk_and, chk_an']
      simp only [Bool.or_assoc] at g
      simp [g]
      rw [chk_pos (by intro _; omega), chk_pos (by intro _ _; omega)]
      simpa [Bool.or_assoc] using g

end Go.Tr
