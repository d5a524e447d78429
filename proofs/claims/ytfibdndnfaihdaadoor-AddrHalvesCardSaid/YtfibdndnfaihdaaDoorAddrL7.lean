/- The laws of addresses: which prefixes lie in which. Conditions: none but the numbers' bounds. -/
import Derived.Test.YtfibdndnfaihdaaDoorAddrL6
namespace Go.Tr
open Go
set_option linter.unusedVariables false
set_option linter.unusedSimpArgs false
set_option maxRecDepth 100000
set_option maxHeartbeats 1000000

theorem chk_an' {X : Type} (a b : Bool) (x : Option X) : chk (a = true → b = false → (a && !b) = true) x = x := chk_pos (by cases a <;> cases b <;> simp) x

def bB (a bits : Int) : Int × Int := (a - a % Wd (20 + bits % 13), 20 + bits % 13)

theorem Wd_small : ∀ k : Fin 13, Wd (20 + (k.val : Int)) ≤ 4096 := by decide
theorem Block_eq {a bits : Int} (ha : in32 a) (hb : 0 ≤ bits) : terrierlaw01_Block a bits = some (bB a bits, ()) := by
  unfold terrierlaw01_Block
  rw [chk_pos (by decide), Int.tmod_eq_emod_of_nonneg hb, ltO_def, w64 (n := bits % 13) (by omega) (by omega), ltO_def, w64 (n := 20 + bits % 13) (by omega) (by omega), ltO_def]
  have hbo : bo (20 + bits % 13) := by unfold bo; omega
  obtain ⟨j, hj, e0, e⟩ := Wd_nat hbo
  have e1 : (32 : Int) - (20 + bits % 13) = (j : Int) := by omega
  rw [w64 (n := 32 - (20 + bits % 13)) (by omega) (by omega), ltO_def, chk_pos (by omega), e1, shr_eq (k := .u32) j hj, ltO_def, ltO_def, chk_pos (by omega), shl_eq (k := .u32) j hj, ltO_def]
  have bd := Wd_bd hbo
  have m0 := Int.emod_nonneg a (show Wd (20 + bits % 13) ≠ 0 by omega)
  have md := Int.mul_ediv_add_emod a (Wd (20 + bits % 13))
  have hq : 0 ≤ a / Wd (20 + bits % 13) := Int.ediv_nonneg ha.1 (by omega)
  have hq2 : 0 ≤ Wd (20 + bits % 13) * (a / Wd (20 + bits % 13)) := Int.mul_nonneg (by omega) hq
  have := ha.2
  rw [← e, Int.mul_comm, wu32 (by omega) (by omega)]
  unfold bB
  congr 3
  omega

structure BlkOK (b : Int × Int) : Prop where
  r : rB b = true
  i : in32 b.1
  n : 20 ≤ b.2 ∧ b.2 ≤ 32
  w : 1 ≤ Wd b.2 ∧ Wd b.2 ≤ 4096
  d : b.1 % Wd b.2 = 0
  t : b.1 + Wd b.2 ≤ 4294967296

theorem bB_ok {a bits : Int} (ha : in32 a) (hb : 0 ≤ bits) : BlkOK (bB a bits) := by
  have hbo : bo (20 + bits % 13) := by unfold bo; omega
  obtain ⟨g1, g2, g3⟩ := mk_ok ha hbo
  have bd := Wd_bd hbo
  have sz := szB_le (b := bB a bits) g1
  unfold szB at sz
  rw [if_pos (show rB (bB a bits) = true from g2)] at sz
  have ws := Wd_small ⟨(bits % 13).toNat, by omega⟩
  simp only [Int.toNat_of_nonneg (show 0 ≤ bits % 13 by omega)] at ws
  exact ⟨g2, g1, by show 20 ≤ 20 + bits % 13 ∧ 20 + bits % 13 ≤ 32; omega, ⟨bd.1, ws⟩, (rB_bo g2).2, sz.2⟩

/-- An address lies in a prefix. -/
theorem has_iff {x b W : Int} (hW : 0 < W) (hd : b % W = 0) : x - x % W = b ↔ b ≤ x ∧ x < b + W := by
  have m0 := Int.emod_nonneg x (show W ≠ 0 by omega)
  have m1 := Int.emod_lt_of_pos x hW
  constructor
  · intro h; omega
  · rintro ⟨h1, h2⟩
    have e : (x - b) % W = x % W := by rw [Int.sub_emod, hd, Int.sub_zero, Int.emod_emod_of_dvd _ (Int.dvd_refl _)]
    have e2 : (x - b) % W = x - b := Int.emod_eq_of_lt (by omega) (by omega)
    omega

theorem Wd_dvd : ∀ m n : Fin 33, n.val ≤ m.val → Wd (n.val : Int) % Wd (m.val : Int) = 0 := by decide +kernel
theorem Wd_dv {m n : Int} (hm : bo m) (hn : bo n) (h : n ≤ m) : Wd m ∣ Wd n := by
  obtain ⟨a0, a1⟩ := hm
  obtain ⟨b0, b1⟩ := hn
  have := Wd_dvd ⟨m.toNat, by omega⟩ ⟨n.toNat, by omega⟩ (by show n.toNat ≤ m.toNat; omega)
  simp only [Int.toNat_of_nonneg a0, Int.toNat_of_nonneg b0] at this
  exact Int.dvd_of_emod_eq_zero this

/-- Multiples that are less are less by one at least. -/
theorem mul_step {A u v : Int} (hA : 0 < A) (hu : A ∣ u) (hv : A ∣ v) (h : u < v) : u + A ≤ v := by
  obtain ⟨p, rfl⟩ := hu
  obtain ⟨q, rfl⟩ := hv
  have : p < q := Int.lt_of_mul_lt_mul_left h (by omega)
  have : A * (p + 1) ≤ A * q := Int.mul_le_mul_of_nonneg_left (by omega) (by omega)
  rw [Int.mul_add] at this
  omega

theorem nest_ge {x y : Int × Int} (hx : BlkOK x) (hy : BlkOK y) (h : y.2 ≤ x.2) :
    (y.1 ≤ x.1 ∧ x.1 < y.1 + Wd y.2 ↔ y.1 ≤ x.1 ∧ x.1 + Wd x.2 ≤ y.1 + Wd y.2) ∧ (y.1 ≤ x.1 ∧ x.1 < y.1 + Wd y.2 ↔ x.1 < y.1 + Wd y.2 ∧ y.1 < x.1 + Wd x.2) := by
  have dv := Wd_dv (rB_bo hx.r).1 (rB_bo hy.r).1 h
  have dx := Int.dvd_of_emod_eq_zero hx.d
  have dy := Int.dvd_trans dv (Int.dvd_of_emod_eq_zero hy.d)
  have dyb := Int.dvd_add dy dv
  have h1 := hx.w.1
  refine ⟨⟨fun ⟨a, b⟩ => ⟨a, mul_step (by omega) dx dyb b⟩, fun ⟨a, b⟩ => ⟨a, by omega⟩⟩, ⟨fun ⟨a, b⟩ => ⟨b, by omega⟩, fun ⟨a, b⟩ => ⟨?_, a⟩⟩⟩
  have := mul_step (by omega) dy (Int.dvd_add dx (Int.dvd_refl _)) b
  omega

theorem wi_ge {x y : Int × Int} (hx : BlkOK x) (hy : BlkOK y) (h : y.2 ≤ x.2) : wiB x y = (decide (y.1 ≤ x.1) && decide (x.1 < y.1 + Wd y.2)) := by
  unfold wiB
  rw [hx.r, hy.r, decide_eq_true (show x.2 ≥ y.2 from h)]
  apply Bool.eq_iff_iff.2
  simp only [Bool.and_eq_true, beq_iff_eq, decide_eq_true_eq, true_and]
  exact has_iff (by have := hy.w.1; omega) hy.d
theorem wi_lt {x y : Int × Int} (h : x.2 < y.2) : wiB x y = false := by
  unfold wiB
  rw [decide_eq_false (show ¬ x.2 ≥ y.2 from by omega)]; simp

theorem Wd_lt {m n : Int} (hm : bo m) (hn : bo n) (h : n < m) : Wd m < Wd n := by
  have bm := Wd_bd hm
  have hm' := hm
  have hn' := hn
  unfold bo at hm' hn'
  have e : Wd (m - 1) = 2 * Wd m := by
    rcases bm.2.2.1 with h' | h'
    · omega
    · exact h'
  have d := Wd_dv (m := m - 1) (n := n) (by unfold bo; omega) hn (by omega)
  have := Int.le_of_dvd (by have := (Wd_bd hn).1; omega) d
  omega

theorem nest {x y : Int × Int} (hx : BlkOK x) (hy : BlkOK y) : wiB x y = (decide (y.1 ≤ x.1) && decide (x.1 + Wd x.2 ≤ y.1 + Wd y.2)) := by
  by_cases h : y.2 ≤ x.2
  · rw [wi_ge hx hy h]
    apply Bool.eq_iff_iff.2
    simp only [Bool.and_eq_true, decide_eq_true_eq]
    exact (nest_ge hx hy h).1
  · rw [wi_lt (by omega)]
    have := Wd_lt (rB_bo hy.r).1 (rB_bo hx.r).1 (show x.2 < y.2 by omega)
    symm
    rw [Bool.and_eq_false_iff, decide_eq_false_iff_not, decide_eq_false_iff_not]
    omega
theorem lap {x y : Int × Int} (hx : BlkOK x) (hy : BlkOK y) : (wiB x y || wiB y x) = (decide (x.1 < y.1 + Wd y.2) && decide (y.1 < x.1 + Wd x.2)) := by
  apply Bool.eq_iff_iff.2
  simp only [Bool.or_eq_true, Bool.and_eq_true, decide_eq_true_eq]
  have key : ∀ {x y : Int × Int}, BlkOK x → BlkOK y → y.2 ≤ x.2 → (wiB x y = true ↔ x.1 < y.1 + Wd y.2 ∧ y.1 < x.1 + Wd x.2) := by
    intro x y hx hy h
    rw [wi_ge hx hy h]
    simp only [Bool.and_eq_true, decide_eq_true_eq]
    exact (nest_ge hx hy h).2
  rcases Int.lt_or_le x.2 y.2 with h | h
  · rw [wi_lt h, key hy hx (by omega)]
    simp only [Bool.false_eq_true, false_or]
    exact And.comm
  · rw [key hx hy h]
    constructor
    · rintro (h1 | h1)
      · exact h1
      · by_cases h2 : x.2 ≤ y.2
        · have := (key hy hx h2).1 h1; exact ⟨this.2, this.1⟩
        · rw [wi_lt (by omega)] at h1; simp at h1
    · exact .inl

theorem shl64 {k : IntKind} (hk : k = .i64 ∨ k = .u64) {n : Int} (h : bo n) : shlI k 1 (32 - n) = Wd n := by
  obtain ⟨j, hj, e0, e⟩ := Wd_nat h
  rw [show (32 : Int) - n = (j : Int) from by omega, e]
  have k1 : ∀ j : Fin 33, IntKind.i64.wrap (1 * 2 ^ j.val) = 2 ^ j.val := by decide
  have k2 : ∀ j : Fin 33, IntKind.u64.wrap (1 * 2 ^ j.val) = 2 ^ j.val := by decide
  rcases hk with rfl | rfl
  · rw [shl_eq (k := .i64) j (by show j ≤ 64; omega)]; exact k1 ⟨j, by omega⟩
  · rw [shl_eq (k := .u64) j (by show j ≤ 64; omega)]; exact k2 ⟨j, by omega⟩

theorem bxor_in {a c : Int} : in32 (IntKind.u32.wrap (bxorI .u32 a c)) := by
  rw [u32_wrap]; exact ⟨by omega, by omega⟩

theorem addrWithin_law {a bits c more : Int} (ha : in32 a) (hb : 0 ≤ bits) (hc : in32 c) (hm : 0 ≤ more) : terrierlaw01_AddrWithin a bits c more = some (true, ()) := by
  have r1 : ∀ b : Int × Int, ((b.1, b.2) : Int × Int) = b := fun b => rfl
  unfold terrierlaw01_AddrWithin
  rw [awakeA_eq, Block_eq ha hb, Block_eq hc hm]
  have hx := bB_ok ha hb
  generalize bB a bits = x at hx
  have n1 := hx.n
  have i1 := hx.i
  have w1 := hx.w
  have t1 := hx.t
  obtain ⟨i10, i11⟩ := i1
  simp only [bnd_val, Bool.not_true, cnd_false, ltO_def, r1]
  rw [w64 (n := 32 - x.2) (by omega) (by omega), wu64 (n := x.1) (by omega) (by omega), shl64 (.inr rfl) (rB_bo hx.r).1, wu64 (n := x.1 + Wd x.2) (by omega) (by omega)]
  have go : ∀ y : Int × Int, BlkOK y → wiB x y = (decide (y.1 ≤ x.1) && decide (x.1 + Wd x.2 ≤ y.1 + Wd y.2)) ∧ wiB y x = (decide (x.1 ≤ y.1) && decide (y.1 + Wd y.2 ≤ x.1 + Wd x.2)) ∧
      (wiB x y || wiB y x) = (decide (x.1 < y.1 + Wd y.2) && decide (y.1 < x.1 + Wd x.2)) := fun y hy => ⟨nest hx hy, nest hy hx, lap hx hy⟩
  cases hbig : decide (bits > 128) with
  | true =>
    simp only [cnd_true]
    rw [chk_pos (by decide), Block_eq (bxor_in (a := a) (c := c.tmod 64)) hm]
    have hy := bB_ok (bxor_in (a := a) (c := c.tmod 64)) hm
    generalize bB (IntKind.u32.wrap (bxorI IntKind.u32 a (c.tmod 64))) more = y at hy
    have n2 := hy.n
    have i2 := hy.i
    have w2 := hy.w
    have t2 := hy.t
    obtain ⟨i20, i21⟩ := i2
    simp only [bnd_val]
    rw [w64 (n := 32 - y.2) (by omega) (by omega), wu64 (n := y.1) (by omega) (by omega), shl64 (.inr rfl) (rB_bo hy.r).1, wu64 (n := y.1 + Wd y.2) (by omega) (by omega), Within_eq hx.i hy.i, Within_eq hy.i hx.i, Overlap_eq hx.i hy.i]
    obtain ⟨g1, g2, g3⟩ := go y hy
    rw [chk_pos (by omega), chk_pos (by omega)]
    simp only [bnd_val, bndG_val, chk_same, chk_nn, chk_and, chk_an']
    rw [← g1, ← g2, ← g3]
    simp
  | false =>
    simp only [cnd_false]
    have hy := bB_ok hc hm
    generalize bB c more = y at hy
    have n2 := hy.n
    have i2 := hy.i
    have w2 := hy.w
    have t2 := hy.t
    obtain ⟨i20, i21⟩ := i2
    rw [w64 (n := 32 - y.2) (by omega) (by omega), wu64 (n := y.1) (by omega) (by omega), shl64 (.inr rfl) (rB_bo hy.r).1, wu64 (n := y.1 + Wd y.2) (by omega) (by omega), Within_eq hx.i hy.i, Within_eq hy.i hx.i, Overlap_eq hx.i hy.i]
    obtain ⟨g1, g2, g3⟩ := go y hy
    rw [chk_pos (by omega), chk_pos (by omega)]
    simp only [bnd_val, bndG_val, chk_same, chk_nn, chk_and, chk_an']
    rw [← g1, ← g2, ← g3]
    simp

theorem addrHas_law {a bits c : Int} (ha : in32 a) (hb : 0 ≤ bits) (hc : in32 c) (near : Bool) : terrierlaw01_AddrHas a bits c near = some (true, ()) := by
  have r1 : ∀ b : Int × Int, ((b.1, b.2) : Int × Int) = b := fun b => rfl
  unfold terrierlaw01_AddrHas
  rw [awakeA_eq, Block_eq ha hb]
  have hx := bB_ok ha hb
  generalize bB a bits = b at hx
  have n1 := hx.n
  have i1 := hx.i
  have w1 := hx.w
  have t1 := hx.t
  obtain ⟨i10, i11⟩ := i1
  have hs : szB b = Wd b.2 := by unfold szB; rw [if_pos hx.r]
  simp only [bnd_val, Bool.not_true, cnd_false, ltO_def, r1]
  rw [w64 (n := 32 - b.2) (by omega) (by omega), wu64 (n := b.1) (by omega) (by omega), w64 (n := b.1) (by omega) (by omega), shl64 (.inl rfl) (rB_bo hx.r).1, wu64 (n := Wd b.2) (by omega) (by omega), wu64 (n := b.1 + Wd b.2) (by omega) (by omega), Size_eq hx.i, hs]
  have go : ∀ x, in32 x → (rB b && (x - x % Wd b.2 == b.1)) = (decide (x ≥ b.1) && decide (x < b.1 + Wd b.2)) := by
    intro x h
    rw [hx.r, Bool.true_and]
    apply Bool.eq_iff_iff.2
    simp only [beq_iff_eq, Bool.and_eq_true, decide_eq_true_eq]
    exact has_iff (by omega) hx.d
  have fin : ∀ x, in32 x → ∀ (q : Bool), q = (decide (x ≥ b.1) && decide (x < b.1 + Wd b.2)) → (if 0 ≤ x - b.1 ∧ x - b.1 < szB b then (b.1 + (x - b.1), true, ()) else ((0 : Int), false, ())) = if q = true then (x, true, ()) else (0, false, ()) := by
    intro x h q hq
    by_cases hh : 0 ≤ x - b.1 ∧ x - b.1 < szB b
    · rw [if_pos hh, if_pos]
      · congr 1; omega
      · rw [hq, hs] at *; simp only [Bool.and_eq_true, decide_eq_true_eq]; omega
    · rw [if_neg hh, if_neg]
      rw [hq, hs] at *; simp only [Bool.and_eq_true, decide_eq_true_eq]; omega
  cases near with
  | true =>
    simp only [cnd_true]
    have h8 : 0 ≤ c.tmod 8192 := Int.tmod_nonneg _ hc.1
    generalize hxx : IntKind.u32.wrap (b.1 + c.tmod 8192) = x
    have ix : in32 x := by rw [← hxx, u32_wrap]; exact ⟨by omega, by omega⟩
    obtain ⟨ix0, ix1⟩ := ix
    rw [chk_pos (by decide), chk_pos (by omega), wu64 (n := x) (by omega) (by omega), w64 (n := x) (by omega) (by omega), w64 (n := x - b.1) (by omega) (by omega), At_eq hx.i, Has_eq hx.i ⟨ix0, ix1⟩, go x ⟨ix0, ix1⟩]
    rw [fin x ⟨ix0, ix1⟩ _ rfl]
    generalize (decide (x ≥ b.1) && decide (x < b.1 + Wd b.2)) = q
    simp only [bnd_val, bndG_val, chk_same, chk_nn, chk_and, chk_an']
    cases q <;> simp
  | false =>
    simp only [cnd_false]
    obtain ⟨ix0, ix1⟩ := hc
    rw [chk_pos (by omega), wu64 (n := c) (by omega) (by omega), w64 (n := c) (by omega) (by omega), w64 (n := c - b.1) (by omega) (by omega), At_eq hx.i, Has_eq hx.i ⟨ix0, ix1⟩, go c ⟨ix0, ix1⟩]
    rw [fin c ⟨ix0, ix1⟩ _ rfl]
    generalize (decide (c ≥ b.1) && decide (c < b.1 + Wd b.2)) = q
    simp only [bnd_val, bndG_val, chk_same, chk_nn, chk_and, chk_an']
    cases q <;> simp

end Go.Tr
