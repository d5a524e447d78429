/- The laws of addresses: halves. Conditions: none but the numbers' bounds. -/
import Derived.Test.YtfibdndnfaihdaaDoorAddrL7
namespace Go.Tr
open Go
set_option linter.unusedVariables false
set_option linter.unusedSimpArgs false
set_option maxRecDepth 100000
set_option maxHeartbeats 1000000

theorem shl32 {n : Int} (h : 20 ≤ n ∧ n ≤ 32) : shlI .u32 1 (32 - n) = Wd n := by
  obtain ⟨j, hj, e0, e⟩ := Wd_nat (n := n) (by unfold bo; omega)
  rw [show (32 : Int) - n = (j : Int) from by omega, e, shl_eq (k := .u32) j hj]
  have k1 : ∀ j : Fin 13, IntKind.u32.wrap (1 * 2 ^ j.val) = 2 ^ j.val := by decide
  exact k1 ⟨j, by omega⟩
theorem shr32 {a n : Int} (h : 20 ≤ n ∧ n ≤ 32) : shrI .u32 a (32 - n) = a / Wd n := by
  obtain ⟨j, hj, e0, e⟩ := Wd_nat (n := n) (by unfold bo; omega)
  rw [show (32 : Int) - n = (j : Int) from by omega, e, shr_eq (k := .u32) j hj]

theorem blk_half {b : Int × Int} (h : BlkOK b) (h2 : b.2 ≠ 32) : haB b = ((b.1, b.2 + 1), (b.1 + Wd (b.2 + 1), b.2 + 1), true, ()) ∧ BlkOK (b.1, b.2 + 1) ∧ BlkOK (b.1 + Wd (b.2 + 1), b.2 + 1) ∧ Wd b.2 = 2 * Wd (b.2 + 1) := by
  have e : haB b = ((b.1, b.2 + 1), (b.1 + Wd (b.2 + 1), b.2 + 1), true, ()) := by unfold haB; rw [if_pos ⟨h.r, h2⟩]
  obtain ⟨r1, r2, _⟩ := ha_rB e
  obtain ⟨k1, k2⟩ := Wd_half (rB_bo h.r).1 h2
  have hn := h.n
  have hw := h.w
  have ht := h.t
  have hi := h.i
  obtain ⟨i0, i1⟩ := hi
  have bd := Wd_bd k1
  refine ⟨e, ⟨r1, ⟨i0, i1⟩, ?_, ?_, (rB_bo r1).2, ?_⟩, ⟨r2, ⟨?_, ?_⟩, ?_, ?_, (rB_bo r2).2, ?_⟩, k2⟩ <;> simp only <;> omega

/-- Whole, of prefixes of 20 to 32 bits. -/
theorem whole_ways {p q : Int × Int} (hp : BlkOK p) (hq : BlkOK q) : ∃ (w : Int × Int) (is : Bool), addr_Whole p q = some (w, is, ()) ∧ in32 w.1 ∧
    ((is = true ∧ haB w = (p, q, true, ())) ∨ (is = false ∧ w = (0, 0) ∧ (p.2 != q.2 || q.1 != IntKind.u32.wrap (p.1 + Wd p.2) || (p.1 / Wd p.2).tmod 2 == 1) = true)) := by
  have hn := hp.n
  have hi := hp.i
  obtain ⟨i0, i1⟩ := hi
  rw [Whole_eq hp.i]
  have hb1 : bo (p.2 - 1) := by unfold bo; omega
  by_cases h : rB p = true ∧ p.2 ≠ 0 ∧ haB (p.1 - p.1 % Wd (p.2 - 1), p.2 - 1) = (p, q, true, ())
  · rw [if_pos h]
    exact ⟨_, _, rfl, (mk_ok hp.i hb1).1, .inl ⟨rfl, h.2.2⟩⟩
  · rw [if_neg h]
    refine ⟨_, _, rfl, ⟨by decide, by decide⟩, .inr ⟨rfl, rfl, ?_⟩⟩
    refine Classical.byContradiction fun hc => h ⟨hp.r, by omega, ?_⟩
    simp only [Bool.or_eq_true, not_or, bne_iff_ne, ne_eq, Classical.not_not, beq_iff_eq] at hc
    obtain ⟨⟨c1, c2⟩, c3⟩ := hc
    have hw := hp.w
    have e2 : Wd (p.2 - 1) = 2 * Wd p.2 := by
      rcases (Wd_bd (rB_bo hp.r).1).2.2.1 with h' | h'
      · omega
      · exact h'
    have q0 : 0 ≤ p.1 / Wd p.2 := Int.ediv_nonneg i0 (by omega)
    rw [Int.tmod_eq_emod_of_nonneg q0] at c3
    have ev : (p.1 / Wd p.2) % 2 = 0 := by omega
    have md := Int.mul_ediv_add_emod p.1 (Wd p.2)
    rw [hp.d] at md
    obtain ⟨t, ht⟩ := Int.dvd_of_emod_eq_zero ev
    have ep : p.1 = (2 * Wd p.2) * t := by
      rw [ht] at md
      rw [← md, Int.add_zero, ← Int.mul_assoc, Int.mul_comm (Wd p.2) 2]
    have d2 : p.1 % Wd (p.2 - 1) = 0 := by rw [e2, ep]; exact Int.mul_emod_right _ _
    have ro : rB (p.1, p.2 - 1) = true := by
      unfold rB; rw [Bool.and_eq_true, decide_eq_true_eq, beq_iff_eq]; exact ⟨hb1, d2⟩
    have sz := szB_le (b := (p.1, p.2 - 1)) hp.i
    unfold szB at sz
    rw [if_pos ro] at sz
    simp only at sz
    rw [e2] at sz
    rw [wu32 (by omega) (by omega)] at c2
    have e5 : p.1 - p.1 % Wd (p.2 - 1) = p.1 := by omega
    rw [e5]
    unfold haB
    rw [if_pos ⟨ro, by show p.2 - 1 ≠ 32; omega⟩]
    obtain ⟨p1, p2⟩ := p
    obtain ⟨q1, q2⟩ := q
    simp only at *
    have e3 : p2 - 1 + 1 = p2 := by omega
    rw [e3, ← c1, c2]

theorem addrHalves_law {a bits c more : Int} (ha : in32 a) (hb : 0 ≤ bits) (hc : in32 c) (hm : 0 ≤ more) : terrierlaw01_AddrHalves a bits c more = some (true, ()) := by
  have r1 : ∀ b : Int × Int, ((b.1, b.2) : Int × Int) = b := fun b => rfl
  unfold terrierlaw01_AddrHalves
  rw [awakeA_eq, Block_eq ha hb, Block_eq hc hm]
  have hp := bB_ok ha hb
  have hq := bB_ok hc hm
  generalize bB a bits = p at hp
  generalize bB c more = q at hq
  have hn := hp.n
  have hi := hp.i
  have hw := hp.w
  obtain ⟨i0, i1⟩ := hi
  simp only [bnd_val, Bool.not_true, cnd_false, ltO_def, r1]
  rw [Halves_eq hp.i, w64 (n := 32 - p.2) (by omega) (by omega), shl32 hn, shr32 hn]
  obtain ⟨w, is, e1, iw, hww⟩ := whole_ways hp hq
  rw [e1]
  simp only [bnd_val, r1]
  rw [Halves_eq iw]
  have tail : ∀ {X : Type} (k : Option X), chk (0 ≤ 32 - p.2) k = k := fun k => chk_pos (by omega) k
  by_cases h32 : p.2 = 32
  · have eh : haB p = ((0, 0), (0, 0), false, ()) := by unfold haB; rw [if_neg (by rw [h32]; simp)]
    rw [eh, decide_eq_false (show ¬ p.2 < 32 by omega)]
    simp only [bnd_val]
    rcases hww with ⟨rfl, g⟩ | ⟨rfl, rfl, g⟩
    · rw [g]
      simp only [bnd_val, chk_same, chk_nn, chk_and, chk_an']
      simp
    · simp only [bnd_val, chk_same, chk_nn, chk_and, chk_an']
      simp only [Bool.or_assoc] at g
      simp [g]
      rw [chk_pos (by intro _; omega), chk_pos (by intro _ _; omega)]
      simpa [Bool.or_assoc] using g
  · obtain ⟨eh, bx, by', e2⟩ := blk_half hp h32
    have wx : addr_Whole (p.1, p.2 + 1) (p.1 + Wd (p.2 + 1), p.2 + 1) = some (p, true, ()) := by
      rw [Whole_eq bx.i]
      have e5 : (p.2 + 1 - 1) = p.2 := by omega
      have e6 : p.1 - p.1 % Wd p.2 = p.1 := by rw [hp.d]; omega
      simp only [e5, e6, r1]
      rw [if_pos ⟨bx.r, by omega, eh⟩]
    have wy : addr_Whole (p.1 + Wd (p.2 + 1), p.2 + 1) (p.1, p.2 + 1) = some ((0, 0), false, ()) := by
      rw [Whole_eq by'.i, if_neg]
      rintro ⟨_, _, h⟩
      have := (ha_rB h).2.2.1
      have h4 := (ha_rB h).2.2.2.1
      have h5 := bx.w
      have e9 : p.2 + 1 - 1 + 1 = p.2 + 1 := by omega
      simp only at this h4 h5
      rw [e9] at h4
      omega
    have ov : addr_Overlap (p.1, p.2 + 1) (p.1 + Wd (p.2 + 1), p.2 + 1) = some (false, ()) := by
      rw [Overlap_eq bx.i by'.i, lap bx by']
      simp
    have sx : addr_Size (p.1, p.2 + 1) = some (Wd (p.2 + 1), ()) := by rw [Size_eq bx.i]; unfold szB; rw [if_pos bx.r]
    have sy : addr_Size (p.1 + Wd (p.2 + 1), p.2 + 1) = some (Wd (p.2 + 1), ()) := by rw [Size_eq by'.i]; unfold szB; rw [if_pos by'.r]
    have sp : addr_Size p = some (Wd p.2, ()) := by rw [Size_eq hp.i]; unfold szB; rw [if_pos hp.r]
    rw [eh, decide_eq_true (show p.2 < 32 by omega), w64 (n := p.2 + 1) (by omega) (by omega)]
    simp only [bnd_val, r1]
    rw [wx, wy, ov, sx, sy, sp]
    simp only [bnd_val, bndG_val]
    have h5 := bx.w
    simp only at h5
    rw [w64 (n := Wd (p.2 + 1) + Wd (p.2 + 1)) (by omega) (by omega)]
    have e7 : (Wd (p.2 + 1) + Wd (p.2 + 1) != Wd p.2) = false := by
      rw [bne_eq_false_iff_eq]; omega
    rw [e7]
    rcases hww with ⟨rfl, g⟩ | ⟨rfl, rfl, g⟩
    · rw [g]
      simp only [bnd_val, chk_same, chk_nn, chk_and, chk_an']
      simp
    · simp only [bnd_val, chk_same, chk_nn, chk_and, chk_an']
      simp only [Bool.or_assoc] at g
      simp [g]
      rw [chk_pos (by intro _; omega), chk_pos (by intro _ _; omega)]
      simpa [Bool.or_assoc] using g

end Go.Tr
