/- States behind acts: their bytes, and what is read of bytes. Conditions: none but the rows' bounds. -/
import Derived.Test.YtklmhllelgjglaaGreatCodecN2
import Derived.Test.YtklmhllelgjglaaGreatCodecR
import Derived.Test.YtklmhllelgjglaaGreatCodecRd
import Derived.Test.YtklmhllelgjglaaGreatOpsWs
import Derived.Test.YtklmhllelgjglaaGreatSameL
import Derived.Test.YtklmhllelgjglaaGreatCodec3D
namespace Go.Tr
open Go
set_option linter.unusedVariables false
set_option linter.unusedSimpArgs false
set_option maxRecDepth 100000
set_option maxHeartbeats 4000000
theorem right_ok {t : TState} (hw : StWf t) (hr : rightS t = true) : StOk t := by
  unfold rightS heldS sweepsS knownS probesS casesS at hr
  simp only [Bool.and_eq_true, decide_eq_true_eq] at hr
  obtain ⟨n0, n1, q0, q1, rh, rw', rk, rp, rc⟩ := hr
  refine ⟨fun x hx => ⟨(hw.h x hx).1, ?_, (hw.h x hx).2.2⟩, by have := rh.2; omega, hw.w, by have := rw'.2; omega, fun x hx => ⟨(hw.k x hx).1, ?_, (hw.k x hx).2⟩, by have := rk.2; omega, hw.p, by have := rp.2; omega, hw.c, by have := rc.2; omega⟩
  · obtain ⟨i, hi, rfl, hp⟩ := all_get rh.1 hx
    unfold heldP mayS at hp
    rw [getD_at hi] at hp
    simp only [Bool.and_eq_true, decide_eq_true_eq] at hp
    have := hp.1.2.2
    omega
  · obtain ⟨i, hi, hxi, hp⟩ := all_get rk.1 hx
    unfold knownP at hp
    rw [getD_at hi, hxi] at hp
    simp only [Bool.and_eq_true, decide_eq_true_eq] at hp
    have := hp.2.2.1
    omega
theorem rdSt_no {b : List Int} (h : (rdSt b).2 = false) : (rdSt b).1 = ((0, 0, [], [], [], [], []) : TState) := by
  unfold rdSt at h ⊢
  split at h
  · simp at h
  · rename_i hc; rw [if_neg hc]
theorem turnOne {all : List (List Int)} (hl : all.length ≤ 100000) (hall : ∀ x ∈ all, by8s x) : terrierlaw19_CodecTurned_l0 ((all.length : Int), 0, all, ()) = some (.inl ()) := by
  unfold terrierlaw19_CodecTurned_l0
  refine (loopM_steps (n := all.length) (fun k : Nat => ((all.length : Int), (k : Int), all, ())) (Nat.zero_le _) fun k _ hk => ?_).trans ?_
  · show terrierlaw19_CodecTurned_b0 (all.length : Int) (k : Int) all = _
    have h8 := hall _ (List.getElem_mem hk)
    unfold terrierlaw19_CodecTurned_b0
    rw [decide_eq_true (by omega), cnd_true, chk_pos (by omega), chk_pos (by omega)]
    simp only [Int.toNat_natCast, getD_hit all k _ hk, ltO_def, chk_same, chk_and, chk_nn]
    rw [ReadState_eq h8, bnd_val]
    simp only
    rw [w64 (by omega) (by omega)]
    cases hok : (rdSt all[k]).2 with
    | true =>
      obtain ⟨g1, g2, g3⟩ := rdSt_forth h8 hok
      have hwf : StWf (rdSt all[k]).1 := by rw [g3]; exact stR_wf h8
      rw [lState1_eq (right_ok hwf g2), lright_eq hwf, g1, g2]
      simp [chk, bndG_false]
    | false =>
      rw [rdSt_no hok]
      have hz := same_st zSt_R
      unfold zeroS at hz
      rw [hz]
      simp [chk, bndG_false]
  · refine loopM_last ?_
    show terrierlaw19_CodecTurned_b0 (all.length : Int) (all.length : Int) all = _
    unfold terrierlaw19_CodecTurned_b0
    rw [decide_eq_false (by omega)]; rfl
theorem codecTurned_law {x : TCfg} (hx : C9 x) {acts : List TMac} (ha : ∀ a ∈ acts, A6 a) {at' by' : Int} (hat : 0 ≤ at' ∧ at' < 65536) (hby : u8B by') {raw : List Int} (h8 : by8s raw) : terrierlaw19_CodecTurned x acts at' by' raw = some (true, ()) := by
  unfold terrierlaw19_CodecTurned
  rw [awakeC_eq]
  simp only [bnd_val, Bool.not_true, cnd_false]
  obtain ⟨c, h1, hc⟩ := config_R hx
  obtain ⟨s, s1, hs, hw⟩ := some_W hc ha
  rw [h1]
  simp only [bnd_val]
  rw [s1]
  have ok := hs.ok hw
  have hl := hs.blen
  have l1 : 10 ≤ (stB s).length := by
    unfold stB
    simp only [List.length_append, be_len]; omega
  have hb8 := stB_by8 ok
  simp only [bnd_val]
  rw [State_eq ok]
  simp only [bnd_val, ltO_def]
  generalize stB s = B at hl l1 hb8 ⊢
  have hm0 : at' % (B.length : Int) ≥ 0 := Int.emod_nonneg _ (by omega)
  have hm1 : at' % (B.length : Int) < (B.length : Int) := Int.emod_lt_of_pos _ (by omega)
  rw [w64 (n := at') (by omega) (by omega), Int.tmod_eq_emod_of_nonneg hat.1]
  have c1 : room 1 B.length := by show B.length * 1 ≤ _; omega
  have c2 : ¬ ((B.length : Nat) : Int) = 0 := by omega
  have c3 : 0 ≤ at' % (B.length : Int) ∧ at' % (B.length : Int) < (B.length : Int) := ⟨hm0, hm1⟩
  have c4 : (at' % (B.length : Int)).toNat < B.length := by omega
  have c5 : (0 : Int) ≤ 0 ∧ 0 ≤ at' % (B.length : Int) ∧ at' % (B.length : Int) ≤ (B.length : Int) := by omega
  rw [chk_pos c1, chk_pos c2, chk_pos c3, chk_pos c4, chk_pos c3, chk_pos c4, chk_pos c2, chk_pos c5]
  rw [turnOne (by simp) (fun y hy => by
    simp only [List.mem_cons, List.not_mem_nil, or_false] at hy
    rcases hy with rfl | rfl | rfl
    · exact by8s_set hb8 _ (wu8_by8 _)
    · exact h8
    · exact by8s_slice hb8 _ _), bnd_val, sumO_inl]
end Go.Tr
