/- States that are the same; ticks where nothing is known. Conditions: none but the rows' bounds. -/
import Derived.Test.YtklmhllelgjglaaGreatOpsKc
namespace Go.Tr
open Go
set_option linter.unusedVariables false
set_option linter.unusedSimpArgs false
set_option maxRecDepth 100000
set_option maxHeartbeats 4000000
theorem same0_self (s : TState) (hl : s.2.2.1.length ≤ 1000000) : terrierlaw18_Same_l0 (true, (s.2.2.1.length : Int), 0, s, s, ()) = some (.inl (true, s, s, ())) := by
  unfold terrierlaw18_Same_l0
  refine (loopM_steps (n := s.2.2.1.length) (fun k : Nat => (true, (s.2.2.1.length : Int), (k : Int), s, s, ())) (Nat.zero_le _) fun k _ hk => ?_).trans ?_
  · show terrierlaw18_Same_b0 true (s.2.2.1.length : Int) (k : Int) s s = _
    unfold terrierlaw18_Same_b0
    have hc : True → 0 ≤ (k : Int) ∧ (k : Int) < (s.2.2.1.length : Int) := fun _ => by omega
    rw [decide_eq_true (by omega), cnd_true]
    simp only [ltO_def, chk_same, chk_pos hc, beq_self_eq_true, Bool.and_self]
    rw [w64 (by omega) (by omega)]; rfl
  · refine loopM_last ?_
    show terrierlaw18_Same_b0 true (s.2.2.1.length : Int) (s.2.2.1.length : Int) s s = _
    unfold terrierlaw18_Same_b0
    rw [decide_eq_false (by omega)]; rfl
theorem same1_self (s : TState) (hl : s.2.2.2.1.length ≤ 1000000) : terrierlaw18_Same_l1 (true, (s.2.2.2.1.length : Int), 0, s, s, ()) = some (.inl (true, s, s, ())) := by
  unfold terrierlaw18_Same_l1
  refine (loopM_steps (n := s.2.2.2.1.length) (fun k : Nat => (true, (s.2.2.2.1.length : Int), (k : Int), s, s, ())) (Nat.zero_le _) fun k _ hk => ?_).trans ?_
  · show terrierlaw18_Same_b1 true (s.2.2.2.1.length : Int) (k : Int) s s = _
    unfold terrierlaw18_Same_b1
    have hc : True → 0 ≤ (k : Int) ∧ (k : Int) < (s.2.2.2.1.length : Int) := fun _ => by omega
    rw [decide_eq_true (by omega), cnd_true]
    simp only [ltO_def, chk_same, chk_pos hc, beq_self_eq_true, Bool.and_self]
    rw [w64 (by omega) (by omega)]; rfl
  · refine loopM_last ?_
    show terrierlaw18_Same_b1 true (s.2.2.2.1.length : Int) (s.2.2.2.1.length : Int) s s = _
    unfold terrierlaw18_Same_b1
    rw [decide_eq_false (by omega)]; rfl
theorem same2_self (s : TState) (hl : s.2.2.2.2.2.1.length ≤ 1000000) : terrierlaw18_Same_l2 (true, (s.2.2.2.2.2.1.length : Int), 0, s, s, ()) = some (.inl (true, s, s, ())) := by
  unfold terrierlaw18_Same_l2
  refine (loopM_steps (n := s.2.2.2.2.2.1.length) (fun k : Nat => (true, (s.2.2.2.2.2.1.length : Int), (k : Int), s, s, ())) (Nat.zero_le _) fun k _ hk => ?_).trans ?_
  · show terrierlaw18_Same_b2 true (s.2.2.2.2.2.1.length : Int) (k : Int) s s = _
    unfold terrierlaw18_Same_b2
    have hc : True → 0 ≤ (k : Int) ∧ (k : Int) < (s.2.2.2.2.2.1.length : Int) := fun _ => by omega
    rw [decide_eq_true (by omega), cnd_true]
    simp only [ltO_def, chk_same, chk_pos hc, beq_self_eq_true, Bool.and_self]
    rw [w64 (by omega) (by omega)]; rfl
  · refine loopM_last ?_
    show terrierlaw18_Same_b2 true (s.2.2.2.2.2.1.length : Int) (s.2.2.2.2.2.1.length : Int) s s = _
    unfold terrierlaw18_Same_b2
    rw [decide_eq_false (by omega)]; rfl
theorem same3_self (s : TState) (hl : s.2.2.2.2.2.2.length ≤ 1000000) : terrierlaw18_Same_l3 (true, (s.2.2.2.2.2.2.length : Int), 0, s, s, ()) = some (.inl (true, s, s, ())) := by
  unfold terrierlaw18_Same_l3
  refine (loopM_steps (n := s.2.2.2.2.2.2.length) (fun k : Nat => (true, (s.2.2.2.2.2.2.length : Int), (k : Int), s, s, ())) (Nat.zero_le _) fun k _ hk => ?_).trans ?_
  · show terrierlaw18_Same_b3 true (s.2.2.2.2.2.2.length : Int) (k : Int) s s = _
    unfold terrierlaw18_Same_b3
    have hc : True → 0 ≤ (k : Int) ∧ (k : Int) < (s.2.2.2.2.2.2.length : Int) := fun _ => by omega
    rw [decide_eq_true (by omega), cnd_true]
    simp only [ltO_def, chk_same, chk_pos hc, beq_self_eq_true, Bool.and_self]
    rw [w64 (by omega) (by omega)]; rfl
  · refine loopM_last ?_
    show terrierlaw18_Same_b3 true (s.2.2.2.2.2.2.length : Int) (s.2.2.2.2.2.2.length : Int) s s = _
    unfold terrierlaw18_Same_b3
    rw [decide_eq_false (by omega)]; rfl
theorem same5_self (s : TState) (k : Nat) (hk : k < s.2.2.2.2.1.length) (hs : (s.2.2.2.2.1[k]).2.length ≤ 1000000) (t155 t156 : Int) : terrierlaw18_Same_l5 (true, (k : Int), 0, t155, t156, s, s, ()) = some (.inl (true, t155, t156, s, s, ())) := by
  have hc : True → 0 ≤ (k : Int) ∧ (k : Int) < (s.2.2.2.2.1.length : Int) := fun _ => by omega
  have hc2 : 0 ≤ (k : Int) ∧ (k : Int) < (s.2.2.2.2.1.length : Int) := by omega
  unfold terrierlaw18_Same_l5
  refine (loopM_steps (n := (s.2.2.2.2.1[k]).2.length) (fun i : Nat => (true, (k : Int), (i : Int), t155, t156, s, s, ())) (Nat.zero_le _) fun i _ hi => ?_).trans ?_
  · show terrierlaw18_Same_b5 true (k : Int) (i : Int) t155 t156 s s = _
    unfold terrierlaw18_Same_b5
    have hi2 : 0 ≤ (i : Int) ∧ (i : Int) < ((s.2.2.2.2.1[k]).2.length : Int) := by omega
    simp only [ltO_def, chk_same, chk_pos hc, chk_pos hc2, recD, getD_toNat, getD_hit s.2.2.2.2.1 k _ hk, Bool.true_and, beq_self_eq_true, chk_pos hi2]
    rw [decide_eq_true (by omega), cnd_true, w64 (by omega) (by omega)]; rfl
  · refine loopM_last ?_
    show terrierlaw18_Same_b5 true (k : Int) ((s.2.2.2.2.1[k]).2.length : Int) t155 t156 s s = _
    unfold terrierlaw18_Same_b5
    simp only [ltO_def, chk_same, chk_pos hc, recD, getD_toNat, getD_hit s.2.2.2.2.1 k _ hk, Bool.true_and]
    rw [decide_eq_false (by omega)]; rfl
theorem same4_self (s : TState) (hl : s.2.2.2.2.1.length ≤ 1000000) (hs : ∀ x ∈ s.2.2.2.2.1, x.2.length ≤ 1000000) : terrierlaw18_Same_l4 (true, (s.2.2.2.2.1.length : Int), 0, s, s, ()) = some (.inl (true, ())) := by
  unfold terrierlaw18_Same_l4
  refine (loopM_steps (n := s.2.2.2.2.1.length) (fun k : Nat => (true, (s.2.2.2.2.1.length : Int), (k : Int), s, s, ())) (Nat.zero_le _) fun k _ hk => ?_).trans ?_
  · show terrierlaw18_Same_b4 true (s.2.2.2.2.1.length : Int) (k : Int) s s = _
    unfold terrierlaw18_Same_b4
    have hc : True → 0 ≤ (k : Int) ∧ (k : Int) < (s.2.2.2.2.1.length : Int) := fun _ => by omega
    rw [decide_eq_true (by omega), cnd_true]
    simp only [ltO_def, chk_same, chk_pos hc, beq_self_eq_true, Bool.and_self]
    rw [same5_self s k hk (hs _ (List.getElem_mem hk)), bnd_val, sumO_inl]
    simp only
    rw [w64 (by omega) (by omega)]; rfl
  · refine loopM_last ?_
    show terrierlaw18_Same_b4 true (s.2.2.2.2.1.length : Int) (s.2.2.2.2.1.length : Int) s s = _
    unfold terrierlaw18_Same_b4
    rw [decide_eq_false (by omega)]; rfl
theorem same_st {s : TState} (h : StR s) : terrierlaw18_Same s s = some (true, ()) := by
  unfold terrierlaw18_Same
  have h1 := h.hl
  have h2 := h.sw.len
  have h3 := h.kl
  have h4 := h.pr.le
  have h5 := h.cr.le
  simp only [ltO_def, chk_same, chk_nn, bne_self_eq_false, Bool.or_self, cnd_false]
  rw [same0_self s (by omega), bnd_val, sumO_inl, same1_self s (by omega), bnd_val, sumO_inl, same2_self s (by omega), bnd_val, sumO_inl, same3_self s (by omega), bnd_val, sumO_inl, same4_self s (by omega) h.ksl, bnd_val, sumO_inl]
end Go.Tr
