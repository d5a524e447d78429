/- What holds behind each event: how many packets, how long the rows, that states are right. Conditions: none but the rows' bounds. -/
import Derived.Test.YtedeacbkaidknaaGreatOpsW
namespace Go.Tr
open Go
set_option linter.unusedVariables false
set_option linter.unusedSimpArgs false
set_option maxRecDepth 100000
set_option maxHeartbeats 4000000
theorem right_st {s : TState} (h : StR s) : terrierlaw18_Right s = some (true, ()) := by
  have e := h.rightS
  have h1 := h.hl
  have h2 := h.sw.len
  have h3 := h.kl
  have h4 := h.pr.le
  have h5 := h.cr.le
  unfold terrierlaw18_Right
  rw [held_eq (fun x hx => by
    have := h.hm x hx
    unfold mayS at this
    simp only [Bool.and_eq_true, decide_eq_true_eq] at this
    omega) (by omega), sweeps_eq (fun x hx => (h.sw.all x hx).1) (by omega), known_eq (by omega), probes_eq (fun p hp => (h.pr.ok p hp).1) (by omega), cases_eq (by omega)]
  unfold rightS at e
  simp only [Bool.and_eq_true, decide_eq_true_eq] at e
  obtain ⟨a1, a2, a3, a4, a5, a6, a7, a8, a9⟩ := e
  simp only [bnd_val, bndG_val, ltO_def, chk_same]
  rw [a5, a6, a7, a8, a9, decide_eq_true (show s.1 ≥ 0 from a1), decide_eq_true a2, decide_eq_true (show s.2.1 ≥ 0 from a3), decide_eq_true (show s.2.1 < 65536 by omega)]
  rfl
theorem elseO_hold {s : TState} {e : TEv} (h : (elseO s e).2 ≠ 0) : (elseO s e).1 = s := by
  have lay : ∀ {α : Type} (r : Int × α) (f : α → TState), (layO s r f).2 ≠ 0 → (layO s r f).1 = s := by
    intro α r f hne
    unfold layO at hne ⊢
    split at hne
    · exact absurd rfl hne
    · rename_i h0; rw [if_neg h0]
  have hpu : ∀ (s t : TState) (a : Int) (x : TSight), (putO s t a x).2 ≠ 0 → (putO s t a x).1 = s := fun s t a x hne => by
    unfold putO at hne ⊢
    split at hne
    · exact absurd rfl hne
    · rename_i h0; rw [if_neg h0]
  unfold elseO at h ⊢
  split
  · rename_i h1; rw [if_pos h1] at h; exact lay _ _ h
  · rename_i h1
    rw [if_neg h1] at h
    split
    · rename_i h2
      rw [if_pos h2] at h
      unfold dropO at h ⊢
      split at h
      · exact absurd rfl h
      · rename_i hk; rw [if_neg hk]
    · rename_i h2
      rw [if_neg h2] at h
      split
      · rename_i h3; rw [if_pos h3] at h; exact lay _ _ h
      · rename_i h3
        rw [if_neg h3] at h
        split
        · rename_i h4; rw [if_pos h4] at h; exact lay _ _ h
        · rename_i h4
          rw [if_neg h4] at h
          split
          · rename_i h5
            rw [if_pos h5] at h
            unfold sawO at h ⊢
            split
            · rename_i h6
              rw [if_pos h6] at h
              split
              · rfl
              · rename_i l hl
                rw [hl] at h
                exact hpu _ _ _ _ h
            · rename_i h6
              rw [if_neg h6] at h
              exact hpu _ _ _ _ h
          · rename_i h5
            rw [if_neg h5] at h
            split
            · rename_i h6; rw [if_pos h6] at h; exact lay _ _ h
            · rename_i h6
              rw [if_neg h6] at h
              split
              · rename_i h7; rw [if_pos h7] at h; exact lay _ _ h
              · rfl
theorem opsSame_law {x : TCfg} (hx : C9 x) {acts : List TMac} (ha : ∀ a ∈ acts, A6 a) {e : TEv} (he : EvR e) : terrierlaw18_OpsSame x acts e = some (true, ()) := by
  unfold terrierlaw18_OpsSame
  rw [oawake_eq]
  simp only [bnd_val, Bool.not_true, cnd_false]
  obtain ⟨c, h1, hc⟩ := config_R hx
  obtain ⟨s, s1, hs, _⟩ := some_R hc ha
  rw [h1]
  simp only [bnd_val]
  rw [s1]
  simp only [bnd_val]
  rw [do_eq hc hs he]
  simp only [bnd_val]
  rw [same_st hs]
  simp only [bnd_val, Bool.not_true, cnd_false, ltO_def, chk_same, chk_nn, chk_and]
  rw [right_st (doO_R hc hs he)]
  simp only [bndG_val, Bool.and_true]
  by_cases h0 : (doO c s e).2.1 = 0
  · simp [beq0 h0, bne0 h0, bndG_false]
  · have hh : (doO c s e).1 = s ∧ (doO c s e).2.2 = [] := by
      unfold doO at h0 ⊢
      split at h0
      · exact absurd rfl h0
      · rename_i h2
        rw [if_neg h2]
        exact ⟨elseO_hold h0, rfl⟩
    rw [hh.1, hh.2, beq1 h0, bne1 h0, same_st hs, bndG_val]
    rfl
end Go.Tr
