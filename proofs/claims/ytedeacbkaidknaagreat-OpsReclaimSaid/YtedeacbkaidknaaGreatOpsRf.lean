/- An address is taken by a tick only where somebody approved that. Conditions: none but the rows' bounds. -/
import Derived.Test.YtedeacbkaidknaaGreatOpsRe
namespace Go.Tr
open Go
set_option linter.unusedVariables false
set_option linter.unusedSimpArgs false
set_option maxRecDepth 100000
set_option maxHeartbeats 4000000
theorem ev_loopP {P : TState → Prop} (h0 : P zSt) {Y : Type} {f : (Int × Int × TCfg × TState × List TEv × Unit) → Option ((Int × Int × TCfg × TState × List TEv × Unit) ⊕ Y)} {c : TCfg} (hP : ∀ s e, StR s → P s → P (doO c s e).1) (hc : CfgR c) {es : List TEv} (hes : ∀ e ∈ es, EvA e) {y : Y}
    (hb : ∀ (k : Nat) (hk : k < es.length) (s : TState), StR s → P s → f ((es.length : Int), (k : Int), c, s, es, ()) = some (.inl ((es.length : Int), ((k + 1 : Nat) : Int), c, (doO c s es[k]).1, es, ())))
    (hN : ∀ s, f ((es.length : Int), (es.length : Int), c, s, es, ()) = some (.inr y)) :
    loopM f ((es.length : Int), 0, c, ((0, 0, [], [], [], [], []) : TState), es, ()) = some y := by
  suffices H : ∀ (m k : Nat) (s : TState), k + m = es.length → StR s → P s → loopM f ((es.length : Int), (k : Int), c, s, es, ()) = some y from H es.length 0 zSt (by omega) zSt_R h0
  intro m
  induction m with
  | zero =>
    intro k s hk hs hn
    have : k = es.length := by omega
    subst this
    exact loopM_last (hN s)
  | succ m ih =>
    intro k s hk hs hn
    have hkl : k < es.length := by omega
    have he := hes _ (List.getElem_mem hkl)
    have h2 := ih (k + 1) (doO c s es[k]).1 (by omega) (doO_R hc hs he.toEvR) (hP s _ hs hn)
    rw [loopM_next (s' := ((es.length : Int), ((k + 1 : Nat) : Int), c, (doO c s es[k]).1, es, ())) (hb k hkl s hs hn)]
    exact h2
theorem recl_row (n k : Int) {c : TCfg} (hc : CfgR c) {s : TState} (hs : StR s) (ho : OpenR s) (e : TEv) (es : List TEv) :
    terrierlaw18_OpsReclaim_l1 (n, k, s.2.2.1, (s.2.2.1.length : Int), 0, c, s, e.1, e.2.1.1, e.2.1.2.1, e.2.1.2.2.1, e.2.1.2.2.2.1, e.2.1.2.2.2.2.1, e.2.1.2.2.2.2.2.1, e.2.1.2.2.2.2.2.2.1, e.2.1.2.2.2.2.2.2.2, e.2.2.1.1, e.2.2.1.2, e.2.2.2.1, e.2.2.2.2.1.1, e.2.2.2.2.1.2.1, e.2.2.2.2.1.2.2.1, e.2.2.2.2.1.2.2.2.1, e.2.2.2.2.1.2.2.2.2.1, e.2.2.2.2.1.2.2.2.2.2, e.2.2.2.2.2, (tickO c s).1, es, ()) =
    some (.inl (n, k, c, s, e.1, e.2.1.1, e.2.1.2.1, e.2.1.2.2.1, e.2.1.2.2.2.1, e.2.1.2.2.2.2.1, e.2.1.2.2.2.2.2.1, e.2.1.2.2.2.2.2.2.1, e.2.1.2.2.2.2.2.2.2, e.2.2.1.1, e.2.2.1.2, e.2.2.2.1, e.2.2.2.2.1.1, e.2.2.2.2.1.2.1, e.2.2.2.2.1.2.2.1, e.2.2.2.2.1.2.2.2.1, e.2.2.2.2.1.2.2.2.2.1, e.2.2.2.2.1.2.2.2.2.2, e.2.2.2.2.2, (tickO c s).1, es, ())) := by
  have ht := (tickO_R hc hs).1
  have hl := hs.hl
  have hcl := hs.cr.le
  unfold terrierlaw18_OpsReclaim_l1
  refine (loopM_steps (n := s.2.2.1.length) (fun i : Nat => (n, k, s.2.2.1, (s.2.2.1.length : Int), (i : Int), c, s, e.1, e.2.1.1, e.2.1.2.1, e.2.1.2.2.1, e.2.1.2.2.2.1, e.2.1.2.2.2.2.1, e.2.1.2.2.2.2.2.1, e.2.1.2.2.2.2.2.2.1, e.2.1.2.2.2.2.2.2.2, e.2.2.1.1, e.2.2.1.2, e.2.2.2.1, e.2.2.2.2.1.1, e.2.2.2.2.1.2.1, e.2.2.2.2.1.2.2.1, e.2.2.2.2.1.2.2.2.1, e.2.2.2.2.1.2.2.2.2.1, e.2.2.2.2.1.2.2.2.2.2, e.2.2.2.2.2, (tickO c s).1, es, ())) (Nat.zero_le _) fun i _ hi => ?_).trans ?_
  · show terrierlaw18_OpsReclaim_b1 n k s.2.2.1 (s.2.2.1.length : Int) (i : Int) c s e.1 e.2.1.1 e.2.1.2.1 e.2.1.2.2.1 e.2.1.2.2.2.1 e.2.1.2.2.2.2.1 e.2.1.2.2.2.2.2.1 e.2.1.2.2.2.2.2.2.1 e.2.1.2.2.2.2.2.2.2 e.2.2.1.1 e.2.2.1.2 e.2.2.2.1 e.2.2.2.2.1.1 e.2.2.2.2.1.2.1 e.2.2.2.2.1.2.2.1 e.2.2.2.2.1.2.2.2.1 e.2.2.2.2.1.2.2.2.2.1 e.2.2.2.2.1.2.2.2.2.2 e.2.2.2.2.2 (tickO c s).1 es = _
    unfold terrierlaw18_OpsReclaim_b1
    rw [decide_eq_true (by omega), cnd_true, chk_pos (by omega)]
    simp only [ltO_def, recD, getD_toNat, getD_hit s.2.2.1 i _ hi]
    rw [getH_eq ht.hr ht.see.hl, bnd_val]
    rw [w64 (n := (i : Int) + 1) (by omega) (by omega)]
    cases hg : hasK kH (tickO c s).1.2.2.1 (s.2.2.1[i]).1 with
    | true => rfl
    | false =>
      have hx : hasK kH s.2.2.1 (s.2.2.1[i]).1 = true := List.any_eq_true.2 ⟨_, List.getElem_mem hi, by simp [kH]⟩
      obtain ⟨j, hj, f1, f2, f3, f4, f5, f6, f7, f8⟩ := tick_gone (c := c) hs ho hx hg
      rw [find_eq _ _ (by omega), lastK_eq hs.kr hs.see.kl hs.ksl]
      simp only [cnd_false, bnd_val, f1, Int.toNat_natCast, getD_hit s.2.2.2.2.2.2 j _ hj, chk_same]
      have hd : decide ((j : Int) < 0) = false := decide_eq_false (by omega)
      have hold := hc.old
      have hfr := hc.fresh
      have gj : s.2.2.2.2.2.2[j]?.getD ((0, 0, 0, 0) : TCase) = s.2.2.2.2.2.2[j] := by rw [List.getElem?_eq_getElem hj]; rfl
      have hin : (!false) = true → 0 ≤ (j : Int) ∧ (j : Int) < (s.2.2.2.2.2.2.length : Int) := fun _ => by omega
      have hin2 : (False = False) := rfl
      have g1 : (s.2.2.2.2.2.2[j].2.2.2 != 1) = false := by rw [f2]; rfl
      have g2 : decide ((ofK s.2.2.2.2.1 (s.2.2.1[i]).1).length ≠ 0) = true := decide_eq_true f3
      have g3 : decide (lastK s.2.2.2.2.1 (s.2.2.1[i]).1 > s.2.2.2.2.2.2[j].2.1) = false := decide_eq_false (by omega)
      have g4 : decide ((tickO c s).1.1 - lastK s.2.2.2.2.1 (s.2.2.1[i]).1 < c.2.1) = false := decide_eq_false (by omega)
      rw [w64 (n := (tickO c s).1.1 - lastK s.2.2.2.2.1 (s.2.2.1[i]).1) (by omega) (by omega)]
      simp only [chk_nn]
      simp only [gj, hd, g1, g2, g3, g4, chk_pos hin, Bool.not_true, Bool.or_self, cnd_false]
      rfl
  · refine loopM_last ?_
    show terrierlaw18_OpsReclaim_b1 n k s.2.2.1 (s.2.2.1.length : Int) (s.2.2.1.length : Int) c s e.1 e.2.1.1 e.2.1.2.1 e.2.1.2.2.1 e.2.1.2.2.2.1 e.2.1.2.2.2.2.1 e.2.1.2.2.2.2.2.1 e.2.1.2.2.2.2.2.2.1 e.2.1.2.2.2.2.2.2.2 e.2.2.1.1 e.2.2.1.2 e.2.2.2.1 e.2.2.2.2.1.1 e.2.2.2.2.1.2.1 e.2.2.2.2.1.2.2.1 e.2.2.2.2.1.2.2.2.1 e.2.2.2.2.1.2.2.2.2.1 e.2.2.2.2.1.2.2.2.2.2 e.2.2.2.2.2 (tickO c s).1 es = _
    unfold terrierlaw18_OpsReclaim_b1
    rw [decide_eq_false (by omega)]; rfl
theorem stopO_hold (s : TState) (a : Int) : (stopO s a).2.2.1 = s.2.2.1 := by
  unfold stopO
  split <;> rfl
theorem elseO_len {s : TState} {e : TEv} (h2 : e.1 ≠ 2) : s.2.2.1.length ≤ (elseO s e).1.2.2.1.length := by
  have lay : ∀ {α : Type} (r : Int × α) (f : α → TState), (r.1 = 0 → s.2.2.1.length ≤ (f r.2).2.2.1.length) → s.2.2.1.length ≤ (layO s r f).1.2.2.1.length := by
    intro α r f hf
    unfold layO
    split
    · rename_i h0; exact hf h0
    · exact Nat.le_refl _
  have put : ∀ (t : TState) (a : Int) (x : TSight), t.2.2.1 = s.2.2.1 → s.2.2.1.length ≤ (putO s t a x).1.2.2.1.length := by
    intro t a x ht
    unfold putO
    split
    · show _ ≤ (stopO (setK t (putK t.2.2.2.2.1 a x).2) a).2.2.1.length
      rw [stopO_hold]
      show _ ≤ t.2.2.1.length
      rw [ht]; exact Nat.le_refl _
    · exact Nat.le_refl _
  unfold elseO
  split
  · refine lay _ _ fun h0 => ?_
    show _ ≤ (putH s.2.2.1 e.2.1).2.length
    unfold putH at h0 ⊢
    split at h0
    · simp at h0
    · rename_i q1
      split at h0
      · simp at h0
      · rename_i q2
        split at h0
        · simp at h0
        · rename_i q3
          rw [if_neg q1, if_neg q2, if_neg q3]
          show _ ≤ (insK kH s.2.2.1 e.2.1).length
          rw [insK_len]; omega
  · split
    · exact lay _ _ fun _ => Nat.le_refl _
    · split
      · exact lay _ _ fun _ => Nat.le_refl _
      · split
        · unfold sawO
          split
          · split
            · exact Nat.le_refl _
            · exact put _ _ _ rfl
          · exact put _ _ _ rfl
        · split
          · exact lay _ _ fun _ => Nat.le_refl _
          · split
            · exact lay _ _ fun _ => Nat.le_refl _
            · exact Nat.le_refl _
theorem opsReclaim_law {x : TCfg} (hx : C9 x) {acts : List TMac} (ha : ∀ a ∈ acts, A6 a) : terrierlaw18_OpsReclaim x acts = some (true, ()) := by
  unfold terrierlaw18_OpsReclaim
  rw [oawake_eq]
  simp only [bnd_val, Bool.not_true, cnd_false]
  obtain ⟨c, h1, hc⟩ := config_R hx
  obtain ⟨es, e1, e2, e3⟩ := events_R ha
  rw [h1]
  simp only [bnd_val]
  rw [e1]
  simp only [bnd_val]
  have hl : terrierlaw18_OpsReclaim_l0 ((es.length : Int), 0, c, ((0, 0, [], [], [], [], []) : TState), es, ()) = some (.inl ()) := by
    unfold terrierlaw18_OpsReclaim_l0
    refine ev_loopP (P := OpenR) (by intro k hk; simp [zSt] at hk) (fun s e hs h => doO_op hs h e) hc e3 (fun k hk s hs ho => ?_) (fun s => ?_)
    · show terrierlaw18_OpsReclaim_b0 (es.length : Int) (k : Int) c s es = _
      have he := e3 _ (List.getElem_mem hk)
      unfold terrierlaw18_OpsReclaim_b0
      rw [decide_eq_true (by omega), cnd_true, chk_pos (by omega), chk_pos (by omega)]
      simp only [Int.toNat_natCast, getD_hit es k _ hk]
      have hd := do_eq hc hs he.toEvR
      erw [hd]
      simp only [bnd_val, ltO_def, chk_same]
      by_cases h0 : es[k].1 = 0
      · have hdo : (doO c s es[k]).1 = (tickO c s).1 := by unfold doO; rw [if_pos h0]
        rw [beq0 h0, cnd_true, hdo, recl_row _ _ hc hs ho es[k] es, bnd_val, sumO_inl]
        simp only
        rw [bne0 h0, Bool.false_and, Bool.false_and, cnd_false, w64 (by omega) (by omega)]; rfl
      · have hf : ((es[k].1 != 0 && es[k].1 != 2) && decide (((doO c s es[k]).1.2.2.1.length : Int) < (s.2.2.1.length : Int))) = false := by
          by_cases h2 : es[k].1 = 2
          · rw [h2]; rfl
          · have hdo : (doO c s es[k]).1 = (elseO s es[k]).1 := by unfold doO; rw [if_neg h0]
            have := elseO_len (s := s) h2
            rw [hdo, decide_eq_false (by omega), Bool.and_false]
        rw [beq1 h0, cnd_false, hf, cnd_false, w64 (by omega) (by omega)]; rfl
    · show terrierlaw18_OpsReclaim_b0 (es.length : Int) (es.length : Int) c s es = _
      unfold terrierlaw18_OpsReclaim_b0
      rw [decide_eq_false (by omega)]; rfl
  rw [hl]; rfl
end Go.Tr
