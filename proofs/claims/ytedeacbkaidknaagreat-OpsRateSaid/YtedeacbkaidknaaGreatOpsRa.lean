/- What holds behind each event: how many packets, how long the rows, that states are right. Conditions: none but the rows' bounds. -/
import Derived.Test.YtedeacbkaidknaaGreatOpsW
namespace Go.Tr
open Go
set_option linter.unusedVariables false
set_option linter.unusedSimpArgs false
set_option maxRecDepth 100000
set_option maxHeartbeats 4000000
theorem ev_loop {Y : Type} {f : (Int × Int × TCfg × TState × List TEv × Unit) → Option ((Int × Int × TCfg × TState × List TEv × Unit) ⊕ Y)} {c : TCfg} (hc : CfgR c) {es : List TEv} (hes : ∀ e ∈ es, EvA e) {y : Y}
    (hb : ∀ (k : Nat) (hk : k < es.length) (s : TState), StR s → KnR s → f ((es.length : Int), (k : Int), c, s, es, ()) = some (.inl ((es.length : Int), ((k + 1 : Nat) : Int), c, (doO c s es[k]).1, es, ())))
    (hN : ∀ s, f ((es.length : Int), (es.length : Int), c, s, es, ()) = some (.inr y)) :
    loopM f ((es.length : Int), 0, c, ((0, 0, [], [], [], [], []) : TState), es, ()) = some y := by
  suffices H : ∀ (m k : Nat) (s : TState), k + m = es.length → StR s → KnR s → loopM f ((es.length : Int), (k : Int), c, s, es, ()) = some y from H es.length 0 zSt (by omega) zSt_R (by intro k hk; simp [zSt] at hk)
  intro m
  induction m with
  | zero =>
    intro k s hk hs hn
    have : k = es.length := by omega
    subst this
    exact loopM_last (hN s)
  | succ m ih =>
    intro k s hk hs hn
    have hkl : k < es.length := by omega
    have he := hes _ (List.getElem_mem hkl)
    have h2 := ih (k + 1) (doO c s es[k]).1 (by omega) (doO_R hc hs he.toEvR) (doO_K hs hn he)
    rw [loopM_next (s' := ((es.length : Int), ((k + 1 : Nat) : Int), c, (doO c s es[k]).1, es, ())) (hb k hkl s hs hn)]
    exact h2
theorem rate_known (n k : Int) (c : TCfg) (s t : TState) (es : List TEv) (ht : StR t) : terrierlaw18_OpsRate_l1 (n, k, t.2.2.2.2.1, (t.2.2.2.2.1.length : Int), 0, c, s, t, es, ()) = some (.inl (n, k, c, s, t, es, ())) := by
  have h3 := ht.kl
  unfold terrierlaw18_OpsRate_l1
  refine (loopM_steps (n := t.2.2.2.2.1.length) (fun i : Nat => (n, k, t.2.2.2.2.1, (t.2.2.2.2.1.length : Int), (i : Int), c, s, t, es, ())) (Nat.zero_le _) fun i _ hi => ?_).trans ?_
  · show terrierlaw18_OpsRate_b1 n k t.2.2.2.2.1 (t.2.2.2.2.1.length : Int) (i : Int) c s t es = _
    unfold terrierlaw18_OpsRate_b1
    rw [decide_eq_true (by omega), cnd_true, chk_pos (by omega)]
    simp only [ltO_def, recD, getD_toNat, getD_hit t.2.2.2.2.1 i _ hi]
    have hle := (ht.ks _ (List.getElem_mem hi)).le
    rw [decide_eq_false (by omega), cnd_false, w64 (by omega) (by omega)]; rfl
  · refine loopM_last ?_
    show terrierlaw18_OpsRate_b1 n k t.2.2.2.2.1 (t.2.2.2.2.1.length : Int) (t.2.2.2.2.1.length : Int) c s t es = _
    unfold terrierlaw18_OpsRate_b1
    rw [decide_eq_false (by omega)]; rfl
theorem opsRate_law {x : TCfg} (hx : C9 x) {acts : List TMac} (ha : ∀ a ∈ acts, A6 a) : terrierlaw18_OpsRate x acts = some (true, ()) := by
  unfold terrierlaw18_OpsRate
  rw [oawake_eq]
  simp only [bnd_val, Bool.not_true, cnd_false]
  obtain ⟨c, h1, hc⟩ := config_R hx
  obtain ⟨es, e1, e2, e3⟩ := events_R ha
  rw [h1]
  simp only [bnd_val]
  rw [e1]
  simp only [bnd_val]
  have hl : terrierlaw18_OpsRate_l0 ((es.length : Int), 0, c, ((0, 0, [], [], [], [], []) : TState), es, ()) = some (.inl ()) := by
    unfold terrierlaw18_OpsRate_l0
    refine ev_loop hc e3 (fun k hk s hs hn => ?_) (fun s => ?_)
    · show terrierlaw18_OpsRate_b0 (es.length : Int) (k : Int) c s es = _
      have he := e3 _ (List.getElem_mem hk)
      have ht := doO_R hc hs he.toEvR
      have hp : ((doO c s es[k]).2.2.length : Int) ≤ c.2.2.2.2.1 ∧ (es[k].1 ≠ 0 → (doO c s es[k]).2.2 = []) := by
        have hr := hc.rate
        unfold doO
        split
        · rename_i h0; exact ⟨(tickO_R hc hs).2, fun h => absurd h0 h⟩
        · exact ⟨by simp; omega, fun _ => rfl⟩
      unfold terrierlaw18_OpsRate_b0
      rw [decide_eq_true (by omega), cnd_true, chk_pos (by omega), chk_pos (by omega)]
      simp only [Int.toNat_natCast, getD_hit es k _ hk]
      have hd := do_eq hc hs he.toEvR
      erw [hd]
      simp only [bnd_val, ltO_def]
      generalize doO c s es[k] = r at ht hp ⊢
      have q1 := ht.hl
      have q2 := ht.kl
      have q3 := ht.pr.le
      have q4 := ht.cr.le
      have f1 : decide ((r.2.2.length : Int) > c.2.2.2.2.1) = false := decide_eq_false (by omega)
      have f2 : (es[k].1 != 0 && decide ((r.2.2.length : Int) > 0)) = false := by
        by_cases h0 : es[k].1 = 0
        · simp [h0]
        · simp [hp.2 h0]
      have f3 : decide ((r.1.2.2.2.2.2.1.length : Int) > 16) = false := decide_eq_false (by omega)
      have f4 : decide ((r.1.2.2.2.2.2.2.length : Int) > 16) = false := decide_eq_false (by omega)
      have f5 : decide ((r.1.2.2.2.2.1.length : Int) > 96) = false := decide_eq_false (by omega)
      have f6 : decide ((r.1.2.2.1.length : Int) > 48) = false := decide_eq_false (by omega)
      simp only [chk_same, chk_and, chk_nn]
      simp only [f1, f2, f3, f4, f5, f6, Bool.false_or, cnd_false]
      rw [rate_known _ _ _ _ _ _ ht, bnd_val, sumO_inl]
      simp only
      rw [w64 (by omega) (by omega)]; rfl
    · show terrierlaw18_OpsRate_b0 (es.length : Int) (es.length : Int) c s es = _
      unfold terrierlaw18_OpsRate_b0
      rw [decide_eq_false (by omega)]; rfl
  rw [hl]; rfl
end Go.Tr
