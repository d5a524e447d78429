/- The document's ticks are the program's. Conditions: none but that states are right. -/
import Derived.Test.YtedeacbkaidknaaGreatOpsRf
namespace Go.Tr
open Go
set_option linter.unusedVariables false
set_option linter.unusedSimpArgs false
set_option maxRecDepth 100000
set_option maxHeartbeats 4000000
theorem how_eq {c : TCfg} (hc : CfgR c) {s : TState} (h : SeeR s) (a : Int) : terrierlaw18_how c s a = some (statO c s a, ()) := by
  unfold terrierlaw18_how statO
  rw [getH_eq h.hr h.hl, bnd_val]
  have hl := ofK_len h.ks a
  unfold getH
  cases hasK kH s.2.2.1 a with
  | true =>
    simp only [Bool.not_true, cnd_false, if_true, ofK_eq h.kr h.kl h.ks, bnd_val, Option.getD_some]
    rw [status_some c hc _ _ _ hl]; rfl
  | false =>
    simp only [Bool.not_false, cnd_true, Bool.false_eq_true, if_false, ofK_eq h.kr h.kl h.ks, bnd_val]
    rw [status_none c hc _ _ hl]; rfl
theorem stopL_eq (s : TState) (a : Int) (hl : s.2.2.2.2.2.2.length ≤ 1000000) : terrierlaw18_stop s a = some (stopO s a, ()) := by
  unfold terrierlaw18_stop stopO
  rw [cancelC_eq _ _ _ hl, bnd_val, ltO_def]
  by_cases h0 : (cancelC s.2.2.2.2.2.2 a s.1).1 = 0
  · rw [if_pos h0]; simp only [beq0 h0, cnd_true]; rfl
  · rw [if_neg h0]; simp only [beq1 h0, cnd_false]
theorem ltick0 {c : TCfg} (hc : CfgR c) {s : TState} (h : StR s) (z : TState) : terrierlaw18_tick_l0 ((s.2.2.2.2.2.2.length : Int), 0, c, s, z, s.2.2.2.2.2.2, ()) = some (.inl (c, execO c s, z, ())) := by
  unfold terrierlaw18_tick_l0 execO
  have hle := h.cr.le
  generalize hcs : s.2.2.2.2.2.2 = cs at hle ⊢
  have hl := loop_fold (f := fun s : Int × Int × TCfg × TState × TState × (List TCase) × Unit => terrierlaw18_tick_b0 s.1 s.2.1 s.2.2.1 s.2.2.2.1 s.2.2.2.2.1 s.2.2.2.2.2.1) cs (execF c)
    (fun t k => ((cs.length : Int), (k : Int), c, t, z, cs, ())) (fun t => (.inl (c, t, z, ()) : (TCfg × TState × TState × Unit) ⊕ (TState × (List TPack) × Unit))) (fun t k => ExecI cs t k) (fun k hk t hp => by
      show terrierlaw18_tick_b0 (cs.length : Int) (k : Int) c t z cs = _
      unfold terrierlaw18_tick_b0 execF
      rw [decide_eq_true (by omega), cnd_true, chk_pos (by omega), chk_pos (by omega)]
      simp only [ltO_def, Int.toNat_natCast, getD_hit cs k _ hk, chk_same]
      rw [w64 (by omega) (by omega)]
      have hcl : t.2.2.2.2.2.2.length ≤ 1000000 := by have := hp.st.cr.le; omega
      by_cases h1 : cs[k].2.2.2 = 1
      · have e1 : (cs[k].2.2.2 == 1) = true := beq_iff_eq.2 h1
        rw [e1, if_pos h1, how_eq hc hp.st.see, bndG_val]
        by_cases h3 : statO c t cs[k].1 = 3
        · have e2 : (statO c t cs[k].1 == 3) = true := beq_iff_eq.2 h3
          simp only [e2, Bool.and_self]
          rw [if_pos h3, cnd_true, doneC_eq _ _ _ hcl, bnd_val, takeH_eq hp.st.hr hp.st.see.hl, if_pos (stale_held h3), bnd_val]
          rfl
        · have e2 : (statO c t cs[k].1 == 3) = false := beq_eq_false_iff_ne.2 h3
          simp only [e2, Bool.and_false]
          rw [if_neg h3, cnd_false, cnd_true, stopL_eq _ _ hcl, bnd_val]
          have hf := hp.find hk (by unfold openS; rw [h1]; rfl)
          have hz : (cancelC t.2.2.2.2.2.2 cs[k].1 t.1).1 = 0 := by unfold cancelC; rw [if_neg (by omega)]
          unfold stopO
          rw [if_pos hz]
          rfl
      · have e1 : (cs[k].2.2.2 == 1) = false := beq_eq_false_iff_ne.2 h1
        rw [e1, if_neg h1, bndG_false]
        simp only [Bool.false_and, cnd_false]
        rfl)
    (fun k hk t hp => hp.next hk) (fun t hp => by
      show terrierlaw18_tick_b0 (cs.length : Int) (cs.length : Int) c t z cs = _
      unfold terrierlaw18_tick_b0
      rw [decide_eq_false (by omega)]; rfl) cs.length 0 s (by omega) ⟨h, by rw [hcs], fun _ _ => by rw [hcs]⟩
  rw [List.drop_zero] at hl
  exact hl
theorem ltick1 {c : TCfg} (hc : CfgR c) {s : TState} (h : StR s) (z : TState) : terrierlaw18_tick_l1 (s.2.2.1, (s.2.2.1.length : Int), 0, c, s, z, ()) = some (.inl (c, raiseO c s, z, ())) := by
  unfold terrierlaw18_tick_l1 raiseO
  have hle := h.hl
  generalize hcs : s.2.2.1 = hs at hle ⊢
  have hl := loop_fold (f := fun s : (List THold) × Int × Int × TCfg × TState × TState × Unit => terrierlaw18_tick_b1 s.1 s.2.1 s.2.2.1 s.2.2.2.1 s.2.2.2.2.1 s.2.2.2.2.2.1) hs (raiseF c)
    (fun t k => (hs, (hs.length : Int), (k : Int), c, t, z, ())) (fun t => (.inl (c, t, z, ()) : (TCfg × TState × TState × Unit) ⊕ (TState × (List TPack) × Unit))) (fun t k => StR t) (fun k hk t hp => by
      show terrierlaw18_tick_b1 hs (hs.length : Int) (k : Int) c t z = _
      unfold terrierlaw18_tick_b1 raiseF
      have hcl : t.2.2.2.2.2.2.length ≤ 1000000 := by have := hp.cr.le; omega
      rw [decide_eq_true (by omega), cnd_true, chk_pos (by omega)]
      simp only [ltO_def, recD, getD_toNat, getD_hit hs k _ hk, raiseC_eq _ _ _ _ hcl, how_eq hc hp.see, bnd_val, chk_same]
      rw [w64 (by omega) (by omega)]
      by_cases h3 : statO c t hs[k].1 = 3
      · have e2 : (statO c t hs[k].1 == 3) = true := beq_iff_eq.2 h3
        rw [e2, if_pos h3, Bool.true_and]
        by_cases h4 : (raiseC c t.2.2.2.2.2.2 hs[k].1 t.1).1 = 0
        · rw [if_pos h4, beq0 h4]; rfl
        · rw [if_neg h4, beq1 h4]; rfl
      · have e2 : (statO c t hs[k].1 == 3) = false := beq_eq_false_iff_ne.2 h3
        rw [e2, if_neg h3]; rfl)
    (fun k hk t hp => raiseF_R hp _) (fun t hp => by
      show terrierlaw18_tick_b1 hs (hs.length : Int) (hs.length : Int) c t z = _
      unfold terrierlaw18_tick_b1
      rw [decide_eq_false (by omega)]; rfl) hs.length 0 s (by omega) h
  rw [List.drop_zero] at hl
  exact hl
theorem want_in {c : TCfg} {s : TState} (h : StR s) {k : TKnown} (hk : k ∈ s.2.2.2.2.1) : wantO c s k = (hasK kH s.2.2.1 k.1 || decide (s.1 - lastT k.2 < c.2.1)) := by
  have hs := h.ks k hk
  have hne := hs.ne
  have hl := hs.last.1
  have hn := h.now
  unfold wantO lastK
  rw [ofK_mem h.kr hk, if_neg (by omega), decide_eq_true (show k.2.length ≠ 0 by omega), Bool.true_and]
  unfold withinS sinceS
  rw [clampS_self hn.1 hn.2, clampS_self hl.1 (by omega), decide_eq_true (show 0 ≤ s.1 - lastT k.2 by omega), Bool.true_and]
theorem ltick2 {c : TCfg} (hc : CfgR c) {s : TState} (h : StR s) (z : TState) : terrierlaw18_tick_l2 (s.2.2.2.2.1, (s.2.2.2.2.1.length : Int), 0, [], c, s, z, ()) = some (.inl (c, s, z, s.2.2.2.2.1.filter (wantO c s), ())) := by
  unfold terrierlaw18_tick_l2
  have hle := h.kl
  have hl := loop_fold (f := fun s : (List TKnown) × Int × Int × (List TKnown) × TCfg × TState × TState × Unit => terrierlaw18_tick_b2 s.1 s.2.1 s.2.2.1 s.2.2.2.1 s.2.2.2.2.1 s.2.2.2.2.2.1 s.2.2.2.2.2.2.1) s.2.2.2.2.1 (fun (o : List TKnown) k => if wantO c s k = true then o ++ [k] else o)
    (fun o k => (s.2.2.2.2.1, (s.2.2.2.2.1.length : Int), (k : Int), o, c, s, z, ())) (fun o => (.inl (c, s, z, o, ()) : (TCfg × TState × TState × (List TKnown) × Unit) ⊕ (TState × (List TPack) × Unit))) (fun o k => o.length ≤ k) (fun k hk o hp => by
      show terrierlaw18_tick_b2 s.2.2.2.2.1 (s.2.2.2.2.1.length : Int) (k : Int) o c s z = _
      have hw := want_in (c := c) h (List.getElem_mem hk)
      have hs := h.ks _ (List.getElem_mem hk)
      have hne := hs.ne
      have hle8 := hs.le
      have hlast := hs.last.1
      have hn := h.now
      unfold terrierlaw18_tick_b2
      rw [decide_eq_true (by omega), cnd_true, chk_pos (by omega)]
      simp only [ltO_def, recD, getD_toNat, getD_hit s.2.2.2.2.1 k _ hk, getH_eq h.hr h.see.hl, bnd_val, chk_same, chk_nn]
      rw [w64 (n := (((s.2.2.2.2.1[k]).2.length : Nat) : Int) - 1) (by omega) (by omega)]
      have et : ((((s.2.2.2.2.1[k]).2.length : Nat) : Int) - 1).toNat = (s.2.2.2.2.1[k]).2.length - 1 := by omega
      have el : ((s.2.2.2.2.1[k]).2[(s.2.2.2.2.1[k]).2.length - 1]?.getD zSight).2.2 = lastT (s.2.2.2.2.1[k]).2 := by unfold lastT; rw [List.getD_eq_getElem?_getD]
      rw [chk_pos (fun _ => by omega), et, el, w64 (n := s.1 - lastT (s.2.2.2.2.1[k]).2) (by omega) (by omega), ← hw, w64 (by omega) (by omega)]
      cases wantO c s s.2.2.2.2.1[k] with
      | true => simp only [cnd_true, if_true]; rw [chk_pos (by show _ * _ ≤ _; simp; omega)]; rfl
      | false => rfl)
    (fun k hk o hp => by split <;> (try rw [List.length_append, List.length_singleton]) <;> omega) (fun o hp => by
      show terrierlaw18_tick_b2 s.2.2.2.2.1 (s.2.2.2.2.1.length : Int) (s.2.2.2.2.1.length : Int) o c s z = _
      unfold terrierlaw18_tick_b2
      rw [decide_eq_false (by omega)]; rfl) s.2.2.2.2.1.length 0 [] (by omega) (by simp)
  rw [List.drop_zero] at hl
  have hf : ∀ (l o : List TKnown), l.foldl (fun (o : List TKnown) k => if wantO c s k = true then o ++ [k] else o) o = o ++ l.filter (wantO c s) := by
    intro l
    induction l with
    | nil => intro o; simp
    | cons x l ih =>
      intro o
      rw [List.foldl_cons, ih, List.filter_cons]
      split <;> simp
  rw [hf, List.nil_append] at hl
  exact hl
theorem ltick3 (c : TCfg) (s z : TState) (ps again : List TProbe) (hl : again.length ≤ 1000000) :
    terrierlaw18_tick_l3 (ps, again, again, (again.length : Int), 0, [], c, s, z, ()) = some (.inl (ps, again, c, s, z, again.map packP, ())) := by
  unfold terrierlaw18_tick_l3
  have h := loop_fold (f := fun s : (List TProbe) × (List TProbe) × (List TProbe) × Int × Int × (List TPack) × TCfg × TState × TState × Unit => terrierlaw18_tick_b3 s.1 s.2.1 s.2.2.1 s.2.2.2.1 s.2.2.2.2.1 s.2.2.2.2.2.1 s.2.2.2.2.2.2.1 s.2.2.2.2.2.2.2.1 s.2.2.2.2.2.2.2.2.1) again (fun (o : List TPack) p => o ++ [packP p])
    (fun o k => (ps, again, again, (again.length : Int), (k : Int), o, c, s, z, ())) (fun o => (.inl (ps, again, c, s, z, o, ()) : ((List TProbe) × (List TProbe) × TCfg × TState × TState × (List TPack) × Unit) ⊕ (TState × (List TPack) × Unit))) (fun o k => o.length = k) (fun k hk o hp => by
      show terrierlaw18_tick_b3 ps again again (again.length : Int) (k : Int) o c s z = _
      unfold terrierlaw18_tick_b3
      rw [decide_eq_true (by omega), cnd_true, chk_pos (by omega)]
      simp only [ltO_def, recD, getD_toNat, getD_hit again k _ hk, bnd_val]
      rw [w64 (by omega) (by omega), chk_pos (by show _ * _ ≤ _; simp; omega)]; rfl)
    (fun k hk o hp => by simp; omega) (fun o hp => by
      show terrierlaw18_tick_b3 ps again again (again.length : Int) (again.length : Int) o c s z = _
      unfold terrierlaw18_tick_b3
      rw [decide_eq_false (by omega)]; rfl) again.length 0 [] (by omega) rfl
  rw [List.drop_zero] at h
  have hf : ∀ (l : List TProbe) (o : List TPack), l.foldl (fun (o : List TPack) p => o ++ [packP p]) o = o ++ l.map packP := by
    intro l
    induction l with
    | nil => intro o; simp
    | cons x l ih => intro o; rw [List.foldl_cons, ih]; simp
  rw [hf, List.nil_append] at h
  exact h
theorem ltick4 (z : TState) (asks : List Int) (h32 : ∀ a ∈ asks, in32 a) (hl : asks.length ≤ 1000) (q : TState × List TPack) (hq : AskI q 1000) :
    terrierlaw18_tick_l4 (asks, (asks.length : Int), 0, q.1, z, q.2, ()) = some (.inl ((asks.foldl askF q).1, z, (asks.foldl askF q).2, ())) := by
  unfold terrierlaw18_tick_l4
  have h := loop_fold (f := fun s : (List Int) × Int × Int × TState × TState × (List TPack) × Unit => terrierlaw18_tick_b4 s.1 s.2.1 s.2.2.1 s.2.2.2.1 s.2.2.2.2.1 s.2.2.2.2.2.1) asks askF
    (fun q k => (asks, (asks.length : Int), (k : Int), q.1, z, q.2, ())) (fun q => (.inl (q.1, z, q.2, ()) : (TState × TState × (List TPack) × Unit) ⊕ (TState × (List TPack) × Unit))) (fun q k => AskI q (1000 + k)) (fun k hk q hp => by
      show terrierlaw18_tick_b4 asks (asks.length : Int) (k : Int) q.1 z q.2 = _
      have ha := h32 _ (List.getElem_mem hk)
      unfold in32 at ha
      have hsq := hp.st.seq
      have hnow := hp.st.now
      have hlen := hp.len
      unfold terrierlaw18_tick_b4 askF
      rw [decide_eq_true (by omega), cnd_true, chk_pos (by omega)]
      have hn0 : ¬ (65536 : Int) = 0 := by decide
      simp only [ltO_def, Int.toNat_natCast, getD_hit asks k _ hk, chk_pos hn0]
      have hp' : ofP asks[k] ((q.1.2.1 + 1) % 65536) q.1.1 = (asks[k], asks[k] % 65536, (q.1.2.1 + 1) % 65536, q.1.1, 0) := by
        unfold ofP
        rw [clampS_self hnow.1 hnow.2, show (q.1.2.1 + 1) % 65536 % 65536 = (q.1.2.1 + 1) % 65536 from by omega]
      rw [w64 (n := q.1.2.1 + 1) (by omega) (by omega), Int.tmod_eq_emod_of_nonneg (a := q.1.2.1 + 1) (by omega), Int.tmod_eq_emod_of_nonneg (a := asks[k]) (by omega), w64 (n := asks[k] % 65536) (by omega) (by omega), ← hp', putP_eq _ _ (by have := hp.st.pr.le; omega), bnd_val, w64 (n := (k : Int) + 1) (by omega) (by omega)]
      by_cases h0 : (putP q.1.2.2.2.2.2.1 (ofP asks[k] ((q.1.2.1 + 1) % 65536) q.1.1)).1 = 0
      · have e0 : ((putP q.1.2.2.2.2.2.1 (ofP asks[k] ((q.1.2.1 + 1) % 65536) q.1.1)).1 == 0) = true := beq_iff_eq.2 h0
        simp only [e0, cnd_true]
        rw [if_pos h0, chk_pos (by show _ * _ ≤ _; simp; omega)]
        unfold packP
        rw [hp']; rfl
      · have e0 : ((putP q.1.2.2.2.2.2.1 (ofP asks[k] ((q.1.2.1 + 1) % 65536) q.1.1)).1 == 0) = false := beq_eq_false_iff_ne.2 h0
        simp only [e0, cnd_false]
        rw [if_neg h0]; rfl)
    (fun k hk q hp => askF_R hp (h32 _ (List.getElem_mem hk))) (fun q hp => by
      show terrierlaw18_tick_b4 asks (asks.length : Int) (asks.length : Int) q.1 z q.2 = _
      unfold terrierlaw18_tick_b4
      rw [decide_eq_false (by omega)]; rfl) asks.length 0 q (by omega) hq
  rw [List.drop_zero] at h
  exact h
theorem ltick_eq {c : TCfg} (hc : CfgR c) {s : TState} (h : StR s) : terrierlaw18_tick c s = some ((tickO c s).1, (tickO c s).2, ()) := by
  unfold terrierlaw18_tick
  have hn := h.now
  have hcl := h.cr.le
  have e1 : (if (1099511627776 : Int) < s.1 + 1 then 1099511627776 else s.1 + 1) = addS s.1 1 := by rw [add1 hn]; split <;> omega
  simp only [ltO_def]
  rw [w64 (n := s.1 + 1) (by omega) (by omega), e1, tickC_eq _ _ _ (by omega), bnd_val]
  simp only
  rw [chk_pos (by show _ * 32 ≤ _; rw [List.length_map]; omega)]
  have h1 := nextO_R (c := c) h
  have h2 := (execO_R (c := c) h1).st
  have h3 := raiseO_R (c := c) h2
  have h4 := forgetO_R (c := c) h3
  have l0 : terrierlaw18_tick_l0 (((s.2.2.2.2.2.2.map (tickC c (addS s.1 1))).length : Int), 0, c, (addS s.1 1, s.2.1, s.2.2.1, s.2.2.2.1, s.2.2.2.2.1, s.2.2.2.2.2.1, s.2.2.2.2.2.2.map (tickC c (addS s.1 1))), ((0, 0, [], [], [], [], []) : TState), s.2.2.2.2.2.2.map (tickC c (addS s.1 1)), ()) = _ := ltick0 hc h1 ((0, 0, [], [], [], [], []) : TState)
  rw [l0, bnd_val, sumO_inl]
  simp only
  rw [ltick1 hc h2, bnd_val, sumO_inl]
  simp only
  rw [ltick2 hc h3, bnd_val, sumO_inl]
  simp only
  show _ = some ((askO c (forgetO c (raiseO c (execO c (nextO c s))))).1, (askO c (forgetO c (raiseO c (execO c (nextO c s))))).2, ())
  generalize raiseO c (execO c (nextO c s)) = r at h3 h4 ⊢
  have hl := h3.pr.late hc r.1 c.2.2.2.2.1
  have hp := plan_R c h3.sw (roomO c (lateP c r.2.2.2.2.2.1 r.1 c.2.2.2.2.1))
  have hr := hc.rate
  have hle := h3.pr.le
  have hle1 := hl.1.le
  have hle2 := hl.2
  have e : askO c (forgetO c r) = (planO c r (roomO c (lateP c r.2.2.2.2.2.1 r.1 c.2.2.2.2.1))).1.foldl askF (setW (setP (forgetO c r) (lateP c r.2.2.2.2.2.1 r.1 c.2.2.2.2.1).1) (planO c r (roomO c (lateP c r.2.2.2.2.2.1 r.1 c.2.2.2.2.1))).2.1, (lateP c r.2.2.2.2.2.1 r.1 c.2.2.2.2.1).2.map packP) := rfl
  rw [e, lateP_eq c hc _ _ _ (by omega) (fun p hp => (h3.pr.ok p hp).2.2.2.2.1), bnd_val]
  generalize lateP c r.2.2.2.2.2.1 r.1 c.2.2.2.2.1 = q at hl hp hle1 hle2 ⊢
  have hroom : ((planO c r (roomO c q)).1.length : Int) ≤ 64 := by
    have := hp.2.2.1
    unfold roomO at this ⊢
    omega
  simp only
  rw [ltick3 _ _ _ _ _ (by omega), bnd_val, sumO_inl]
  simp only [ltO_def]
  rw [w64 (n := c.2.2.2.2.1 - (q.2.length : Int)) (by omega) (by omega), w64 (n := 16 - (q.1.length : Int)) (by omega) (by omega)]
  have er : (if 16 - (q.1.length : Int) < c.2.2.2.2.1 - (q.2.length : Int) then 16 - (q.1.length : Int) else c.2.2.2.2.1 - (q.2.length : Int)) = roomO c q := by
    unfold roomO
    split <;> omega
  rw [er, hp.1, bnd_val]
  have ha := ltick4 ((0, 0, [], [], [], [], []) : TState) (planO c r (roomO c q)).1 hp.2.2.2.1 (by omega) (setW (setP (forgetO c r) q.1) (planO c r (roomO c q)).2.1, q.2.map packP) ⟨(h4.probes hl.1).sweeps hp.2.1, by rw [List.length_map]; omega⟩
  have ha' : terrierlaw18_tick_l4 ((planO c r (roomO c q)).1, ((planO c r (roomO c q)).1.length : Int), 0, (r.1, r.2.1, r.2.2.1, (planO c r (roomO c q)).2.1, r.2.2.2.2.1.filter (wantO c r), q.1, r.2.2.2.2.2.2), ((0, 0, [], [], [], [], []) : TState), q.2.map packP, ()) = _ := ha
  simp only
  rw [ha']
  rfl
end Go.Tr
