/- The document's events are the program's. Conditions: none but the rows' bounds. -/
import Derived.Test.YtedeacbkaidknaaGreatOpsDa
namespace Go.Tr
open Go
set_option linter.unusedVariables false
set_option linter.unusedSimpArgs false
set_option maxRecDepth 100000
set_option maxHeartbeats 4000000
theorem ansP_filter {ps : List TProbe} (h : ProbR ps) (a : Int) : match ansP ps a with
    | some l => ps.filter (fun p => p.1 != a) = l ∧ l.length + 1 = ps.length
    | none => ps.filter (fun p => p.1 != a) = ps := by
  unfold ansP
  cases ha : ps.any fun y => y.1 == a with
  | false =>
    simp only [Bool.false_eq_true, if_false]
    rw [List.filter_eq_self]
    intro p hp
    rw [List.any_eq_false] at ha
    have := ha p hp
    simpa using this
  | true =>
    obtain ⟨j, hj, h1, h2, _⟩ := idxS_lt (idxS_iff (k := 0).2 ha)
    simp only [if_true]
    rw [h1, Nat.zero_add, Int.toNat_natCast]
    have e : ps = ps.take j ++ ps[j] :: ps.drop (j + 1) := by
      rw [← List.drop_eq_getElem_cons hj, List.take_append_drop]
    have ho := h.one
    rw [e, List.pairwise_append] at ho
    have h2' : (ps[j]).1 = a := by simpa using h2
    refine ⟨?_, by simp; omega⟩
    conv => lhs; rw [e]
    rw [List.filter_append, List.filter_cons]
    have hz : ((ps[j]).1 != a) = false := by rw [h2']; simp
    rw [hz]
    simp only [Bool.false_eq_true, if_false]
    congr 1
    · rw [List.filter_eq_self]
      intro p hp
      have := ho.2.2 p hp ps[j] (List.mem_cons_self ..)
      rw [h2'] at this
      simpa using this
    · rw [List.filter_eq_self]
      intro p hp
      have := (List.pairwise_cons.1 ho.2.1).1 p hp
      rw [h2'] at this
      simpa using fun h => this h.symm
theorem ldo0 (a : Int) (ps : List TProbe) (s z w : TState) (x : TSight) (hl : ps.length ≤ 1000000) :
    terrierlaw18_Do_l0 (a, ps, (ps.length : Int), 0, [], s, z, w, x, ()) = some (.inl (a, s, z, w, x, ps.filter (fun p => p.1 != a), ())) := by
  unfold terrierlaw18_Do_l0
  have h := loop_fold (f := fun s : Int × (List TProbe) × Int × Int × (List TProbe) × TState × TState × TState × TSight × Unit => terrierlaw18_Do_b0 s.1 s.2.1 s.2.2.1 s.2.2.2.1 s.2.2.2.2.1 s.2.2.2.2.2.1 s.2.2.2.2.2.2.1 s.2.2.2.2.2.2.2.1 s.2.2.2.2.2.2.2.2.1) ps (fun (o : List TProbe) p => if (p.1 != a) = true then o ++ [p] else o)
    (fun o k => (a, ps, (ps.length : Int), (k : Int), o, s, z, w, x, ())) (fun o => (.inl (a, s, z, w, x, o, ()) : (Int × TState × TState × TState × TSight × (List TProbe) × Unit) ⊕ (TState × Int × (List TPack) × Unit))) (fun o k => o.length ≤ k) (fun k hk o hp => by
      show terrierlaw18_Do_b0 a ps (ps.length : Int) (k : Int) o s z w x = _
      unfold terrierlaw18_Do_b0
      rw [decide_eq_true (by omega), cnd_true, chk_pos (by omega)]
      simp only [ltO_def, recD, getD_toNat, getD_hit ps k _ hk]
      rw [w64 (by omega) (by omega)]
      cases (ps[k].1 != a) with
      | true => simp only [cnd_true, if_true]; rw [chk_pos (by show _ * _ ≤ _; simp; omega)]; rfl
      | false => rfl)
    (fun k hk o hp => by split <;> (try rw [List.length_append, List.length_singleton]) <;> omega) (fun o hp => by
      show terrierlaw18_Do_b0 a ps (ps.length : Int) (ps.length : Int) o s z w x = _
      unfold terrierlaw18_Do_b0
      rw [decide_eq_false (by omega)]; rfl) ps.length 0 [] (by omega) (by simp)
  rw [List.drop_zero] at h
  have hf : ∀ (l o : List TProbe), l.foldl (fun (o : List TProbe) p => if (p.1 != a) = true then o ++ [p] else o) o = o ++ l.filter (fun p => p.1 != a) := by
    intro l
    induction l with
    | nil => intro o; simp
    | cons x l ih =>
      intro o
      rw [List.foldl_cons, ih, List.filter_cons]
      split <;> simp
  rw [hf, List.nil_append] at h
  exact h
theorem ldo_eq {c : TCfg} (hc : CfgR c) {s : TState} (h : StR s) {e : TEv} (he : EvR e) : terrierlaw18_Do c s e = some ((doO c s e).1, (doO c s e).2.1, (doO c s e).2.2, ()) := by
  unfold terrierlaw18_Do doO elseO
  have hcl : s.2.2.2.2.2.2.length ≤ 1000000 := by have := h.cr.le; omega
  simp only [ltO_def]
  by_cases h0 : e.1 = 0
  · rw [if_pos h0, beq0 h0, cnd_true, ltick_eq hc h]; rfl
  · rw [if_neg h0, beq1 h0, cnd_false]
    by_cases h1 : e.1 = 1
    · rw [if_pos h1, beq_iff_eq.2 h1, cnd_true, putH_eq h.hr h.see.hl _ he.owner, bnd_val]
      unfold layO
      by_cases hz : (putH s.2.2.1 e.2.1).1 = 0
      · rw [if_pos hz]; simp only [bne0 hz, cnd_false]; rfl
      · rw [if_neg hz]; simp only [bne1 hz, cnd_true]
    · rw [if_neg h1, beq_eq_false_iff_ne.2 h1, cnd_false]
      by_cases h2 : e.1 = 2
      · rw [if_pos h2, beq_iff_eq.2 h2, cnd_true, takeH_eq h.hr h.see.hl]
        unfold dropO
        cases hk : hasK kH s.2.2.1 e.2.1.1 with
        | false =>
          simp only [Bool.false_eq_true, if_false, bnd_val]
          rw [stopL_eq (s.1, s.2.1, ([] : List THold), s.2.2.2) _ hcl, bnd_val]
          rfl
        | true =>
          simp only [if_true, bnd_val]
          rw [stopL_eq (s.1, s.2.1, takeH s.2.2.1 e.2.1.1, s.2.2.2) _ hcl, bnd_val]
          rfl
      · rw [if_neg h2, beq_eq_false_iff_ne.2 h2, cnd_false]
        by_cases h3 : e.1 = 3
        · rw [if_pos h3, beq_iff_eq.2 h3, cnd_true, (swPut_eq h.sw he.block).1, bnd_val]
          unfold layO
          by_cases hz : (swPut s e.2.2.1).1 = 0
          · rw [if_pos hz]; simp only [bne0 hz, cnd_false]; rfl
          · rw [if_neg hz]; simp only [bne1 hz, cnd_true]
        · rw [if_neg h3, beq_eq_false_iff_ne.2 h3, cnd_false]
          by_cases h4 : e.1 = 4
          · rw [if_pos h4, beq_iff_eq.2 h4, cnd_true, (swTake_eq h.sw _).1, bnd_val]
            unfold layO
            by_cases hz : (swTake s e.2.2.1).1 = 0
            · rw [if_pos hz]; simp only [bne0 hz, cnd_false]; rfl
            · rw [if_neg hz]; simp only [bne1 hz, cnd_true]
          · rw [if_neg h4, beq_eq_false_iff_ne.2 h4, cnd_false]
            by_cases h6 : e.1 = 6
            · rw [if_neg (show ¬ e.1 = 5 by omega), if_pos h6, beq_iff_eq.2 h6, cnd_true, approveC_eq _ _ _ hcl, bnd_val]
              unfold layO
              by_cases hz : (nextC s.2.2.2.2.2.2 e.2.1.1 0 1 s.1).1 = 0
              · rw [if_pos hz]; simp only [bne0 hz, cnd_false]; rfl
              · rw [if_neg hz]; simp only [bne1 hz, cnd_true]
            · rw [beq_eq_false_iff_ne.2 h6, cnd_false]
              by_cases h7 : e.1 = 7
              · rw [if_neg (show ¬ e.1 = 5 by omega), if_neg h6, if_pos h7, beq_iff_eq.2 h7, cnd_true, rejectC_eq _ _ _ hcl, bnd_val]
                unfold layO
                by_cases hz : (nextC s.2.2.2.2.2.2 e.2.1.1 0 2 s.1).1 = 0
                · rw [if_pos hz]; simp only [bne0 hz, cnd_false]; rfl
                · rw [if_neg hz]; simp only [bne1 hz, cnd_true]
              · rw [beq_eq_false_iff_ne.2 h7, cnd_false]
                by_cases h5 : e.1 = 5
                · rw [if_pos h5, beq_iff_eq.2 h5, cnd_true]
                  unfold sawO
                  by_cases hs : e.2.2.2.1 = 0
                  · rw [if_pos hs, beq0 hs, cnd_true, ldo0 _ _ _ _ _ _ (by have := h.pr.le; omega), bnd_val, sumO_inl]
                    have hf := ansP_filter h.pr e.2.1.1
                    simp only [ltO_def]
                    cases ha : ansP s.2.2.2.2.2.1 e.2.1.1 with
                    | none =>
                      rw [ha] at hf
                      simp only at hf
                      rw [hf, beq_iff_eq.2 rfl, cnd_true]
                    | some l =>
                      rw [ha] at hf
                      simp only at hf
                      rw [hf.1, beq_eq_false_iff_ne.2 (by omega), cnd_false]
                      have ht := h.probes (h.pr.ans ha)
                      rw [putK_eq h.kr h.see.kl h.ksl, bnd_val]
                      simp only
                      rw [stopL_eq (s.1, s.2.1, s.2.2.1, s.2.2.2.1, (putK s.2.2.2.2.1 e.2.1.1 (e.2.2.2.1, zMac, s.1)).2, l, s.2.2.2.2.2.2) _ hcl, bnd_val]
                      unfold putO
                      by_cases hz : (putK s.2.2.2.2.1 e.2.1.1 (e.2.2.2.1, zMac, s.1)).1 = 0
                      · have hz' : (putK (setP s l).2.2.2.2.1 e.2.1.1 (e.2.2.2.1, zMac, s.1)).1 = 0 := hz
                        rw [if_pos hz']; simp only [bne0 hz, cnd_false]; rfl
                      · have hz' : ¬ (putK (setP s l).2.2.2.2.1 e.2.1.1 (e.2.2.2.1, zMac, s.1)).1 = 0 := hz
                        rw [if_neg hz']; simp only [bne1 hz, cnd_true]; rfl
                  · rw [if_neg hs, beq1 hs, cnd_false, putK_eq h.kr h.see.kl h.ksl, bnd_val]
                    simp only
                    rw [stopL_eq (s.1, s.2.1, s.2.2.1, s.2.2.2.1, (putK s.2.2.2.2.1 e.2.1.1 (e.2.2.2.1, e.2.2.2.2.1, s.1)).2, s.2.2.2.2.2) _ hcl, bnd_val]
                    unfold putO
                    by_cases hz : (putK s.2.2.2.2.1 e.2.1.1 (e.2.2.2.1, e.2.2.2.2.1, s.1)).1 = 0
                    · rw [if_pos hz]; simp only [bne0 hz, cnd_false]; rfl
                    · rw [if_neg hz]; simp only [bne1 hz, cnd_true]
                · rw [if_neg h5, beq_eq_false_iff_ne.2 h5, cnd_false, if_neg h6, if_neg h7]
                  rfl
theorem packs_self (l : List TPack) (hl : l.length ≤ 1000000) : terrierlaw18_packets l l = some (true, ()) := by
  unfold terrierlaw18_packets
  simp only [ltO_def, bne_self_eq_false, cnd_false]
  have h : terrierlaw18_packets_l0 (l, l, (l.length : Int), 0, ()) = some (.inl ()) := by
    unfold terrierlaw18_packets_l0
    refine (loopM_steps (n := l.length) (fun k : Nat => (l, l, (l.length : Int), (k : Int), ())) (Nat.zero_le _) fun k _ hk => ?_).trans ?_
    · show terrierlaw18_packets_b0 l l (l.length : Int) (k : Int) = _
      unfold terrierlaw18_packets_b0
      rw [decide_eq_true (by omega), cnd_true, chk_pos (by omega)]
      simp only [ltO_def, beq_self_eq_true, Bool.and_self, Bool.not_true, cnd_false, chk_pos (show 0 ≤ (k : Int) ∧ (k : Int) < (l.length : Int) by omega)]
      rw [w64 (by omega) (by omega)]; rfl
    · refine loopM_last ?_
      show terrierlaw18_packets_b0 l l (l.length : Int) (l.length : Int) = _
      unfold terrierlaw18_packets_b0
      rw [decide_eq_false (by omega)]; rfl
  rw [h]; rfl
theorem opsDo_law {x : TCfg} (hx : C9 x) {acts : List TMac} (ha : ∀ a ∈ acts, A6 a) : terrierlaw18_OpsDo x acts = some (true, ()) := by
  unfold terrierlaw18_OpsDo
  rw [oawake_eq]
  simp only [bnd_val, Bool.not_true, cnd_false]
  obtain ⟨c, h1, hc⟩ := config_R hx
  obtain ⟨es, e1, e2, e3⟩ := events_R ha
  rw [h1]
  simp only [bnd_val]
  rw [e1]
  simp only [bnd_val]
  have hl : terrierlaw18_OpsDo_l0 ((es.length : Int), 0, c, ((0, 0, [], [], [], [], []) : TState), es, ()) = some (.inl ()) := by
    unfold terrierlaw18_OpsDo_l0
    refine ev_loop hc e3 (fun k hk s hs hn => ?_) (fun s => ?_)
    · show terrierlaw18_OpsDo_b0 (es.length : Int) (k : Int) c s es = _
      have he := e3 _ (List.getElem_mem hk)
      have ht := doO_R hc hs he.toEvR
      have hp : ((doO c s es[k]).2.2.length : Int) ≤ 64 := by
        have hr := hc.rate
        unfold doO
        split
        · have := (tickO_R hc hs).2
          simp only; omega
        · simp
      unfold terrierlaw18_OpsDo_b0
      rw [decide_eq_true (by omega), cnd_true, chk_pos (by omega), chk_pos (by omega)]
      simp only [Int.toNat_natCast, getD_hit es k _ hk]
      have hd := do_eq hc hs he.toEvR
      have hd2 := ldo_eq hc hs he.toEvR
      erw [hd]
      simp only [bnd_val]
      erw [hd2]
      simp only [bnd_val, ltO_def, chk_same, chk_nn, same_st ht, bndG_val]
      rw [packs_self _ (by omega), right_st ht]
      simp only [bndG_val, Bool.not_true, bne_self_eq_false, Bool.or_self, cnd_false, Bool.not_false]
      rw [statO_eq hc ht.see, bnd_val, how_eq hc ht.see, bnd_val]
      simp only [bne_self_eq_false, cnd_false]
      rw [w64 (by omega) (by omega)]; rfl
    · show terrierlaw18_OpsDo_b0 (es.length : Int) (es.length : Int) c s es = _
      unfold terrierlaw18_OpsDo_b0
      rw [decide_eq_false (by omega)]; rfl
  rw [hl]; rfl
end Go.Tr
