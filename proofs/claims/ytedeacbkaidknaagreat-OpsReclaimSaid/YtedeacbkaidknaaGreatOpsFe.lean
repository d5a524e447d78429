/- Who is seen has no open case. Conditions: none but the rows' bounds. -/
import Derived.Test.YtedeacbkaidknaaGreatOpsLs
namespace Go.Tr
open Go
set_option linter.unusedVariables false
set_option linter.unusedSimpArgs false
set_option maxRecDepth 100000
set_option maxHeartbeats 4000000
theorem stopO_cases {s : TState} (h : StR s) (a : Int) : findC (stopO s a).2.2.2.2.2.2 a < 0 ∧ (stopO s a).2.2.2.2.2.2.length = s.2.2.2.2.2.2.length := by
  unfold stopO cancelC
  by_cases h0 : findC s.2.2.2.2.2.2 a < 0
  · rw [if_pos h0, if_neg (by decide)]
    exact ⟨h0, rfl⟩
  · rw [if_neg h0, if_pos rfl]
    obtain ⟨g1, g2, g3, g4⟩ := findC_in h0
    refine ⟨?_, by show (List.set _ _ _).length = _; rw [List.length_set]⟩
    show findC (s.2.2.2.2.2.2.set _ _) a < 0
    have hany : ((s.2.2.2.2.2.2.set (findC s.2.2.2.2.2.2 a).toNat (setC (s.2.2.2.2.2.2.getD (findC s.2.2.2.2.2.2 a).toNat zCase) 4 s.1)).any fun c : TCase => c.1 == a && openS c) = false := by
      rw [List.any_eq_false]
      intro x hx
      obtain ⟨j, hj, rfl⟩ := List.getElem_of_mem hx
      rw [List.length_set] at hj
      rw [List.getElem_set]
      split
      · unfold setC openS; simp
      · rename_i hne
        intro hc
        simp only [Bool.and_eq_true, beq_iff_eq] at hc
        rw [getD_hit _ _ _ g1] at g3 g4
        rcases Nat.lt_or_gt_of_ne hne with hlt | hgt
        · exact List.pairwise_iff_getElem.1 h.cr.one _ _ g1 hj hlt g4 hc.2 (g3.trans hc.1.symm)
        · exact List.pairwise_iff_getElem.1 h.cr.one _ _ hj g1 hgt hc.2 g4 (hc.1.trans g3.symm)
    unfold Go.Tr.findC at hany ⊢
    rw [idxS_none hany]
    decide
theorem putK_st {t : TState} (ht : StR t) {a : Int} {x : TSight} (h0 : (putK t.2.2.2.2.1 a x).1 = 0) (hx : x.2.2 = t.1) : StR (setK t (putK t.2.2.2.2.1 a x).2) := by
  unfold putK at h0 ⊢
  split at h0
  · simp at h0
  · rename_i h1
    split at h0
    · simp at h0
    · rename_i h2
      split at h0
      · simp at h0
      · rename_i h3
        rw [if_neg h1, if_neg h2, if_neg h3]
        simp only
        cases hk : hasK kK t.2.2.2.2.1 a with
        | true =>
          obtain ⟨g1, g2⟩ := ht.kr.at hk
          simp only [if_true]
          rw [getD_hit _ _ _ g1]
          refine ht.known ?_ (by rw [List.length_set]; exact ht.kl) fun k hk' => ?_
          · have hm : (t.2.2.2.2.1.set (lowB kK t.2.2.2.2.1 a) ((t.2.2.2.2.1[lowB kK t.2.2.2.2.1 a]).1, keepT (t.2.2.2.2.1[lowB kK t.2.2.2.2.1 a]).2 x)).map kK = t.2.2.2.2.1.map kK := by
              rw [List.map_set]
              have : (t.2.2.2.2.1.map kK)[lowB kK t.2.2.2.2.1 a]'(by simpa using g1) = (t.2.2.2.2.1[lowB kK t.2.2.2.2.1 a]).1 := by simp
              show (t.2.2.2.2.1.map kK).set _ (t.2.2.2.2.1[lowB kK t.2.2.2.2.1 a]).1 = _
              rw [← this, List.set_getElem_self]
            unfold Rise
            rw [← List.pairwise_map (f := kK) (R := fun x y => x < y), hm, List.pairwise_map]
            exact ht.kr
          · rcases List.mem_or_eq_of_mem_set hk' with hk' | rfl
            · exact ht.ks k hk'
            · exact (ht.ks _ (List.getElem_mem g1)).keep (by omega) hx
        | false =>
          simp only [Bool.false_eq_true, if_false]
          refine ht.known (ht.kr.ins hk) ?_ fun k hk' => ?_
          · rw [insK_len]
            have h3' : ¬ 96 ≤ t.2.2.2.2.1.length := fun h => h3 ⟨hk, h⟩
            omega
          · rcases insK_mem hk' with hk' | rfl
            · exact ht.ks k hk'
            · have hn := ht.now
              exact ⟨by simp, by simp, fun y hy => by
                have : y = x := by simpa using hy
                subst this
                omega, by simp⟩
theorem lastK_le {s : TState} (h : StR s) (a : Int) : lastK s.2.2.2.2.1 a ≤ s.1 := by
  have hn := h.now
  unfold lastK
  split
  · exact hn.1
  · unfold ofK
    cases hk : hasK kK s.2.2.2.2.1 a with
    | false => rename_i h0; unfold ofK at h0; rw [hk] at h0; simp at h0
    | true =>
      obtain ⟨g1, g2⟩ := h.kr.at hk
      simp only [if_true]
      rw [getD_hit _ _ _ g1]
      exact (h.ks _ (List.getElem_mem g1)).last.1.2
end Go.Tr
