/- Whose address a tick takes: what was so before. Conditions: none but that states are right. -/
import Derived.Test.YtedeacbkaidknaaGreatOpsSt
namespace Go.Tr
open Go
set_option linter.unusedVariables false
set_option linter.unusedSimpArgs false
set_option maxRecDepth 100000
set_option maxHeartbeats 4000000
def OpenR (s : TState) : Prop := ∀ k ∈ s.2.2.2.2.2.2, openS k = true → hasK kK s.2.2.2.2.1 k.1 = true → lastK s.2.2.2.2.1 k.1 ≤ k.2.1
def SubC (xs cs : List TCase) : Prop := ∀ x ∈ xs, openS x = true → ∃ y ∈ cs, openS y = true ∧ y.1 = x.1 ∧ y.2.1 = x.2.1
theorem SubC.refl (cs : List TCase) : SubC cs cs := fun x hx ho => ⟨x, hx, ho, rfl, rfl⟩
theorem setC_sub (cs : List TCase) (a to' now : Int) (h : ¬ findC cs a < 0) : SubC (cs.set (findC cs a).toNat (setC (cs.getD (findC cs a).toNat zCase) to' now)) cs := by
  intro x hx ho
  obtain ⟨g1, g2, g3, g4⟩ := findC_in h
  rcases List.mem_or_eq_of_mem_set hx with hx | rfl
  · exact ⟨x, hx, ho, rfl, rfl⟩
  · rw [getD_hit _ _ _ g1] at g4 ⊢
    exact ⟨_, List.getElem_mem g1, g4, rfl, rfl⟩
theorem SubC.nil (cs : List TCase) : SubC [] cs := fun x hx => by simp at hx
theorem nextC_sub (cs : List TCase) (a from' to' now : Int) : SubC (nextC cs a from' to' now).2 cs := by
  unfold nextC
  split
  · exact .nil _
  · rename_i h
    split
    · exact setC_sub cs a to' now h
    · exact .nil _
theorem cancelC_sub (cs : List TCase) (a now : Int) : SubC (cancelC cs a now).2 cs := by
  unfold cancelC
  split
  · exact .nil _
  · rename_i h
    exact setC_sub cs a 4 now h
theorem tickC_sub (f : TCfg) (now : Int) (cs : List TCase) : SubC (cs.map (tickC f now)) cs := by
  intro x hx ho
  obtain ⟨y, hy, rfl⟩ := List.mem_map.1 hx
  obtain ⟨h1, h2⟩ := tickC_open ho
  exact ⟨y, hy, h1, by rw [h2], by rw [h2]⟩
theorem OpenR.sub {s t : TState} (h : OpenR s) (hc : SubC t.2.2.2.2.2.2 s.2.2.2.2.2.2) (hk : ∀ x ∈ t.2.2.2.2.2.2, openS x = true → hasK kK t.2.2.2.2.1 x.1 = true → hasK kK s.2.2.2.2.1 x.1 = true ∧ lastK t.2.2.2.2.1 x.1 = lastK s.2.2.2.2.1 x.1) : OpenR t := by
  intro x hx ho hh
  obtain ⟨y, hy, h1, h2, h3⟩ := hc x hx ho
  obtain ⟨k1, k2⟩ := hk x hx ho hh
  have := h y hy h1 (by rw [h2]; exact k1)
  rw [h2, h3] at this
  rw [k2]
  exact this
theorem OpenR.subk {s t : TState} (h : OpenR s) (hc : SubC t.2.2.2.2.2.2 s.2.2.2.2.2.2) (hk : t.2.2.2.2.1 = s.2.2.2.2.1) : OpenR t := h.sub hc fun x _ _ hh => by rw [hk] at hh ⊢; exact ⟨hh, rfl⟩
theorem ofK_mem {l : List TKnown} (hr : Rise kK l) {k : TKnown} (hk : k ∈ l) : ofK l k.1 = k.2 := by
  have hh : hasK kK l k.1 = true := List.any_eq_true.2 ⟨k, hk, by simp [kK]⟩
  obtain ⟨g1, g2⟩ := hr.at hh
  obtain ⟨j, hj, rfl⟩ := List.getElem_of_mem hk
  unfold ofK
  rw [hh]
  simp only [if_true]
  rw [getD_hit _ _ _ g1]
  rcases Nat.lt_trichotomy j (lowB kK l l[j].1) with hlt | heq | hgt
  · have h1 : l[j].1 < kK (l[lowB kK l l[j].1]) := hr.lt hlt g1
    rw [g2] at h1
    omega
  · congr 1
    exact getElem_congr_idx heq.symm
  · have h1 : kK (l[lowB kK l l[j].1]) < l[j].1 := hr.lt hgt hj
    rw [g2] at h1
    omega
theorem known_sub {m l : List TKnown} (hm : Rise kK m) (hl : Rise kK l) {b : Int} (h : ∀ k ∈ m, k.1 = b → k ∈ l) (hb : hasK kK m b = true) : hasK kK l b = true ∧ lastK m b = lastK l b := by
  obtain ⟨k, hk, he⟩ := List.any_eq_true.1 hb
  have he' : k.1 = b := by simpa [kK] using he
  have hkl := h k hk he'
  refine ⟨List.any_eq_true.2 ⟨k, hkl, he⟩, ?_⟩
  unfold lastK
  rw [← he', ofK_mem hm hk, ofK_mem hl hkl]
theorem nextO_op {c : TCfg} {s : TState} (h : OpenR s) : OpenR (nextO c s) := h.subk (t := nextO c s) (tickC_sub c _ _) rfl
theorem execF_op {c : TCfg} {s : TState} (h : OpenR s) (k : TCase) : OpenR (execF c s k) := by
  unfold execF
  split
  · split
    · exact h.subk (t := setS (setH s (takeH s.2.2.1 k.1)) (nextC s.2.2.2.2.2.2 k.1 1 5 s.1).2) (nextC_sub _ _ _ _ _) rfl
    · exact h.subk (t := setS s (cancelC s.2.2.2.2.2.2 k.1 s.1).2) (cancelC_sub _ _ _) rfl
  · exact h
theorem raiseC_mem {f : TCfg} {cs : List TCase} {a now : Int} {x : TCase} (h : x ∈ (raiseC f cs a now).2) : x ∈ cs ∨ x = newC a now := by
  unfold raiseC at h
  split at h
  · simp at h
  · split at h
    · simp at h
    · split at h
      · split at h
        · simp at h
        · rcases List.mem_append.1 h with h | h
          · rcases List.mem_append.1 h with h | h
            · exact .inl (List.take_subset _ _ h)
            · exact .inl (List.drop_subset _ _ h)
          · exact .inr (by simpa using h)
      · rcases List.mem_append.1 h with h | h
        · exact .inl h
        · exact .inr (by simpa using h)
theorem raiseF_op {c : TCfg} {s : TState} (hs : StR s) (h : OpenR s) (k : THold) : OpenR (raiseF c s k) := by
  unfold raiseF
  split
  · split
    · intro x hx ho hh
      rcases raiseC_mem hx with hx | rfl
      · exact h x hx ho hh
      · have := lastK_le hs k.1
        have hn := hs.now
        show lastK s.2.2.2.2.1 k.1 ≤ clampS s.1
        rw [clampS_self hn.1 hn.2]
        exact this
    · exact h
  · exact h
theorem tick0_op {c : TCfg} {s : TState} (hs : StR s) (h : OpenR s) : OpenR (tick0 c s) := by
  have h1 := nextO_op (c := c) h
  have r1 := nextO_R (c := c) hs
  have h2 : OpenR (execO c (nextO c s)) := fold_inv (P := fun t _ => OpenR t) _ (fun k hk t ht => execF_op ht _) _ h1
  have r2 := (execO_R (c := c) r1).st
  have h3 : StR (raiseO c (execO c (nextO c s))) ∧ OpenR (raiseO c (execO c (nextO c s))) := fold_inv (P := fun t _ => StR t ∧ OpenR t) _ (fun k hk t ht => ⟨raiseF_R ht.1 _, raiseF_op ht.1 ht.2 _⟩) _ ⟨r2, h2⟩
  have r4 := forgetO_R (c := c) h3.1
  unfold tick0
  refine h3.2.sub (t := forgetO c (raiseO c (execO c (nextO c s)))) (SubC.refl _) fun x _ _ hh => ?_
  exact known_sub (m := (forgetO c (raiseO c (execO c (nextO c s)))).2.2.2.2.1) r4.kr h3.1.kr (fun k hk _ => (List.mem_filter.1 hk).1) hh
theorem stopO_sub (s : TState) (a : Int) : SubC (stopO s a).2.2.2.2.2.2 s.2.2.2.2.2.2 := by
  unfold stopO
  split
  · exact cancelC_sub _ _ _
  · exact SubC.refl _
theorem putK_mem {l : List TKnown} (hr : Rise kK l) {a : Int} {x : TSight} {k : TKnown} (hk : k ∈ (putK l a x).2) (hne : k.1 ≠ a) : k ∈ l := by
  unfold putK at hk
  split at hk
  · simp at hk
  · split at hk
    · simp at hk
    · split at hk
      · simp at hk
      · simp only at hk
        split at hk
        · rename_i hh
          obtain ⟨g1, g2⟩ := hr.at hh
          rcases List.mem_or_eq_of_mem_set hk with hk | rfl
          · exact hk
          · rw [getD_hit _ _ _ g1] at hne
            exact absurd g2 hne
        · rcases insK_mem hk with hk | rfl
          · exact hk
          · exact absurd rfl hne
theorem putO_op {s t : TState} (h : OpenR s) (ht : OpenR t) (hst : StR t) (a : Int) {x : TSight} (hx : x.2.2 = t.1) : OpenR (putO s t a x).1 := by
  unfold putO
  split
  · rename_i h0
    have hp := putK_st hst h0 hx
    have hf := (stopO_cases hp a).1
    have hk := (stopO_kn (setK t (putK t.2.2.2.2.1 a x).2) a).1
    refine ht.sub (stopO_sub _ _) fun y hy ho hh => ?_
    have hne : y.1 ≠ a := findC_neg (cs := (stopO (setK t (putK t.2.2.2.2.1 a x).2) a).2.2.2.2.2.2) (a := a) (by omega) y hy ho
    have hh' : hasK kK (stopO (setK t (putK t.2.2.2.2.1 a x).2) a).2.2.2.2.1 y.1 = true := hh
    show hasK kK t.2.2.2.2.1 y.1 = true ∧ lastK (stopO (setK t (putK t.2.2.2.2.1 a x).2) a).2.2.2.2.1 y.1 = lastK t.2.2.2.2.1 y.1
    rw [hk] at hh' ⊢
    exact known_sub hp.kr hst.kr (fun k hk' he => putK_mem hst.kr hk' (by rw [he]; exact hne)) hh'
  · exact h
theorem doO_op {c : TCfg} {s : TState} (hs : StR s) (h : OpenR s) (e : TEv) : OpenR (doO c s e).1 := by
  unfold doO
  split
  · have hk := askO_kn (c := c) (s := tick0 c s)
    exact (tick0_op (c := c) hs h).subk (t := (askO c (tick0 c s)).1) (by rw [hk.2.2.2]; exact SubC.refl _) hk.1
  · have lay : ∀ {α : Type} (r : Int × α) (f : α → TState), (∀ z, OpenR (f z)) → OpenR (layO s r f).1 := by
      intro α r f hf
      unfold layO
      split
      · exact hf _
      · exact h
    unfold elseO
    split
    · exact lay _ _ fun z => h.subk (t := setH s z) (SubC.refl _) rfl
    · split
      · unfold dropO
        split
        · have hk := (stopO_kn (setH s (takeH s.2.2.1 e.2.1.1)) e.2.1.1).1
          exact h.subk (t := stopO (setH s (takeH s.2.2.1 e.2.1.1)) e.2.1.1) (stopO_sub _ _) hk
        · exact h
      · split
        · exact lay _ _ fun z => h.subk (t := setW s z) (SubC.refl _) rfl
        · split
          · exact lay _ _ fun z => h.subk (t := setW s z) (SubC.refl _) rfl
          · split
            · unfold sawO
              split
              · split
                · exact h
                · rename_i l hl
                  exact putO_op h (t := setP s l) (h.subk (t := setP s l) (SubC.refl _) rfl) (hs.probes (hs.pr.ans hl)) _ rfl
              · exact putO_op h h hs _ rfl
            · split
              · unfold layO
                split
                · exact h.subk (t := setS s (nextC s.2.2.2.2.2.2 e.2.1.1 0 1 s.1).2) (nextC_sub _ _ _ _ _) rfl
                · exact h
              · split
                · unfold layO
                  split
                  · exact h.subk (t := setS s (nextC s.2.2.2.2.2.2 e.2.1.1 0 2 s.1).2) (nextC_sub _ _ _ _ _) rfl
                  · exact h
                · exact h
theorem stat3_seen {c : TCfg} {s : TState} {a : Int} (h : statO c s a = 3) : 0 < (ofK s.2.2.2.2.1 a).length ∧ withinS s.1 (lastT (ofK s.2.2.2.2.1 a)) c.2.1 = false := by
  have hk := stale_held h
  unfold statO getH at h
  rw [hk] at h
  unfold statusS at h
  simp only [if_true] at h
  split at h
  · simp at h
  · split at h
    · simp at h
    · split at h
      · simp at h
      · split at h
        · rename_i h3; exact h3
        · simp at h
theorem takeH_has {l : List THold} (hr : Rise kH l) {a x : Int} (ha : hasK kH l a = true) (hx : hasK kH l x = true) (hne : x ≠ a) : hasK kH (takeH l a) x = true := by
  obtain ⟨g1, g2⟩ := hr.at ha
  have e : l = l.take (lowB kH l a) ++ l[lowB kH l a] :: l.drop (lowB kH l a + 1) := by
    rw [← List.drop_eq_getElem_cons g1, List.take_append_drop]
  unfold hasK at hx ⊢
  unfold takeH
  rw [e, List.any_append, List.any_cons] at hx
  have hz : (kH l[lowB kH l a] == x) = false := by
    rw [beq_eq_false_iff_ne, g2]
    exact fun h => hne h.symm
  rw [hz, Bool.false_or] at hx
  rw [List.any_append]
  exact hx
structure GoneR (c : TCfg) (s t : TState) (k : Nat) : Prop where
  ex : ExecI s.2.2.2.2.2.2 t k
  fr : Fr s t
  go : ∀ x, hasK kH s.2.2.1 x = true → hasK kH t.2.2.1 x = true ∨ ∃ k ∈ s.2.2.2.2.2.2, k.1 = x ∧ k.2.2.2 = 1 ∧ 0 < (ofK s.2.2.2.2.1 x).length ∧ withinS s.1 (lastT (ofK s.2.2.2.2.1 x)) c.2.1 = false
theorem exec_gone {c : TCfg} {s : TState} (h : StR s) : GoneR c s (execO c s) s.2.2.2.2.2.2.length := by
  refine fold_inv (P := fun t k => GoneR c s t k) s.2.2.2.2.2.2 (fun k hk t ht => ?_) s ⟨⟨h, rfl, fun _ _ => rfl⟩, ⟨rfl, rfl, rfl, rfl, rfl⟩, fun x hx => .inl hx⟩
  refine ⟨ht.ex.next hk, execF_Fr ht.fr _, fun x hx => ?_⟩
  rcases ht.go x hx with hg | hg
  · unfold execF
    split
    · rename_i h1
      split
      · rename_i h3
        by_cases hne : x = (s.2.2.2.2.2.2[k]).1
        · subst hne
          have := stat3_seen h3
          rw [ht.fr.kn, ht.fr.now] at this
          exact .inr ⟨_, List.getElem_mem hk, rfl, h1, this⟩
        · exact .inl (takeH_has ht.ex.st.hr (stale_held h3) hg hne)
      · exact .inl hg
    · exact .inl hg
  · exact .inr hg
theorem tick_gone {c : TCfg} {s : TState} (h : StR s) (ho : OpenR s) {x : Int} (hx : hasK kH s.2.2.1 x = true) (hg : hasK kH (tickO c s).1.2.2.1 x = false) :
    ∃ (j : Nat) (hj : j < s.2.2.2.2.2.2.length), findC s.2.2.2.2.2.2 x = (j : Int) ∧ s.2.2.2.2.2.2[j].2.2.2 = 1 ∧ (ofK s.2.2.2.2.1 x).length ≠ 0 ∧ lastK s.2.2.2.2.1 x ≤ s.2.2.2.2.2.2[j].2.1 ∧ c.2.1 ≤ (tickO c s).1.1 - lastK s.2.2.2.2.1 x ∧ 0 ≤ lastK s.2.2.2.2.1 x ∧ 0 ≤ (tickO c s).1.1 ∧ (tickO c s).1.1 ≤ 1099511627776 := by
  have hk := askO_kn (c := c) (s := tick0 c s)
  have hh : (tickO c s).1.2.2.1 = (execO c (nextO c s)).2.2.1 := by
    show (askO c (tick0 c s)).1.2.2.1 = _
    rw [hk.2.2.1, tick0_hold]
  have hnow : (tickO c s).1.1 = addS s.1 1 := by
    show (askO c (tick0 c s)).1.1 = _
    rw [hk.2.1]
    exact tick0_fr.1
  rw [hh] at hg
  rcases (exec_gone (c := c) (nextO_R (c := c) h)).go x hx with h1 | ⟨k, h1, h2, h3, h4, h5⟩
  · rw [hg] at h1; simp at h1
  · obtain ⟨y, hy, rfl⟩ := List.mem_map.1 h1
    have hop : openS (tickC c (addS s.1 1) y) = true := by unfold openS; rw [h3]; rfl
    obtain ⟨o1, o2⟩ := tickC_open hop
    rw [o2] at h2 h3
    obtain ⟨j, hj, rfl⟩ := List.getElem_of_mem hy
    have hf := h.cr.find hj o1
    rw [h2] at hf
    have h4' : 0 < (ofK s.2.2.2.2.1 x).length := h4
    have h5' : withinS (addS s.1 1) (lastT (ofK s.2.2.2.2.1 x)) c.2.1 = false := h5
    have hne : ¬ (ofK s.2.2.2.2.1 x).length = 0 := by omega
    have hkn : hasK kK s.2.2.2.2.1 x = true := by
      cases hq : hasK kK s.2.2.2.2.1 x with
      | true => rfl
      | false => unfold ofK at h4'; rw [hq] at h4'; simp at h4'
    have hlast := ho _ hy o1 (by rw [h2]; exact hkn)
    rw [h2] at hlast
    have hle := lastK_le h x
    have hln : lastK s.2.2.2.2.1 x = lastT (ofK s.2.2.2.2.1 x) := by unfold lastK; rw [if_neg hne]
    have h0 : 0 ≤ lastK s.2.2.2.2.1 x := by
      obtain ⟨g1, g2⟩ := h.kr.at hkn
      rw [hln]
      unfold ofK
      rw [hkn]
      simp only [if_true]
      rw [getD_hit _ _ _ g1]
      exact (h.ks _ (List.getElem_mem g1)).last.1.1
    have hn := h.now
    have ha := add1 hn
    refine ⟨j, hj, hf, h3, hne, hlast, ?_, h0, by rw [hnow]; omega, by rw [hnow]; omega⟩
    rw [hnow]
    rw [← hln] at h5'
    unfold withinS sinceS at h5'
    rw [clampS_self (by omega) (by omega), clampS_self (n := lastK s.2.2.2.2.1 x) h0 (by omega), decide_eq_true (by omega), Bool.true_and, decide_eq_false_iff_not] at h5'
    omega
end Go.Tr
