/- States behind acts can be written. Conditions: none but that states are right. -/
import Derived.Test.YtklmhllelgjglaaGreatOpsKe
import Derived.Test.YtklmhllelgjglaaGreatCodecT
namespace Go.Tr
open Go
set_option linter.unusedVariables false
set_option linter.unusedSimpArgs false
set_option maxRecDepth 100000
set_option maxHeartbeats 4000000
structure WfSt (s : TState) : Prop where
  h : ∀ x ∈ s.2.2.1, in32 x.1 ∧ M6ok x.2.2
  k : ∀ x ∈ s.2.2.2.2.1, in32 x.1 ∧ ∀ y ∈ x.2, M6ok y.2.1
  c : ∀ x ∈ s.2.2.2.2.2.2, in32 x.1
theorem nextC_mem {cs : List TCase} {a f t now : Int} {x : TCase} (h : x ∈ (nextC cs a f t now).2) : ∃ y ∈ cs, y.1 = x.1 := by
  unfold nextC at h
  split at h
  · simp at h
  · rename_i hf
    split at h
    · obtain ⟨g1, _⟩ := findC_in hf
      rcases List.mem_or_eq_of_mem_set h with h | rfl
      · exact ⟨x, h, rfl⟩
      · rw [getD_hit _ _ _ g1]
        exact ⟨_, List.getElem_mem g1, rfl⟩
    · simp at h
theorem cancelC_mem {cs : List TCase} {a now : Int} {x : TCase} (h : x ∈ (cancelC cs a now).2) : ∃ y ∈ cs, y.1 = x.1 := by
  unfold cancelC at h
  split at h
  · simp at h
  · rename_i hf
    obtain ⟨g1, _⟩ := findC_in hf
    rcases List.mem_or_eq_of_mem_set h with h | rfl
    · exact ⟨x, h, rfl⟩
    · rw [getD_hit _ _ _ g1]
      exact ⟨_, List.getElem_mem g1, rfl⟩
theorem WfSt.cases {s : TState} (h : WfSt s) {x : List TCase} (hx : ∀ z ∈ x, ∃ y ∈ s.2.2.2.2.2.2, y.1 = z.1) : WfSt (setS s x) := ⟨h.h, h.k, fun z hz => by
  obtain ⟨y, hy, e⟩ := hx z hz
  rw [← e]
  exact h.c y hy⟩
theorem WfSt.holders {s : TState} (h : WfSt s) {x : List THold} (hx : ∀ z ∈ x, z ∈ s.2.2.1) : WfSt (setH s x) := ⟨fun z hz => h.h z (hx z hz), h.k, h.c⟩
theorem nextO_W {c : TCfg} {s : TState} (h : WfSt s) : WfSt (nextO c s) := ⟨h.h, h.k, fun x hx => by
  obtain ⟨y, hy, rfl⟩ := List.mem_map.1 hx
  rw [tickC_addr]
  exact h.c y hy⟩
theorem execF_W {c : TCfg} {s : TState} (h : WfSt s) (k : TCase) : WfSt (execF c s k) := by
  unfold execF
  split
  · split
    · exact (h.holders (fun z hz => (take_sub k.1).mem hz)).cases fun z hz => nextC_mem hz
    · exact h.cases fun z hz => cancelC_mem hz
  · exact h
theorem raiseF_W {c : TCfg} {s : TState} (h : WfSt s) {k : THold} (hk : in32 k.1) : WfSt (raiseF c s k) := by
  unfold raiseF
  split
  · split
    · refine ⟨h.h, h.k, fun x hx => ?_⟩
      rcases raiseC_mem hx with hx | rfl
      · exact h.c x hx
      · exact hk
    · exact h
  · exact h
theorem tick0_W {c : TCfg} {s : TState} (h : WfSt s) : WfSt (tick0 c s) := by
  have h1 := nextO_W (c := c) h
  have h2 : WfSt (execO c (nextO c s)) := fold_inv (P := fun t _ => WfSt t) _ (fun k hk t ht => execF_W ht _) _ h1
  have h3 : WfSt (raiseO c (execO c (nextO c s))) := fold_inv (P := fun t _ => WfSt t) _ (fun k hk t ht => raiseF_W ht (h2.h _ (List.getElem_mem hk)).1) _ h2
  exact ⟨h3.h, fun k hk => h3.k k (List.mem_filter.1 hk).1, h3.c⟩
theorem stopO_W {s : TState} (h : WfSt s) (a : Int) : WfSt (stopO s a) := by
  unfold stopO
  split
  · exact h.cases fun z hz => cancelC_mem hz
  · exact h
theorem putK_new {l : List TKnown} (hr : Rise kK l) {a : Int} {x : TSight} {k : TKnown} (hk : k ∈ (putK l a x).2) : k ∈ l ∨ (∃ y ∈ l, k.1 = y.1 ∧ k.2 = keepT y.2 x) ∨ k = (a, [x]) := by
  unfold putK at hk
  split at hk
  · simp at hk
  · split at hk
    · simp at hk
    · split at hk
      · simp at hk
      · simp only at hk
        split at hk
        · rename_i hh
          obtain ⟨g1, g2⟩ := hr.at hh
          rcases List.mem_or_eq_of_mem_set hk with hk | rfl
          · exact .inl hk
          · rw [getD_hit _ _ _ g1]
            exact .inr (.inl ⟨_, List.getElem_mem g1, rfl, rfl⟩)
        · rcases insK_mem hk with hk | rfl
          · exact .inl hk
          · exact .inr (.inr rfl)
theorem putO_W {s t : TState} (h : WfSt s) (ht : WfSt t) (hr : Rise kK t.2.2.2.2.1) {a : Int} (ha : in32 a) {x : TSight} (hx : M6ok x.2.1) : WfSt (putO s t a x).1 := by
  unfold putO
  split
  · refine stopO_W (s := setK t (putK t.2.2.2.2.1 a x).2) ⟨ht.h, fun k hk => ?_, ht.c⟩ a
    rcases putK_new hr hk with hk | ⟨y, hy, e1, e2⟩ | rfl
    · exact ht.k k hk
    · rw [e1, e2]
      refine ⟨(ht.k y hy).1, fun z hz => ?_⟩
      have hz' : z ∈ y.2 ++ [x] := List.drop_subset _ _ hz
      rcases List.mem_append.1 hz' with hz' | hz'
      · exact (ht.k y hy).2 z hz'
      · have : z = x := by simpa using hz'
        rw [this]; exact hx
    · exact ⟨ha, fun z hz => by
        have : z = x := by simpa using hz
        rw [this]; exact hx⟩
  · exact h
theorem doO_W {c : TCfg} {s : TState} (hs : StR s) (h : WfSt s) {e : TEv} (ha : in32 e.2.1.1) (hm : M6ok e.2.1.2.2) (hx : M6ok e.2.2.2.2.1) : WfSt (doO c s e).1 := by
  unfold doO
  split
  · have hk := askO_kn (c := c) (s := tick0 c s)
    have ht := tick0_W (c := c) h
    show WfSt (askO c (tick0 c s)).1
    exact ⟨by rw [hk.2.2.1]; exact ht.h, by rw [hk.1]; exact ht.k, by rw [hk.2.2.2]; exact ht.c⟩
  · unfold elseO
    split
    · unfold layO
      split
      · rename_i h0
        refine ⟨fun z hz => ?_, h.k, h.c⟩
        have hz' : z ∈ (putH s.2.2.1 e.2.1).2 := hz
        unfold putH at hz'
        split at hz'
        · simp at hz'
        · split at hz'
          · simp at hz'
          · split at hz'
            · simp at hz'
            · rcases insK_mem hz' with hz' | rfl
              · exact h.h z hz'
              · exact ⟨ha, hm⟩
      · exact h
    · split
      · unfold dropO
        split
        · exact stopO_W (h.holders fun z hz => (take_sub e.2.1.1).mem hz) _
        · exact h
      · split
        · unfold layO
          split
          · exact ⟨h.h, h.k, h.c⟩
          · exact h
        · split
          · unfold layO
            split
            · exact ⟨h.h, h.k, h.c⟩
            · exact h
          · split
            · unfold sawO
              split
              · split
                · exact h
                · rename_i l hl
                  exact putO_W h (t := setP s l) ⟨h.h, h.k, h.c⟩ hs.kr ha zMac_ok
              · exact putO_W h h hs.kr ha hx
            · split
              · unfold layO
                split
                · exact h.cases fun z hz => nextC_mem hz
                · exact h
              · split
                · unfold layO
                  split
                  · exact h.cases fun z hz => nextC_mem hz
                  · exact h
                · exact h
theorem zSt_W : WfSt zeroS := ⟨by simp [zeroS], by simp [zeroS], by simp [zeroS]⟩
theorem some_W {c : TCfg} (hc : CfgR c) {acts : List TMac} (ha : ∀ a ∈ acts, A6 a) : ∃ s, terrierlaw18_Some c acts = some (s, ()) ∧ StR s ∧ WfSt s :=
  some_P zSt_W hc (fun s e hs he h => doO_W hs h (by have := he.addr; unfold in32; omega) he.hm he.sm) ha
theorem StR.ok {s : TState} (h : StR s) (hw : WfSt s) : StOk s := by
  refine ⟨fun x hx => ⟨(hw.h x hx).1, ?_, (hw.h x hx).2⟩, by have := h.hl; omega, fun x hx => (h.sw.all x hx).1, by have := h.sw.len; omega, fun x hx => ⟨(hw.k x hx).1, ?_, (hw.k x hx).2⟩, by have := h.kl; omega, fun x hx => (h.pr.ok x hx).1, by have := h.pr.le; omega, hw.c, by have := h.cr.le; omega⟩
  · have := h.hm x hx
    unfold mayS at this
    simp only [Bool.and_eq_true, decide_eq_true_eq] at this
    omega
  · have := (h.ks x hx).le; omega
theorem StR.bd {s : TState} (h : StR s) : StBd s := ⟨fun x hx y hy => by
  have := ((h.ks x hx).ok y hy).2
  have := h.now
  omega⟩
theorem StR.back {s : TState} (h : StR s) (hw : WfSt s) : rdSt (stB s) = (s, true) := rdSt_back (h.ok hw) h.bd h.rightS
end Go.Tr
