/- States that are right, and what keeps them so. What a tick does, step by step. What events do. What the program says of events. Conditions: none but those that each theorem states. -/
import Derived.Test.YtphocpikombblaaOpsKa
import Derived.Test.YtphocpikombblaaSweepY
namespace Go.Tr
open Go
set_option linter.unusedVariables false
set_option linter.unusedSimpArgs false
set_option maxRecDepth 100000
set_option maxHeartbeats 4000000
structure SeenR (now : Int) (ss : List TSight) : Prop where
  ne : 0 < ss.length
  le : ss.length ≤ 8
  ok : ∀ t ∈ ss, (0 ≤ t.1 ∧ t.1 < 4) ∧ 0 ≤ t.2.2 ∧ t.2.2 ≤ now
  so : ss.Pairwise fun x y => x.2.2 ≤ y.2.2
def prOk (p : TProbe) : Prop := in32 p.1 ∧ p.2.1 = p.1 % 65536 ∧ (0 ≤ p.2.2.1 ∧ p.2.2.1 ≤ 65535) ∧ (0 ≤ p.2.2.2.1 ∧ p.2.2.2.1 ≤ 1099511627776) ∧ (0 ≤ p.2.2.2.2 ∧ p.2.2.2.2 ≤ 8)
structure ProbR (ps : List TProbe) : Prop where
  le : ps.length ≤ 16
  ok : ∀ p ∈ ps, prOk p
  one : ps.Pairwise fun x y => x.1 ≠ y.1
def caOk (now : Int) (c : TCase) : Prop := (0 ≤ c.2.2.2 ∧ c.2.2.2 ≤ 5) ∧ (0 ≤ c.2.1 ∧ c.2.1 ≤ now) ∧ (openS c = true → c.2.2.1 = 0) ∧ (openS c = false → c.2.1 ≤ c.2.2.1 ∧ c.2.2.1 ≤ now)
structure CaseR (now : Int) (cs : List TCase) : Prop where
  le : cs.length ≤ 16
  ok : ∀ c ∈ cs, caOk now c
  one : cs.Pairwise fun x y => openS x = true → openS y = true → x.1 ≠ y.1
structure StR (s : TState) : Prop where
  now : 0 ≤ s.1 ∧ s.1 ≤ 1099511627776
  seq : 0 ≤ s.2.1 ∧ s.2.1 ≤ 65535
  hr : Rise kH s.2.2.1
  hl : s.2.2.1.length ≤ 48
  hm : ∀ h ∈ s.2.2.1, mayS h.2.1 = true
  sw : RowR s.2.2.2.1
  kr : Rise kK s.2.2.2.2.1
  kl : s.2.2.2.2.1.length ≤ 96
  ks : ∀ k ∈ s.2.2.2.2.1, SeenR s.1 k.2
  pr : ProbR s.2.2.2.2.2.1
  cr : CaseR s.1 s.2.2.2.2.2.2
theorem CaseR.find {now : Int} {cs : List TCase} (h : CaseR now cs) {i : Nat} (hi : i < cs.length) (ho : openS cs[i] = true) : findC cs cs[i].1 = (i : Int) := by
  have hany : (cs.any fun c => c.1 == cs[i].1 && openS c) = true := List.any_eq_true.2 ⟨_, List.getElem_mem hi, by simp [ho]⟩
  unfold findC
  obtain ⟨j, hj, h1, h2, _⟩ := idxS_lt (p := fun c : TCase => c.1 == cs[i].1 && openS c) (l := cs) (k := 0) (idxS_iff.2 hany)
  rw [h1, Nat.zero_add]
  simp only [Bool.and_eq_true, beq_iff_eq] at h2
  rcases Nat.lt_trichotomy i j with hlt | rfl | hgt
  · exact absurd h2.1.symm (List.pairwise_iff_getElem.1 h.one i j hi hj hlt ho h2.2)
  · rfl
  · exact absurd h2.1 (List.pairwise_iff_getElem.1 h.one j i hj hi hgt h2.2 ho)
theorem CaseR.set {now : Int} {cs : List TCase} (h : CaseR now cs) {k : Nat} (hk : k < cs.length) {c : TCase} (hc : caOk now c) (ha : c.1 = cs[k].1) (ho : openS c = true → openS cs[k] = true) : CaseR now (cs.set k c) := by
  refine ⟨by rw [List.length_set]; exact h.le, fun x hx => ?_, ?_⟩
  · rcases List.mem_or_eq_of_mem_set hx with hx | rfl
    · exact h.ok x hx
    · exact hc
  · rw [List.pairwise_iff_getElem]
    intro i j hi hj hij
    rw [List.length_set] at hi hj
    have hp := List.pairwise_iff_getElem.1 h.one i j hi hj hij
    rw [List.getElem_set, List.getElem_set]
    split
    · rename_i e
      subst e
      rw [if_neg (by omega)]
      intro h1 h2
      rw [ha]
      exact hp (ho h1) h2
    · split
      · rename_i e
        subst e
        intro h1 h2
        rw [ha]
        exact hp h1 (ho h2)
      · exact hp
theorem setC_ok {now : Int} {c : TCase} (h : caOk now c) (ho : openS c = true) {to' : Int} (ht : 1 ≤ to' ∧ to' ≤ 5) (hn : 0 ≤ now ∧ now ≤ 1099511627776) : caOk now (setC c to' now) := by
  obtain ⟨a1, b1, c1, d1⟩ := h
  unfold setC
  by_cases h1 : to' = 1
  · subst h1
    rw [if_pos (.inr rfl)]
    exact ⟨by simp, b1, fun _ => c1 ho, fun h => by simp [openS] at h⟩
  · rw [if_neg (by omega)]
    refine ⟨⟨by show 0 ≤ to'; omega, ht.2⟩, b1, fun h => ?_, fun _ => ?_⟩
    · unfold openS at h
      simp only [Bool.or_eq_true, beq_iff_eq] at h
      omega
    · show c.2.1 ≤ clampS now ∧ clampS now ≤ now
      rw [clampS_self hn.1 hn.2]; omega
theorem CaseR.next {now : Int} {cs : List TCase} (h : CaseR now cs) (hn : 0 ≤ now ∧ now ≤ 1099511627776) {a : Int} (hf : ¬ findC cs a < 0) {to' : Int} (ht : 1 ≤ to' ∧ to' ≤ 5) :
    CaseR now (cs.set (findC cs a).toNat (setC (cs.getD (findC cs a).toNat zCase) to' now)) := by
  obtain ⟨h1, h2, h3, h4⟩ := findC_in hf
  rw [getD_hit _ _ _ h1] at h3 h4 ⊢
  exact h.set h1 (setC_ok (h.ok _ (List.getElem_mem h1)) h4 ht hn) rfl fun _ => h4
theorem CaseR.nil {now : Int} : CaseR now [] := ⟨by simp, by simp, List.Pairwise.nil⟩
theorem CaseR.nextC {now : Int} {cs : List TCase} (h : CaseR now cs) (hn : 0 ≤ now ∧ now ≤ 1099511627776) (a : Int) {from' to' : Int} (ht : 1 ≤ to' ∧ to' ≤ 5) : CaseR now (nextC cs a from' to' now).2 := by
  unfold Go.Tr.nextC
  split
  · exact .nil
  · rename_i hf
    split
    · exact h.next hn hf ht
    · exact .nil
theorem CaseR.cancel {now : Int} {cs : List TCase} (h : CaseR now cs) (hn : 0 ≤ now ∧ now ≤ 1099511627776) (a : Int) : CaseR now (cancelC cs a now).2 := by
  unfold cancelC
  split
  · exact .nil
  · rename_i hf
    exact h.next hn hf (by omega)
theorem CaseR.app {now : Int} {cs : List TCase} (h : CaseR now cs) (hn : 0 ≤ now ∧ now ≤ 1099511627776) {a : Int} (ha : ∀ c ∈ cs, openS c = true → c.1 ≠ a) (hl : cs.length < 16) : CaseR now (cs ++ [newC a now]) := by
  refine ⟨by simp; omega, fun c hc => ?_, ?_⟩
  · rcases List.mem_append.1 hc with hc | hc
    · exact h.ok c hc
    · have : c = newC a now := by simpa using hc
      subst this
      unfold newC
      rw [clampS_self hn.1 hn.2]
      exact ⟨by simp, ⟨hn.1, Int.le_refl _⟩, fun _ => rfl, fun h => by simp [openS] at h⟩
  · rw [List.pairwise_append]
    refine ⟨h.one, by simp, fun x hx y hy ho _ => ?_⟩
    have : y = newC a now := by simpa using hy
    subst this
    exact ha x hx ho
theorem ProbR.put {ps : List TProbe} (h : ProbR ps) {p : TProbe} (hp : prOk p) (h0 : (putP ps p).1 = 0) : ProbR (putP ps p).2 := by
  unfold putP at h0 ⊢
  split at h0
  · simp at h0
  · rename_i ha
    split at h0
    · simp at h0
    · rename_i hl
      rw [if_neg ha, if_neg hl]
      refine ⟨by simp; omega, fun x hx => ?_, ?_⟩
      · rcases List.mem_append.1 hx with hx | hx
        · exact h.ok x hx
        · have : x = p := by simpa using hx
          subst this; exact hp
      · rw [List.pairwise_append]
        refine ⟨h.one, by simp, fun x hx y hy => ?_⟩
        have : y = p := by simpa using hy
        subst this
        have := List.any_eq_false.1 (Bool.eq_false_iff.2 ha) x hx
        simpa using this
theorem ProbR.sub {l m : List TProbe} (h : ProbR l) (hs : m.Sublist l) : ProbR m := ⟨Nat.le_trans hs.length_le h.le, fun p hp => h.ok p (hs.mem hp), h.one.sublist hs⟩
theorem Rise.sub {α : Type} {key : α → Int} {l m : List α} (h : Rise key l) (hs : m.Sublist l) : Rise key m := List.Pairwise.sublist hs h
theorem Rise.nil {α : Type} {key : α → Int} : Rise key ([] : List α) := List.Pairwise.nil
theorem SeenR.last {now : Int} {ss : List TSight} (h : SeenR now ss) : (0 ≤ lastT ss ∧ lastT ss ≤ now) ∧ ∀ t ∈ ss, t.2.2 ≤ lastT ss := by
  have hne := h.ne
  have hl : ss.length - 1 < ss.length := by omega
  unfold lastT
  rw [getD_hit _ _ _ hl]
  refine ⟨(h.ok _ (List.getElem_mem hl)).2, fun t ht => ?_⟩
  obtain ⟨j, hj, rfl⟩ := List.getElem_of_mem ht
  by_cases e : j = ss.length - 1
  · simp only [e]; exact Int.le_refl _
  · exact List.pairwise_iff_getElem.1 h.so j (ss.length - 1) hj hl (by omega)
theorem SeenR.keep {now : Int} {ss : List TSight} (h : SeenR now ss) {s : TSight} (hs : 0 ≤ s.1 ∧ s.1 < 4) (ha : s.2.2 = now) : SeenR now (keepT ss s) := by
  have hl := h.last
  have hsub : (keepT ss s).Sublist (ss ++ [s]) := List.drop_sublist _ _
  have hlen : (keepT ss s).length = min (ss.length + 1) 8 := by unfold keepT; simp; omega
  refine ⟨by have := h.ne; omega, by omega, fun t ht => ?_, List.Pairwise.sublist hsub ?_⟩
  · rcases List.mem_append.1 (hsub.mem ht) with ht | ht
    · exact h.ok t ht
    · have : t = s := by simpa using ht
      subst this
      have := h.last.1
      omega
  · rw [List.pairwise_append]
    refine ⟨h.so, by simp, fun x hx y hy => ?_⟩
    have : y = s := by simpa using hy
    subst this
    have := hl.2 x hx
    have := hl.1
    omega
end Go.Tr
namespace Go.Tr
open Go
set_option linter.unusedVariables false
set_option linter.unusedSimpArgs false
set_option maxRecDepth 100000
set_option maxHeartbeats 4000000
def statO (c : TCfg) (s : TState) (a : Int) : Int := statusS c (getH s.2.2.1 a) (ofK s.2.2.2.2.1 a) s.1
def execF (c : TCfg) (s : TState) (k : TCase) : TState :=
  if k.2.2.2 = 1 then (if statO c s k.1 = 3 then setS (setH s (takeH s.2.2.1 k.1)) (nextC s.2.2.2.2.2.2 k.1 1 5 s.1).2 else setS s (cancelC s.2.2.2.2.2.2 k.1 s.1).2) else s
def execO (c : TCfg) (s : TState) : TState := s.2.2.2.2.2.2.foldl (execF c) s
structure ExecI (cs : List TCase) (s : TState) (k : Nat) : Prop where
  st : StR s
  len : s.2.2.2.2.2.2.length = cs.length
  same : ∀ j, k ≤ j → s.2.2.2.2.2.2[j]? = cs[j]?
theorem StR.cases {s : TState} (h : StR s) {x : List TCase} (hx : CaseR s.1 x) : StR (setS s x) := ⟨h.now, h.seq, h.hr, h.hl, h.hm, h.sw, h.kr, h.kl, h.ks, h.pr, hx⟩
theorem StR.holders {s : TState} (h : StR s) {x : List THold} (h1 : Rise kH x) (h2 : x.length ≤ 48) (h3 : ∀ y ∈ x, mayS y.2.1 = true) : StR (setH s x) := ⟨h.now, h.seq, h1, h2, h3, h.sw, h.kr, h.kl, h.ks, h.pr, h.cr⟩
theorem take_sub {l : List THold} (a : Int) : (takeH l a).Sublist l := dropk_sub l _
theorem StR.take {s : TState} (h : StR s) (a : Int) : StR (setH s (takeH s.2.2.1 a)) :=
  h.holders (h.hr.sub (take_sub a)) (Nat.le_trans (take_sub a).length_le h.hl) fun y hy => h.hm y ((take_sub a).mem hy)
theorem ExecI.find {cs : List TCase} {s : TState} {k : Nat} (h : ExecI cs s k) (hk : k < cs.length) (ho : openS cs[k] = true) : findC s.2.2.2.2.2.2 cs[k].1 = (k : Int) := by
  have hk' : k < s.2.2.2.2.2.2.length := by rw [h.len]; exact hk
  have hs := h.same k (Nat.le_refl _)
  rw [List.getElem?_eq_getElem hk', List.getElem?_eq_getElem hk, Option.some.injEq] at hs
  rw [← hs] at ho ⊢
  exact h.st.cr.find hk' ho
theorem ExecI.next {c : TCfg} {cs : List TCase} {s : TState} {k : Nat} (h : ExecI cs s k) (hk : k < cs.length) : ExecI cs (execF c s cs[k]) (k + 1) := by
  unfold execF
  split
  · rename_i h1
    have ho : openS cs[k] = true := by unfold openS; rw [h1]; rfl
    have hf := h.find hk ho
    have hnn : ¬ findC s.2.2.2.2.2.2 cs[k].1 < 0 := by omega
    have hse : ∀ to', (s.2.2.2.2.2.2.set (findC s.2.2.2.2.2.2 cs[k].1).toNat (setC (s.2.2.2.2.2.2.getD (findC s.2.2.2.2.2.2 cs[k].1).toNat zCase) to' s.1)).length = cs.length ∧ ∀ j, k + 1 ≤ j → (s.2.2.2.2.2.2.set (findC s.2.2.2.2.2.2 cs[k].1).toNat (setC (s.2.2.2.2.2.2.getD (findC s.2.2.2.2.2.2 cs[k].1).toNat zCase) to' s.1))[j]? = cs[j]? := by
      intro to'
      refine ⟨by rw [List.length_set]; exact h.len, fun j hj => ?_⟩
      rw [hf, Int.toNat_natCast, List.getElem?_set_ne (by omega)]
      exact h.same j (by omega)
    split
    · have hst : (s.2.2.2.2.2.2.getD (findC s.2.2.2.2.2.2 cs[k].1).toNat zCase).2.2.2 = 1 := by
        have hk' : k < s.2.2.2.2.2.2.length := by rw [h.len]; exact hk
        have hs := h.same k (Nat.le_refl _)
        rw [List.getElem?_eq_getElem hk', List.getElem?_eq_getElem hk, Option.some.injEq] at hs
        rw [hf, Int.toNat_natCast, getD_hit _ _ _ hk', hs]; exact h1
      have e : (nextC s.2.2.2.2.2.2 cs[k].1 1 5 s.1).2 = s.2.2.2.2.2.2.set (findC s.2.2.2.2.2.2 cs[k].1).toNat (setC (s.2.2.2.2.2.2.getD (findC s.2.2.2.2.2.2 cs[k].1).toNat zCase) 5 s.1) := by
        unfold nextC; rw [if_neg hnn, if_pos hst]
      refine ⟨(h.st.take _).cases (h.st.cr.nextC h.st.now _ (by omega)), ?_, ?_⟩
      · show (nextC s.2.2.2.2.2.2 cs[k].1 1 5 s.1).2.length = _
        rw [e]; exact (hse 5).1
      · intro j hj
        show (nextC s.2.2.2.2.2.2 cs[k].1 1 5 s.1).2[j]? = _
        rw [e]; exact (hse 5).2 j hj
    · have e : (cancelC s.2.2.2.2.2.2 cs[k].1 s.1).2 = s.2.2.2.2.2.2.set (findC s.2.2.2.2.2.2 cs[k].1).toNat (setC (s.2.2.2.2.2.2.getD (findC s.2.2.2.2.2.2 cs[k].1).toNat zCase) 4 s.1) := by
        unfold cancelC; rw [if_neg hnn]
      refine ⟨h.st.cases (h.st.cr.cancel h.st.now _), ?_, ?_⟩
      · show (cancelC s.2.2.2.2.2.2 cs[k].1 s.1).2.length = _
        rw [e]; exact (hse 4).1
      · intro j hj
        show (cancelC s.2.2.2.2.2.2 cs[k].1 s.1).2[j]? = _
        rw [e]; exact (hse 4).2 j hj
  · exact ⟨h.st, h.len, fun j hj => h.same j (by omega)⟩
def raiseF (c : TCfg) (s : TState) (h : THold) : TState :=
  if statO c s h.1 = 3 then (if (raiseC c s.2.2.2.2.2.2 h.1 s.1).1 = 0 then setS s (raiseC c s.2.2.2.2.2.2 h.1 s.1).2 else s) else s
def raiseO (c : TCfg) (s : TState) : TState := s.2.2.1.foldl (raiseF c) s
def wantO (c : TCfg) (s : TState) (k : TKnown) : Bool := hasK kH s.2.2.1 k.1 || (decide ((ofK s.2.2.2.2.1 k.1).length ≠ 0) && withinS s.1 (lastK s.2.2.2.2.1 k.1) c.2.1)
def forgetO (c : TCfg) (s : TState) : TState := setK s (s.2.2.2.2.1.filter (wantO c s))
end Go.Tr
namespace Go.Tr
open Go
set_option linter.unusedVariables false
set_option linter.unusedSimpArgs false
set_option maxRecDepth 100000
set_option maxHeartbeats 4000000
def nextO (c : TCfg) (s : TState) : TState := (addS s.1 1, s.2.1, s.2.2.1, s.2.2.2.1, s.2.2.2.2.1, s.2.2.2.2.2.1, s.2.2.2.2.2.2.map (tickC c (addS s.1 1)))
structure EvR (e : TEv) : Prop where
  block : in32 e.2.2.1.1
  owner : e.2.1.2.1.length ≤ 140737488355328
end Go.Tr
namespace Go.Tr
open Go
set_option linter.unusedVariables false
set_option linter.unusedSimpArgs false
set_option maxRecDepth 100000
set_option maxHeartbeats 4000000
end Go.Tr
