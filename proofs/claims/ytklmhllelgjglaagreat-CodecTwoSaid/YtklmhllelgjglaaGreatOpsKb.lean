/- States that are right, and what keeps them so. What a tick does, step by step. What events do. What the program says of events. Conditions: none but those that each theorem states. -/
import Derived.Test.YtklmhllelgjglaaGreatOpsKa
import Derived.Test.YtklmhllelgjglaaGreatSweepY
namespace Go.Tr
open Go
set_option linter.unusedVariables false
set_option linter.unusedSimpArgs false
set_option maxRecDepth 100000
set_option maxHeartbeats 4000000
structure SeenR (now : Int) (ss : List TSight) : Prop where
  ne : 0 < ss.length
  le : ss.length ≤ 8
  ok : ∀ t ∈ ss, (0 ≤ t.1 ∧ t.1 < 4) ∧ 0 ≤ t.2.2 ∧ t.2.2 ≤ now
  so : ss.Pairwise fun x y => x.2.2 ≤ y.2.2
def prOk (p : TProbe) : Prop := in32 p.1 ∧ p.2.1 = p.1 % 65536 ∧ (0 ≤ p.2.2.1 ∧ p.2.2.1 ≤ 65535) ∧ (0 ≤ p.2.2.2.1 ∧ p.2.2.2.1 ≤ 1099511627776) ∧ (0 ≤ p.2.2.2.2 ∧ p.2.2.2.2 ≤ 8)
structure ProbR (ps : List TProbe) : Prop where
  le : ps.length ≤ 16
  ok : ∀ p ∈ ps, prOk p
  one : ps.Pairwise fun x y => x.1 ≠ y.1
def caOk (now : Int) (c : TCase) : Prop := (0 ≤ c.2.2.2 ∧ c.2.2.2 ≤ 5) ∧ (0 ≤ c.2.1 ∧ c.2.1 ≤ now) ∧ (openS c = true → c.2.2.1 = 0) ∧ (openS c = false → c.2.1 ≤ c.2.2.1 ∧ c.2.2.1 ≤ now)
structure CaseR (now : Int) (cs : List TCase) : Prop where
  le : cs.length ≤ 16
  ok : ∀ c ∈ cs, caOk now c
  one : cs.Pairwise fun x y => openS x = true → openS y = true → x.1 ≠ y.1
structure StR (s : TState) : Prop where
  now : 0 ≤ s.1 ∧ s.1 ≤ 1099511627776
  seq : 0 ≤ s.2.1 ∧ s.2.1 ≤ 65535
  hr : Rise kH s.2.2.1
  hl : s.2.2.1.length ≤ 48
  hm : ∀ h ∈ s.2.2.1, mayS h.2.1 = true
  sw : RowR s.2.2.2.1
  kr : Rise kK s.2.2.2.2.1
  kl : s.2.2.2.2.1.length ≤ 96
  ks : ∀ k ∈ s.2.2.2.2.1, SeenR s.1 k.2
  pr : ProbR s.2.2.2.2.2.1
  cr : CaseR s.1 s.2.2.2.2.2.2
theorem StR.ksl {s : TState} (h : StR s) : ∀ k ∈ s.2.2.2.2.1, k.2.length ≤ 1000000 := fun k hk => by have := (h.ks k hk).le; omega
theorem CaseR.find {now : Int} {cs : List TCase} (h : CaseR now cs) {i : Nat} (hi : i < cs.length) (ho : openS cs[i] = true) : findC cs cs[i].1 = (i : Int) := by
  have hany : (cs.any fun c => c.1 == cs[i].1 && openS c) = true := List.any_eq_true.2 ⟨_, List.getElem_mem hi, by simp [ho]⟩
  unfold findC
  obtain ⟨j, hj, h1, h2, _⟩ := idxS_lt (p := fun c : TCase => c.1 == cs[i].1 && openS c) (l := cs) (k := 0) (idxS_iff.2 hany)
  rw [h1, Nat.zero_add]
  simp only [Bool.and_eq_true, beq_iff_eq] at h2
  rcases Nat.lt_trichotomy i j with hlt | rfl | hgt
  · exact absurd h2.1.symm (List.pairwise_iff_getElem.1 h.one i j hi hj hlt ho h2.2)
  · rfl
  · exact absurd h2.1 (List.pairwise_iff_getElem.1 h.one j i hj hi hgt h2.2 ho)
theorem CaseR.casesS {now : Int} {cs : List TCase} (h : CaseR now cs) (hn : now ≤ 1099511627776) : casesS cs = true := by
  unfold Go.Tr.casesS
  rw [Bool.and_eq_true, List.all_eq_true, decide_eq_true_eq]
  refine ⟨fun i hi => ?_, h.le⟩
  have hi' : i < cs.length := by simp at hi; exact hi
  unfold caseP case1
  have hg : cs.getD i (0, 0, 0, 0) = cs[i] := getD_hit _ _ _ hi'
  rw [hg]
  obtain ⟨⟨a1, a2⟩, ⟨b1, b2⟩, c1, d1⟩ := h.ok _ (List.getElem_mem hi')
  simp only [Bool.and_eq_true, decide_eq_true_eq]
  refine ⟨a1, a2, (clampS_self (by omega) (by omega)).symm, ?_, ?_⟩
  · cases ho : openS cs[i] with
    | true => rw [c1 ho]; rfl
    | false => have := d1 ho; exact (clampS_self (by omega) (by omega)).symm
  · cases ho : openS cs[i] with
    | true => simp [c1 ho, h.find hi' ho]
    | false => simp [(d1 ho).1]
theorem CaseR.later {now now' : Int} {cs : List TCase} (h : CaseR now cs) (hn : now ≤ now') : CaseR now' cs := by
  refine ⟨h.le, fun c hc => ?_, h.one⟩
  obtain ⟨a1, b1, c1, d1⟩ := h.ok c hc
  exact ⟨a1, by omega, c1, fun ho => by have := d1 ho; omega⟩
theorem pairwise_map_le {α β : Type} {R : α → α → Prop} {S : β → β → Prop} {f : α → β} (hf : ∀ x y, R x y → S (f x) (f y)) : ∀ {l : List α}, l.Pairwise R → (l.map f).Pairwise S
  | [], _ => List.Pairwise.nil
  | x :: l, h => by
    rw [List.pairwise_cons] at h
    rw [List.map_cons, List.pairwise_cons]
    refine ⟨fun y hy => ?_, pairwise_map_le hf h.2⟩
    obtain ⟨z, hz, rfl⟩ := List.mem_map.1 hy
    exact hf _ _ (h.1 z hz)
theorem tickC_open {f : TCfg} {now : Int} {c : TCase} (h : openS (tickC f now c) = true) : openS c = true ∧ tickC f now c = c := by
  unfold tickC at h ⊢
  split at h
  · simp [openS] at h
  · rename_i hc; rw [if_neg hc]; exact ⟨h, rfl⟩
theorem tickC_addr (f : TCfg) (now : Int) (c : TCase) : (tickC f now c).1 = c.1 := by unfold tickC; split <;> rfl
theorem CaseR.tick {now : Int} {cs : List TCase} (h : CaseR now cs) (f : TCfg) (hn : 0 ≤ now ∧ now ≤ 1099511627776) : CaseR now (cs.map (tickC f now)) := by
  refine ⟨by rw [List.length_map]; exact h.le, fun c hc => ?_, ?_⟩
  · obtain ⟨x, hx, rfl⟩ := List.mem_map.1 hc
    obtain ⟨a1, b1, c1, d1⟩ := h.ok x hx
    unfold tickC
    split
    · rename_i hs
      refine ⟨by simp, b1, fun ho => by simp [openS] at ho, fun _ => ?_⟩
      show x.2.1 ≤ clampS now ∧ clampS now ≤ now
      rw [clampS_self hn.1 hn.2]; omega
    · exact ⟨a1, b1, c1, d1⟩
  · refine pairwise_map_le (fun x y hxy h1 h2 => ?_) h.one
    rw [tickC_addr, tickC_addr]
    exact hxy (tickC_open h1).1 (tickC_open h2).1
theorem CaseR.set {now : Int} {cs : List TCase} (h : CaseR now cs) {k : Nat} (hk : k < cs.length) {c : TCase} (hc : caOk now c) (ha : c.1 = cs[k].1) (ho : openS c = true → openS cs[k] = true) : CaseR now (cs.set k c) := by
  refine ⟨by rw [List.length_set]; exact h.le, fun x hx => ?_, ?_⟩
  · rcases List.mem_or_eq_of_mem_set hx with hx | rfl
    · exact h.ok x hx
    · exact hc
  · rw [List.pairwise_iff_getElem]
    intro i j hi hj hij
    rw [List.length_set] at hi hj
    have hp := List.pairwise_iff_getElem.1 h.one i j hi hj hij
    rw [List.getElem_set, List.getElem_set]
    split
    · rename_i e
      subst e
      rw [if_neg (by omega)]
      intro h1 h2
      rw [ha]
      exact hp (ho h1) h2
    · split
      · rename_i e
        subst e
        intro h1 h2
        rw [ha]
        exact hp h1 (ho h2)
      · exact hp
theorem setC_ok {now : Int} {c : TCase} (h : caOk now c) (ho : openS c = true) {to' : Int} (ht : 1 ≤ to' ∧ to' ≤ 5) (hn : 0 ≤ now ∧ now ≤ 1099511627776) : caOk now (setC c to' now) := by
  obtain ⟨a1, b1, c1, d1⟩ := h
  unfold setC
  by_cases h1 : to' = 1
  · subst h1
    rw [if_pos (.inr rfl)]
    exact ⟨by simp, b1, fun _ => c1 ho, fun h => by simp [openS] at h⟩
  · rw [if_neg (by omega)]
    refine ⟨⟨by show 0 ≤ to'; omega, ht.2⟩, b1, fun h => ?_, fun _ => ?_⟩
    · unfold openS at h
      simp only [Bool.or_eq_true, beq_iff_eq] at h
      omega
    · show c.2.1 ≤ clampS now ∧ clampS now ≤ now
      rw [clampS_self hn.1 hn.2]; omega
theorem CaseR.next {now : Int} {cs : List TCase} (h : CaseR now cs) (hn : 0 ≤ now ∧ now ≤ 1099511627776) {a : Int} (hf : ¬ findC cs a < 0) {to' : Int} (ht : 1 ≤ to' ∧ to' ≤ 5) :
    CaseR now (cs.set (findC cs a).toNat (setC (cs.getD (findC cs a).toNat zCase) to' now)) := by
  obtain ⟨h1, h2, h3, h4⟩ := findC_in hf
  rw [getD_hit _ _ _ h1] at h3 h4 ⊢
  exact h.set h1 (setC_ok (h.ok _ (List.getElem_mem h1)) h4 ht hn) rfl fun _ => h4
theorem CaseR.nil {now : Int} : CaseR now [] := ⟨by simp, by simp, List.Pairwise.nil⟩
theorem CaseR.nextC {now : Int} {cs : List TCase} (h : CaseR now cs) (hn : 0 ≤ now ∧ now ≤ 1099511627776) (a : Int) {from' to' : Int} (ht : 1 ≤ to' ∧ to' ≤ 5) : CaseR now (nextC cs a from' to' now).2 := by
  unfold Go.Tr.nextC
  split
  · exact .nil
  · rename_i hf
    split
    · exact h.next hn hf ht
    · exact .nil
theorem CaseR.cancel {now : Int} {cs : List TCase} (h : CaseR now cs) (hn : 0 ≤ now ∧ now ≤ 1099511627776) (a : Int) : CaseR now (cancelC cs a now).2 := by
  unfold cancelC
  split
  · exact .nil
  · rename_i hf
    exact h.next hn hf (by omega)
theorem findC_neg {cs : List TCase} {a : Int} (h : ¬ 0 ≤ findC cs a) : ∀ c ∈ cs, openS c = true → c.1 ≠ a := by
  intro c hc ho he
  apply h
  unfold findC
  exact idxS_iff.2 (List.any_eq_true.2 ⟨c, hc, by simp [ho, he]⟩)
theorem CaseR.app {now : Int} {cs : List TCase} (h : CaseR now cs) (hn : 0 ≤ now ∧ now ≤ 1099511627776) {a : Int} (ha : ∀ c ∈ cs, openS c = true → c.1 ≠ a) (hl : cs.length < 16) : CaseR now (cs ++ [newC a now]) := by
  refine ⟨by simp; omega, fun c hc => ?_, ?_⟩
  · rcases List.mem_append.1 hc with hc | hc
    · exact h.ok c hc
    · have : c = newC a now := by simpa using hc
      subst this
      unfold newC
      rw [clampS_self hn.1 hn.2]
      exact ⟨by simp, ⟨hn.1, Int.le_refl _⟩, fun _ => rfl, fun h => by simp [openS] at h⟩
  · rw [List.pairwise_append]
    refine ⟨h.one, by simp, fun x hx y hy ho _ => ?_⟩
    have : y = newC a now := by simpa using hy
    subst this
    exact ha x hx ho
theorem CaseR.raise {now : Int} {cs : List TCase} (h : CaseR now cs) (hn : 0 ≤ now ∧ now ≤ 1099511627776) (f : TCfg) (a : Int) : CaseR now (raiseC f cs a now).2 := by
  unfold raiseC
  have hle := h.le
  split
  · exact .nil
  · rename_i hf
    split
    · exact .nil
    · split
      · rename_i h16
        split
        · exact .nil
        · rename_i hs
          have hsl := spareF_lt f cs now cs.length
          have hsub := dropk_sub cs (spareF f cs now cs.length).toNat
          have hlen : (cs.take (spareF f cs now cs.length).toNat ++ cs.drop ((spareF f cs now cs.length).toNat + 1)).length + 1 = cs.length := by simp; omega
          exact CaseR.app ⟨by omega, fun c hc => h.ok c (hsub.mem hc), h.one.sublist hsub⟩ hn (fun c hc => findC_neg hf c (hsub.mem hc)) (by omega)
      · exact CaseR.app h hn (findC_neg hf) (by omega)
theorem pr_map {ps : List TProbe} : (ps.Pairwise fun x y => x.1 ≠ y.1) ↔ (ps.map (·.1)).Pairwise (· ≠ ·) := by rw [List.pairwise_map]
theorem late_all {c : TCfg} (hc : CfgR c) {now room : Int} : ∀ (ps : List TProbe) (q : List TProbe × List TProbe), (∀ p ∈ ps, prOk p) → (∀ p ∈ q.1, prOk p) →
    (∀ p ∈ (ps.foldl (lateF c now room) q).1, prOk p) ∧ (((ps.foldl (lateF c now room) q).1.map (·.1)).Sublist (q.1.map (·.1) ++ ps.map (·.1))) ∧ ((q.2.length : Int) ≤ max 0 room → ((ps.foldl (lateF c now room) q).2.length : Int) ≤ max 0 room)
  | [], q, _, hq => ⟨hq, by simp, fun h => h⟩
  | p :: ps, q, hp, hq => by
    have h1 : ∀ x ∈ (lateF c now room q p).1, prOk x := by
      obtain ⟨a1, a2, a3, a4, a5⟩ := hp p (by simp)
      unfold lateF
      split
      · intro x hx
        rcases List.mem_append.1 hx with hx | hx
        · exact hq x hx
        · have : x = p := by simpa using hx
          subst this; exact hp _ (by simp)
      · split
        · exact hq
        · rename_i hag
          split
          · intro x hx
            rcases List.mem_append.1 hx with hx | hx
            · exact hq x hx
            · have : x = (p.1, p.2.1, p.2.2.1, clampS now, p.2.2.2.2 + 1) := by simpa using hx
              subst this
              have := hc.again
              exact ⟨a1, a2, a3, clampS_in now, by show 0 ≤ p.2.2.2.2 + 1 ∧ p.2.2.2.2 + 1 ≤ 8; omega⟩
          · intro x hx
            rcases List.mem_append.1 hx with hx | hx
            · exact hq x hx
            · have : x = p := by simpa using hx
              subst this; exact hp _ (by simp)
    obtain ⟨g1, g2, g3⟩ := late_all hc (now := now) (room := room) ps (lateF c now room q p) (fun x hx => hp x (by simp [hx])) h1
    refine ⟨g1, g2.trans ?_, fun h => g3 ?_⟩
    · have : ((lateF c now room q p).1.map (·.1)).Sublist (q.1.map (·.1) ++ [p.1]) := by
        unfold lateF
        split
        · simp
        · split
          · simp
          · split <;> simp
      have h2 := List.Sublist.append this (List.Sublist.refl (ps.map (·.1)))
      simpa using h2
    · unfold lateF
      split
      · exact h
      · split
        · exact h
        · split
          · simp only [List.length_append, List.length_singleton]; omega
          · exact h
theorem ProbR.late {c : TCfg} (hc : CfgR c) {ps : List TProbe} (h : ProbR ps) (now room : Int) : ProbR (lateP c ps now room).1 ∧ ((lateP c ps now room).2.length : Int) ≤ max 0 room := by
  obtain ⟨g1, g2, g3⟩ := late_all hc (now := now) (room := room) ps ([], []) h.ok (by simp)
  simp only [List.map_nil, List.nil_append] at g2
  refine ⟨⟨?_, g1, pr_map.2 ((pr_map.1 h.one).sublist g2)⟩, g3 (by simp; omega)⟩
  have := g2.length_le
  simp only [List.length_map] at this
  exact Nat.le_trans this h.le
theorem ofP_ok {a seq : Int} (ha : in32 a) (now : Int) : prOk (ofP a seq now) := by
  unfold ofP
  exact ⟨ha, rfl, by show 0 ≤ seq % 65536 ∧ seq % 65536 ≤ 65535; omega, clampS_in now, by simp⟩
theorem ProbR.put {ps : List TProbe} (h : ProbR ps) {p : TProbe} (hp : prOk p) (h0 : (putP ps p).1 = 0) : ProbR (putP ps p).2 := by
  unfold putP at h0 ⊢
  split at h0
  · simp at h0
  · rename_i ha
    split at h0
    · simp at h0
    · rename_i hl
      rw [if_neg ha, if_neg hl]
      refine ⟨by simp; omega, fun x hx => ?_, ?_⟩
      · rcases List.mem_append.1 hx with hx | hx
        · exact h.ok x hx
        · have : x = p := by simpa using hx
          subst this; exact hp
      · rw [List.pairwise_append]
        refine ⟨h.one, by simp, fun x hx y hy => ?_⟩
        have : y = p := by simpa using hy
        subst this
        have := List.any_eq_false.1 (Bool.eq_false_iff.2 ha) x hx
        simpa using this
theorem ProbR.sub {l m : List TProbe} (h : ProbR l) (hs : m.Sublist l) : ProbR m := ⟨Nat.le_trans hs.length_le h.le, fun p hp => h.ok p (hs.mem hp), h.one.sublist hs⟩
theorem ProbR.ans {ps l : List TProbe} {a : Int} (h : ProbR ps) (ha : ansP ps a = some l) : ProbR l := by
  unfold ansP at ha
  split at ha
  · simp only [Option.some.injEq] at ha
    subst ha
    exact h.sub (dropk_sub _ _)
  · simp at ha
theorem ProbR.probesS {ps : List TProbe} (h : ProbR ps) : probesS ps = true := by
  unfold Go.Tr.probesS
  rw [Bool.and_eq_true, List.all_eq_true, decide_eq_true_eq]
  refine ⟨fun i hi => ?_, h.le⟩
  have hi' : i < ps.length := by simp at hi; exact hi
  unfold probeP
  have hg : ps.getD i (0, 0, 0, 0, 0) = ps[i] := getD_hit _ _ _ hi'
  simp only [hg]
  obtain ⟨a1, a2, a3, a4, a5⟩ := h.ok _ (List.getElem_mem hi')
  simp only [Bool.and_eq_true, decide_eq_true_eq, Bool.not_eq_true']
  refine ⟨⟨a2, a3, (clampS_self a4.1 a4.2).symm, a5⟩, ?_⟩
  rw [List.any_eq_false]
  intro x hx
  obtain ⟨j, hj, rfl⟩ := List.getElem_of_mem hx
  rw [List.length_take] at hj
  rw [List.getElem_take]
  have := List.pairwise_iff_getElem.1 h.one j i (by omega) hi' (by omega)
  simpa using this
theorem Rise.sub {α : Type} {key : α → Int} {l m : List α} (h : Rise key l) (hs : m.Sublist l) : Rise key m := List.Pairwise.sublist hs h
theorem Rise.nil {α : Type} {key : α → Int} : Rise key ([] : List α) := List.Pairwise.nil
theorem Rise.ins {α : Type} {key : α → Int} {l : List α} (h : Rise key l) {x : α} (hx : hasK key l (key x) = false) : Rise key (insK key l x) := by
  have hno : ∀ y ∈ l, key y ≠ key x := fun y hy e => by
    have := List.any_eq_false.1 hx y hy
    simp [e] at this
  unfold insK Rise
  have hlow : ∀ y ∈ l.take (lowB key l (key x)), key y < key x := fun y hy => by
    obtain ⟨j, hj, rfl⟩ := List.getElem_of_mem hy
    rw [List.length_take] at hj
    rw [List.getElem_take]
    exact lowB_lt (by omega) _
  have hhigh : ∀ y ∈ l.drop (lowB key l (key x)), key x < key y := fun y hy => by
    obtain ⟨j, hj, rfl⟩ := List.getElem_of_mem hy
    rw [List.length_drop] at hj
    rw [List.getElem_drop]
    have h1 := h.ge (a := key x) (i := lowB key l (key x) + j) (by omega) (by omega)
    have h2 := hno _ (List.getElem_mem (show lowB key l (key x) + j < l.length by omega))
    omega
  rw [List.append_assoc, List.pairwise_append]
  refine ⟨List.Pairwise.sublist (List.take_sublist _ _) h, ?_, fun y hy z hz => ?_⟩
  · rw [List.singleton_append, List.pairwise_cons]
    exact ⟨hhigh, List.Pairwise.sublist (List.drop_sublist _ _) h⟩
  · rcases List.mem_append.1 hz with hz | hz
    · have : z = x := by simpa using hz
      subst this; exact hlow y hy
    · have := hlow y hy
      have := hhigh z hz
      omega
theorem insK_mem {α : Type} {key : α → Int} {l : List α} {x y : α} (h : y ∈ insK key l x) : y ∈ l ∨ y = x := by
  unfold insK at h
  rcases List.mem_append.1 h with h | h
  · rcases List.mem_append.1 h with h | h
    · exact .inl (List.take_subset _ _ h)
    · exact .inr (by simpa using h)
  · exact .inl (List.drop_subset _ _ h)
theorem insK_len {α : Type} {key : α → Int} {l : List α} {x : α} : (insK key l x).length = l.length + 1 := by
  have := lowB_le key l (key x)
  unfold insK; simp; omega
theorem StR.heldS {s : TState} (h : StR s) : heldS s.2.2.1 = true := by
  unfold Go.Tr.heldS
  rw [Bool.and_eq_true, List.all_eq_true, decide_eq_true_eq]
  refine ⟨fun i hi => ?_, h.hl⟩
  have hi' : i < s.2.2.1.length := by simp at hi; exact hi
  unfold heldP
  rw [getD_hit _ _ _ hi', h.hm _ (List.getElem_mem hi'), Bool.true_and, Bool.or_eq_true, decide_eq_true_eq, decide_eq_true_eq]
  by_cases h0 : i = 0
  · exact .inl h0
  · refine .inr ?_
    rw [getD_hit _ _ _ (show i - 1 < _ by omega)]
    exact h.hr.lt (i := i - 1) (j := i) (by omega) hi'
theorem SeenR.sightsS {now : Int} {ss : List TSight} (h : SeenR now ss) : sightsS ss = true := by
  unfold Go.Tr.sightsS
  rw [List.all_eq_true]
  intro j hj
  have hj' : j < ss.length := by simp at hj; exact hj
  unfold sight1
  rw [getD_hit _ _ _ hj']
  obtain ⟨a1, a2, a3⟩ := h.ok _ (List.getElem_mem hj')
  simp only [Bool.and_eq_true, decide_eq_true_eq, Bool.or_eq_true]
  refine ⟨a1.1, a1.2, a2, ?_⟩
  by_cases h0 : j = 0
  · exact .inl h0
  · refine .inr ?_
    rw [getD_hit _ _ _ (show j - 1 < _ by omega)]
    exact List.pairwise_iff_getElem.1 h.so (j - 1) j (by omega) hj' (by omega)
theorem StR.knownS {s : TState} (h : StR s) : knownS s.2.2.2.2.1 = true := by
  unfold Go.Tr.knownS
  rw [Bool.and_eq_true, List.all_eq_true, decide_eq_true_eq]
  refine ⟨fun i hi => ?_, h.kl⟩
  have hi' : i < s.2.2.2.2.1.length := by simp at hi; exact hi
  unfold knownP
  rw [getD_hit _ _ _ hi']
  have hk := h.ks _ (List.getElem_mem hi')
  simp only [Bool.and_eq_true, decide_eq_true_eq, Bool.or_eq_true]
  refine ⟨?_, by have := hk.ne; omega, hk.le, hk.sightsS⟩
  by_cases h0 : i = 0
  · exact .inl h0
  · refine .inr ?_
    rw [getD_hit _ _ _ (show i - 1 < _ by omega)]
    exact h.kr.lt (i := i - 1) (j := i) (by omega) hi'
theorem StR.rightS {s : TState} (h : StR s) : rightS s = true := by
  unfold Go.Tr.rightS
  simp only [Bool.and_eq_true, decide_eq_true_eq]
  exact ⟨h.now.1, h.now.2, h.seq.1, h.seq.2, h.heldS, RowR_right h.sw, h.knownS, h.pr.probesS, h.cr.casesS h.now.2⟩
theorem SeenR.later {now now' : Int} {ss : List TSight} (h : SeenR now ss) (hn : now ≤ now') : SeenR now' ss := ⟨h.ne, h.le, fun t ht => by have := h.ok t ht; omega, h.so⟩
theorem SeenR.last {now : Int} {ss : List TSight} (h : SeenR now ss) : (0 ≤ lastT ss ∧ lastT ss ≤ now) ∧ ∀ t ∈ ss, t.2.2 ≤ lastT ss := by
  have hne := h.ne
  have hl : ss.length - 1 < ss.length := by omega
  unfold lastT
  rw [getD_hit _ _ _ hl]
  refine ⟨(h.ok _ (List.getElem_mem hl)).2, fun t ht => ?_⟩
  obtain ⟨j, hj, rfl⟩ := List.getElem_of_mem ht
  by_cases e : j = ss.length - 1
  · simp only [e]; exact Int.le_refl _
  · exact List.pairwise_iff_getElem.1 h.so j (ss.length - 1) hj hl (by omega)
theorem SeenR.keep {now : Int} {ss : List TSight} (h : SeenR now ss) {s : TSight} (hs : 0 ≤ s.1 ∧ s.1 < 4) (ha : s.2.2 = now) : SeenR now (keepT ss s) := by
  have hl := h.last
  have hsub : (keepT ss s).Sublist (ss ++ [s]) := List.drop_sublist _ _
  have hlen : (keepT ss s).length = min (ss.length + 1) 8 := by unfold keepT; simp; omega
  refine ⟨by have := h.ne; omega, by omega, fun t ht => ?_, List.Pairwise.sublist hsub ?_⟩
  · rcases List.mem_append.1 (hsub.mem ht) with ht | ht
    · exact h.ok t ht
    · have : t = s := by simpa using ht
      subst this
      have := h.last.1
      omega
  · rw [List.pairwise_append]
    refine ⟨h.so, by simp, fun x hx y hy => ?_⟩
    have : y = s := by simpa using hy
    subst this
    have := hl.2 x hx
    have := hl.1
    omega
theorem fold_in32 {room every : Int} : ∀ (D : List Int) (p : List TSweep × List Int), RowR p.1 → (∀ k ∈ D, inD p.1 k) → (∀ a ∈ p.2, in32 a) → ∀ a ∈ (D.foldl (stepS room every) p).2, in32 a
  | [], p, _, _, h => h
  | k :: D, p, h, hk, hp => by
    refine fold_in32 D (stepS room every p k) (step_R h (hk k (by simp))).1 (fun j hj => by
      have := hk j (by simp [hj])
      unfold inD at this ⊢
      rw [step_len]; exact this) fun a ha => ?_
    have hkl : k.toNat < p.1.length := by have := hk k (by simp); unfold inD at this; omega
    have hsw := h.all _ (List.getElem_mem hkl)
    have hn := askN_le (room := room) (asks := p.2) (swR_I hsw)
    unfold stepS at ha
    rw [getD_hit _ _ _ hkl] at ha
    rcases List.mem_append.1 ha with ha | ha
    · exact hp a ha
    · unfold askL at ha
      obtain ⟨i, hi, rfl⟩ := List.mem_map.1 ha
      obtain ⟨g1, g2, g3, g4, g5⟩ := hsw
      have hb := blk_of g1 g2 g3
      have ht := hb.t
      have hz : szB p.1[k.toNat].1 = Wd p.1[k.toNat].1.2 := by unfold szB; rw [if_pos g2]
      rw [List.mem_range] at hi
      have hn2 := hn.2
      rw [hz] at hn2
      unfold in32 at g1 ⊢
      have hii : (i : Int) < (askN room p.1[k.toNat] p.2 : Int) := by omega
      omega
end Go.Tr
namespace Go.Tr
open Go
set_option linter.unusedVariables false
set_option linter.unusedSimpArgs false
set_option maxRecDepth 100000
set_option maxHeartbeats 4000000
abbrev TPack : Type := Bool × Int × Int × TMac × Int × Int
def statO (c : TCfg) (s : TState) (a : Int) : Int := statusS c (getH s.2.2.1 a) (ofK s.2.2.2.2.1 a) s.1
theorem ofK_len {l : List TKnown} (hs : ∀ x ∈ l, x.2.length ≤ 1000000) (a : Int) : (ofK l a).length ≤ 1000000 := by
  unfold ofK
  split
  · rw [List.getD_eq_getElem?_getD]
    cases hh : l[lowB kK l a]? with
    | none => simp
    | some x => exact hs x (List.mem_of_getElem? hh)
  · simp
structure SeeR (s : TState) : Prop where
  hr : Rise kH s.2.2.1
  hl : s.2.2.1.length ≤ 1000000
  kr : Rise kK s.2.2.2.2.1
  kl : s.2.2.2.2.1.length ≤ 1000000
  ks : ∀ k ∈ s.2.2.2.2.1, k.2.length ≤ 1000000
theorem StR.see {s : TState} (h : StR s) : SeeR s := ⟨h.hr, by have := h.hl; omega, h.kr, by have := h.kl; omega, h.ksl⟩
theorem statO_eq {c : TCfg} (hc : CfgR c) {s : TState} (h : SeeR s) (a : Int) : ops_Status c s a = some (statO c s a, ()) := by
  unfold ops_Status statO
  rw [getH_eq h.hr h.hl, bnd_val]
  have hl := ofK_len h.ks a
  unfold getH
  cases hasK kH s.2.2.1 a with
  | true =>
    simp only [cnd_true, if_true, ofK_eq h.kr h.kl h.ks, bnd_val, Option.getD_some]
    rw [status_some c hc _ _ _ hl]; rfl
  | false =>
    simp only [cnd_false, Bool.false_eq_true, if_false, ofK_eq h.kr h.kl h.ks, bnd_val]
    rw [status_none c hc _ _ hl]; rfl
theorem stale_held {c : TCfg} {s : TState} {a : Int} (h : statO c s a = 3) : hasK kH s.2.2.1 a = true := by
  unfold statO getH at h
  cases hk : hasK kH s.2.2.1 a with
  | true => rfl
  | false =>
    rw [hk] at h
    unfold statusS at h
    simp only [Bool.false_eq_true, if_false] at h
    split at h
    · simp at h
    · split at h <;> simp at h
def execF (c : TCfg) (s : TState) (k : TCase) : TState :=
  if k.2.2.2 = 1 then (if statO c s k.1 = 3 then setS (setH s (takeH s.2.2.1 k.1)) (nextC s.2.2.2.2.2.2 k.1 1 5 s.1).2 else setS s (cancelC s.2.2.2.2.2.2 k.1 s.1).2) else s
def execO (c : TCfg) (s : TState) : TState := s.2.2.2.2.2.2.foldl (execF c) s
structure ExecI (cs : List TCase) (s : TState) (k : Nat) : Prop where
  st : StR s
  len : s.2.2.2.2.2.2.length = cs.length
  same : ∀ j, k ≤ j → s.2.2.2.2.2.2[j]? = cs[j]?
theorem StR.cases {s : TState} (h : StR s) {x : List TCase} (hx : CaseR s.1 x) : StR (setS s x) := ⟨h.now, h.seq, h.hr, h.hl, h.hm, h.sw, h.kr, h.kl, h.ks, h.pr, hx⟩
theorem StR.holders {s : TState} (h : StR s) {x : List THold} (h1 : Rise kH x) (h2 : x.length ≤ 48) (h3 : ∀ y ∈ x, mayS y.2.1 = true) : StR (setH s x) := ⟨h.now, h.seq, h1, h2, h3, h.sw, h.kr, h.kl, h.ks, h.pr, h.cr⟩
theorem StR.sweeps {s : TState} (h : StR s) {x : List TSweep} (hx : RowR x) : StR (setW s x) := ⟨h.now, h.seq, h.hr, h.hl, h.hm, hx, h.kr, h.kl, h.ks, h.pr, h.cr⟩
theorem StR.known {s : TState} (h : StR s) {x : List TKnown} (h1 : Rise kK x) (h2 : x.length ≤ 96) (h3 : ∀ k ∈ x, SeenR s.1 k.2) : StR (setK s x) := ⟨h.now, h.seq, h.hr, h.hl, h.hm, h.sw, h1, h2, h3, h.pr, h.cr⟩
theorem StR.probes {s : TState} (h : StR s) {x : List TProbe} (hx : ProbR x) : StR (setP s x) := ⟨h.now, h.seq, h.hr, h.hl, h.hm, h.sw, h.kr, h.kl, h.ks, hx, h.cr⟩
theorem take_sub {l : List THold} (a : Int) : (takeH l a).Sublist l := dropk_sub l _
theorem StR.take {s : TState} (h : StR s) (a : Int) : StR (setH s (takeH s.2.2.1 a)) :=
  h.holders (h.hr.sub (take_sub a)) (Nat.le_trans (take_sub a).length_le h.hl) fun y hy => h.hm y ((take_sub a).mem hy)
theorem ExecI.find {cs : List TCase} {s : TState} {k : Nat} (h : ExecI cs s k) (hk : k < cs.length) (ho : openS cs[k] = true) : findC s.2.2.2.2.2.2 cs[k].1 = (k : Int) := by
  have hk' : k < s.2.2.2.2.2.2.length := by rw [h.len]; exact hk
  have hs := h.same k (Nat.le_refl _)
  rw [List.getElem?_eq_getElem hk', List.getElem?_eq_getElem hk, Option.some.injEq] at hs
  rw [← hs] at ho ⊢
  exact h.st.cr.find hk' ho
theorem ExecI.next {c : TCfg} {cs : List TCase} {s : TState} {k : Nat} (h : ExecI cs s k) (hk : k < cs.length) : ExecI cs (execF c s cs[k]) (k + 1) := by
  unfold execF
  split
  · rename_i h1
    have ho : openS cs[k] = true := by unfold openS; rw [h1]; rfl
    have hf := h.find hk ho
    have hnn : ¬ findC s.2.2.2.2.2.2 cs[k].1 < 0 := by omega
    have hse : ∀ to', (s.2.2.2.2.2.2.set (findC s.2.2.2.2.2.2 cs[k].1).toNat (setC (s.2.2.2.2.2.2.getD (findC s.2.2.2.2.2.2 cs[k].1).toNat zCase) to' s.1)).length = cs.length ∧ ∀ j, k + 1 ≤ j → (s.2.2.2.2.2.2.set (findC s.2.2.2.2.2.2 cs[k].1).toNat (setC (s.2.2.2.2.2.2.getD (findC s.2.2.2.2.2.2 cs[k].1).toNat zCase) to' s.1))[j]? = cs[j]? := by
      intro to'
      refine ⟨by rw [List.length_set]; exact h.len, fun j hj => ?_⟩
      rw [hf, Int.toNat_natCast, List.getElem?_set_ne (by omega)]
      exact h.same j (by omega)
    split
    · have hst : (s.2.2.2.2.2.2.getD (findC s.2.2.2.2.2.2 cs[k].1).toNat zCase).2.2.2 = 1 := by
        have hk' : k < s.2.2.2.2.2.2.length := by rw [h.len]; exact hk
        have hs := h.same k (Nat.le_refl _)
        rw [List.getElem?_eq_getElem hk', List.getElem?_eq_getElem hk, Option.some.injEq] at hs
        rw [hf, Int.toNat_natCast, getD_hit _ _ _ hk', hs]; exact h1
      have e : (nextC s.2.2.2.2.2.2 cs[k].1 1 5 s.1).2 = s.2.2.2.2.2.2.set (findC s.2.2.2.2.2.2 cs[k].1).toNat (setC (s.2.2.2.2.2.2.getD (findC s.2.2.2.2.2.2 cs[k].1).toNat zCase) 5 s.1) := by
        unfold nextC; rw [if_neg hnn, if_pos hst]
      refine ⟨(h.st.take _).cases (h.st.cr.nextC h.st.now _ (by omega)), ?_, ?_⟩
      · show (nextC s.2.2.2.2.2.2 cs[k].1 1 5 s.1).2.length = _
        rw [e]; exact (hse 5).1
      · intro j hj
        show (nextC s.2.2.2.2.2.2 cs[k].1 1 5 s.1).2[j]? = _
        rw [e]; exact (hse 5).2 j hj
    · have e : (cancelC s.2.2.2.2.2.2 cs[k].1 s.1).2 = s.2.2.2.2.2.2.set (findC s.2.2.2.2.2.2 cs[k].1).toNat (setC (s.2.2.2.2.2.2.getD (findC s.2.2.2.2.2.2 cs[k].1).toNat zCase) 4 s.1) := by
        unfold cancelC; rw [if_neg hnn]
      refine ⟨h.st.cases (h.st.cr.cancel h.st.now _), ?_, ?_⟩
      · show (cancelC s.2.2.2.2.2.2 cs[k].1 s.1).2.length = _
        rw [e]; exact (hse 4).1
      · intro j hj
        show (cancelC s.2.2.2.2.2.2 cs[k].1 s.1).2[j]? = _
        rw [e]; exact (hse 4).2 j hj
  · exact ⟨h.st, h.len, fun j hj => h.same j (by omega)⟩
theorem fold_inv {α A : Type} {g : A → α → A} {P : A → Nat → Prop} : ∀ (xs : List α), (∀ k (h : k < xs.length) a, P a k → P (g a xs[k]) (k + 1)) → ∀ a, P a 0 → P (xs.foldl g a) xs.length
  | [], _, a, h => h
  | x :: xs, hs, a, h => by
    have := fold_inv (P := fun a k => P a (k + 1)) xs (fun k hk a hp => hs (k + 1) (Nat.succ_lt_succ hk) a hp) (g a x) (hs 0 (Nat.succ_pos _) a h)
    exact this
theorem execO_R {c : TCfg} {s : TState} (h : StR s) : ExecI s.2.2.2.2.2.2 (execO c s) s.2.2.2.2.2.2.length :=
  fold_inv (P := fun t k => ExecI s.2.2.2.2.2.2 t k) s.2.2.2.2.2.2 (fun k hk a hp => hp.next hk) s ⟨h, rfl, fun _ _ => rfl⟩
theorem execO_eq {c : TCfg} (hc : CfgR c) {s : TState} (h : StR s) : ops_execute c s = some (execO c s, ()) := by
  unfold ops_execute ops_execute_l0 execO
  have hle := h.cr.le
  generalize hcs : s.2.2.2.2.2.2 = cs at hle ⊢
  generalize hz : ((0, 0, [], [], [], [], []) : TState) = z
  have hl := loop_fold (f := fun s : (List TCase) × Int × Int × TCfg × TState × TState × Unit => ops_execute_b0 s.1 s.2.1 s.2.2.1 s.2.2.2.1 s.2.2.2.2.1 s.2.2.2.2.2.1) cs (execF c)
    (fun t k => (cs, (cs.length : Int), (k : Int), c, t, z, ())) (fun t => (.inl (t, z, ()) : (TState × TState × Unit) ⊕ (TState × Unit))) (fun t k => ExecI cs t k) (fun k hk t hp => by
      show ops_execute_b0 cs (cs.length : Int) (k : Int) c t z = _
      unfold ops_execute_b0 execF
      rw [decide_eq_true (by omega), cnd_true, chk_pos (by omega)]
      simp only [ltO_def, recD, getD_toNat, getD_hit cs k _ hk]
      rw [w64 (by omega) (by omega)]
      by_cases h1 : cs[k].2.2.2 = 1
      · have e1 : (cs[k].2.2.2 != 1) = false := by rw [h1]; rfl
        rw [e1, if_pos h1, cnd_false, statO_eq hc hp.st.see, bnd_val]
        have hcl : t.2.2.2.2.2.2.length ≤ 1000000 := by have := hp.st.cr.le; omega
        by_cases h3 : statO c t cs[k].1 = 3
        · have e2 : (statO c t cs[k].1 != 3) = false := by rw [h3]; rfl
          simp only [e2]
          rw [if_pos h3, cnd_false, doneC_eq _ _ _ hcl, bnd_val, takeH_eq hp.st.hr hp.st.see.hl, if_pos (stale_held h3), bnd_val]
          rfl
        · have e2 : (statO c t cs[k].1 != 3) = true := bne_iff_ne.2 h3
          simp only [e2]
          rw [if_neg h3, cnd_true, cancelC_eq _ _ _ hcl, bnd_val]
          rfl
      · have e1 : (cs[k].2.2.2 != 1) = true := bne_iff_ne.2 h1
        rw [e1, if_neg h1, cnd_true]; rfl)
    (fun k hk t hp => hp.next hk) (fun t hp => by
      show ops_execute_b0 cs (cs.length : Int) (cs.length : Int) c t z = _
      unfold ops_execute_b0
      rw [decide_eq_false (by omega)]; rfl) cs.length 0 s (by omega) ⟨h, by rw [hcs], fun _ _ => by rw [hcs]⟩
  rw [List.drop_zero] at hl
  have hl' : loopM (fun s : (List TCase) × Int × Int × TCfg × TState × TState × Unit => ops_execute_b0 s.1 s.2.1 s.2.2.1 s.2.2.2.1 s.2.2.2.2.1 s.2.2.2.2.2.1) (cs, (cs.length : Int), (0 : Int), c, s, z, ()) = _ := hl
  rw [hl']; rfl
def raiseF (c : TCfg) (s : TState) (h : THold) : TState :=
  if statO c s h.1 = 3 then (if (raiseC c s.2.2.2.2.2.2 h.1 s.1).1 = 0 then setS s (raiseC c s.2.2.2.2.2.2 h.1 s.1).2 else s) else s
def raiseO (c : TCfg) (s : TState) : TState := s.2.2.1.foldl (raiseF c) s
theorem raiseF_R {c : TCfg} {s : TState} (h : StR s) (x : THold) : StR (raiseF c s x) := by
  unfold raiseF
  split
  · split
    · exact h.cases (h.cr.raise h.now c _)
    · exact h
  · exact h
theorem raiseO_R {c : TCfg} {s : TState} (h : StR s) : StR (raiseO c s) := fold_inv (P := fun t _ => StR t) s.2.2.1 (fun k hk a hp => raiseF_R hp _) s h
theorem raiseO_eq {c : TCfg} (hc : CfgR c) {s : TState} (h : StR s) : ops_raise c s = some (raiseO c s, ()) := by
  unfold ops_raise ops_raise_l0 raiseO
  have hle := h.hl
  generalize hcs : s.2.2.1 = hs at hle ⊢
  generalize hz : ((0, 0, [], [], [], [], []) : TState) = z
  have hl := loop_fold (f := fun s : (List THold) × Int × Int × TCfg × TState × TState × Unit => ops_raise_b0 s.1 s.2.1 s.2.2.1 s.2.2.2.1 s.2.2.2.2.1 s.2.2.2.2.2.1) hs (raiseF c)
    (fun t k => (hs, (hs.length : Int), (k : Int), c, t, z, ())) (fun t => (.inl (t, z, ()) : (TState × TState × Unit) ⊕ (TState × Unit))) (fun t k => StR t) (fun k hk t hp => by
      show ops_raise_b0 hs (hs.length : Int) (k : Int) c t z = _
      unfold ops_raise_b0 raiseF
      rw [decide_eq_true (by omega), cnd_true, chk_pos (by omega)]
      simp only [ltO_def, recD, getD_toNat, getD_hit hs k _ hk, statO_eq hc hp.see, bnd_val]
      rw [w64 (by omega) (by omega)]
      have hcl : t.2.2.2.2.2.2.length ≤ 1000000 := by have := hp.cr.le; omega
      by_cases h3 : statO c t hs[k].1 = 3
      · have e2 : (statO c t hs[k].1 != 3) = false := by rw [h3]; rfl
        rw [e2, if_pos h3, cnd_false, raiseC_eq _ _ _ _ hcl, bnd_val]
        by_cases h4 : (raiseC c t.2.2.2.2.2.2 hs[k].1 t.1).1 = 0
        · have e3 : ((raiseC c t.2.2.2.2.2.2 hs[k].1 t.1).1 == 0) = true := beq_iff_eq.2 h4
          simp only [e3]
          rw [if_pos h4]; rfl
        · have e3 : ((raiseC c t.2.2.2.2.2.2 hs[k].1 t.1).1 == 0) = false := beq_eq_false_iff_ne.2 h4
          simp only [e3]
          rw [if_neg h4]; rfl
      · have e2 : (statO c t hs[k].1 != 3) = true := bne_iff_ne.2 h3
        rw [e2, if_neg h3]; rfl)
    (fun k hk t hp => raiseF_R hp _) (fun t hp => by
      show ops_raise_b0 hs (hs.length : Int) (hs.length : Int) c t z = _
      unfold ops_raise_b0
      rw [decide_eq_false (by omega)]; rfl) hs.length 0 s (by omega) h
  rw [List.drop_zero] at hl
  have hl' : loopM (fun s : (List THold) × Int × Int × TCfg × TState × TState × Unit => ops_raise_b0 s.1 s.2.1 s.2.2.1 s.2.2.2.1 s.2.2.2.2.1 s.2.2.2.2.2.1) (hs, (hs.length : Int), (0 : Int), c, s, z, ()) = _ := hl
  rw [hl']; rfl
def wantO (c : TCfg) (s : TState) (k : TKnown) : Bool := hasK kH s.2.2.1 k.1 || (decide ((ofK s.2.2.2.2.1 k.1).length ≠ 0) && withinS s.1 (lastK s.2.2.2.2.1 k.1) c.2.1)
def forgetO (c : TCfg) (s : TState) : TState := setK s (s.2.2.2.2.1.filter (wantO c s))
theorem forgetO_R {c : TCfg} {s : TState} (h : StR s) : StR (forgetO c s) :=
  h.known (h.kr.sub List.filter_sublist) (Nat.le_trans (List.length_filter_le _ _) h.kl) fun k hk => h.ks k (List.mem_filter.1 hk).1
theorem forget1_eq {c : TCfg} {s : TState} (h : SeeR s) (k : TKnown) : ops_forget_1 k.1 s.1 s.2.1 s.2.2.1 s.2.2.2.1 s.2.2.2.2.1 s.2.2.2.2.2.1 s.2.2.2.2.2.2 c.1 c.2.1 c.2.2.1 c.2.2.2.1 c.2.2.2.2.1 c.2.2.2.2.2.1 c.2.2.2.2.2.2.1 c.2.2.2.2.2.2.2.1 c.2.2.2.2.2.2.2.2 =
    some (wantO c s k, s.1, s.2.1, s.2.2.1, s.2.2.2.1, s.2.2.2.2.1, s.2.2.2.2.2.1, s.2.2.2.2.2.2, c.1, c.2.1, c.2.2.1, c.2.2.2.1, c.2.2.2.2.1, c.2.2.2.2.2.1, c.2.2.2.2.2.2.1, c.2.2.2.2.2.2.2.1, c.2.2.2.2.2.2.2.2, ()) := by
  unfold ops_forget_1 wantO
  rw [getH_eq h.hr h.hl, bnd_val, lastK_eq h.kr h.kl h.ks, bnd_val]
  simp only [chk_same, chk_nn, chk_and, within_eq, bndG_val, ltO_def]
theorem forgetO_eq {c : TCfg} {s : TState} (h : SeeR s) : ops_forget c s = some (forgetO c s, ()) := by
  unfold ops_forget seen_Forget seen_Forget_l0 forgetO
  have hkl := h.kl
  have hl := loop_fold (f := fun x : (List TKnown) × Int × Int × (List TKnown) × Int × Int × (List THold) × (List TSweep) × (List TKnown) × (List TProbe) × (List TCase) × Int × Int × Int × Int × Int × Int × Int × Int × Int × Unit => seen_Forget_b0 x.1 x.2.1 x.2.2.1 x.2.2.2.1 x.2.2.2.2.1 x.2.2.2.2.2.1 x.2.2.2.2.2.2.1 x.2.2.2.2.2.2.2.1 x.2.2.2.2.2.2.2.2.1 x.2.2.2.2.2.2.2.2.2.1 x.2.2.2.2.2.2.2.2.2.2.1 x.2.2.2.2.2.2.2.2.2.2.2.1 x.2.2.2.2.2.2.2.2.2.2.2.2.1 x.2.2.2.2.2.2.2.2.2.2.2.2.2.1 x.2.2.2.2.2.2.2.2.2.2.2.2.2.2.1 x.2.2.2.2.2.2.2.2.2.2.2.2.2.2.2.1 x.2.2.2.2.2.2.2.2.2.2.2.2.2.2.2.2.1 x.2.2.2.2.2.2.2.2.2.2.2.2.2.2.2.2.2.1 x.2.2.2.2.2.2.2.2.2.2.2.2.2.2.2.2.2.2.1 x.2.2.2.2.2.2.2.2.2.2.2.2.2.2.2.2.2.2.2.1) s.2.2.2.2.1
    (fun (o : List TKnown) k => if wantO c s k = true then o ++ [k] else o)
    (fun o k => (s.2.2.2.2.1, (s.2.2.2.2.1.length : Int), (k : Int), o, s.1, s.2.1, s.2.2.1, s.2.2.2.1, s.2.2.2.2.1, s.2.2.2.2.2.1, s.2.2.2.2.2.2, c.1, c.2.1, c.2.2.1, c.2.2.2.1, c.2.2.2.2.1, c.2.2.2.2.2.1, c.2.2.2.2.2.2.1, c.2.2.2.2.2.2.2.1, c.2.2.2.2.2.2.2.2, ()))
    (fun o => (.inl (s.1, s.2.1, s.2.2.1, s.2.2.2.1, s.2.2.2.2.1, s.2.2.2.2.2.1, s.2.2.2.2.2.2, c.1, c.2.1, c.2.2.1, c.2.2.2.1, c.2.2.2.2.1, c.2.2.2.2.2.1, c.2.2.2.2.2.2.1, c.2.2.2.2.2.2.2.1, c.2.2.2.2.2.2.2.2, o, ()) : (Int × Int × (List THold) × (List TSweep) × (List TKnown) × (List TProbe) × (List TCase) × Int × Int × Int × Int × Int × Int × Int × Int × Int × (List TKnown) × Unit) ⊕ (TState × TCfg × (List TKnown) × Unit)))
    (fun o k => o.length ≤ k) (fun k hk o hp => by
      show seen_Forget_b0 s.2.2.2.2.1 (s.2.2.2.2.1.length : Int) (k : Int) o s.1 s.2.1 s.2.2.1 s.2.2.2.1 s.2.2.2.2.1 s.2.2.2.2.2.1 s.2.2.2.2.2.2 c.1 c.2.1 c.2.2.1 c.2.2.2.1 c.2.2.2.2.1 c.2.2.2.2.2.1 c.2.2.2.2.2.2.1 c.2.2.2.2.2.2.2.1 c.2.2.2.2.2.2.2.2 = _
      unfold seen_Forget_b0
      rw [decide_eq_true (by omega), cnd_true, chk_pos (by omega)]
      simp only [ltO_def, recD, getD_toNat, getD_hit s.2.2.2.2.1 k _ hk, forget1_eq h, bnd_val]
      rw [w64 (by omega) (by omega)]
      cases wantO c s s.2.2.2.2.1[k] with
      | true => simp only [cnd_true, if_true]; rw [chk_pos (by show _ * _ ≤ _; simp; omega)]; rfl
      | false => rfl)
    (fun k hk o hp => by split <;> (try rw [List.length_append, List.length_singleton]) <;> omega) (fun o hp => by
      show seen_Forget_b0 s.2.2.2.2.1 (s.2.2.2.2.1.length : Int) (s.2.2.2.2.1.length : Int) o s.1 s.2.1 s.2.2.1 s.2.2.2.1 s.2.2.2.2.1 s.2.2.2.2.2.1 s.2.2.2.2.2.2 c.1 c.2.1 c.2.2.1 c.2.2.2.1 c.2.2.2.2.1 c.2.2.2.2.2.1 c.2.2.2.2.2.2.1 c.2.2.2.2.2.2.2.1 c.2.2.2.2.2.2.2.2 = _
      unfold seen_Forget_b0
      rw [decide_eq_false (by omega)]; rfl) s.2.2.2.2.1.length 0 [] (by omega) (by simp)
  rw [List.drop_zero] at hl
  have hf : ∀ (l o : List TKnown), l.foldl (fun (o : List TKnown) k => if wantO c s k = true then o ++ [k] else o) o = o ++ l.filter (wantO c s) := by
    intro l
    induction l with
    | nil => intro o; simp
    | cons x l ih =>
      intro o
      rw [List.foldl_cons, ih, List.filter_cons]
      split <;> simp
  rw [hf, List.nil_append] at hl
  have hl' := hl
  simp only [Int.ofNat_zero] at hl'
  erw [hl']
  rfl
end Go.Tr
namespace Go.Tr
open Go
set_option linter.unusedVariables false
set_option linter.unusedSimpArgs false
set_option maxRecDepth 100000
set_option maxHeartbeats 4000000
def packP (p : TProbe) : TPack := (false, 0, p.1, zMac, p.2.1, p.2.2.1)
def setQ (s : TState) (v : Int) : TState := (s.1, v, s.2.2)
def askF (q : TState × List TPack) (a : Int) : TState × List TPack :=
  if (putP q.1.2.2.2.2.2.1 (ofP a ((q.1.2.1 + 1) % 65536) q.1.1)).1 = 0 then (setP (setQ q.1 ((q.1.2.1 + 1) % 65536)) (putP q.1.2.2.2.2.2.1 (ofP a ((q.1.2.1 + 1) % 65536) q.1.1)).2, q.2 ++ [packP (ofP a ((q.1.2.1 + 1) % 65536) q.1.1)])
  else (setQ q.1 ((q.1.2.1 + 1) % 65536), q.2)
noncomputable def planO (c : TCfg) (s : TState) (room : Int) : List Int × List TSweep × Unit := (sweep_Plan_w1 c s.2.2.2.1 s.1 room).getD ([], [], ())
def roomO (c : TCfg) (q : List TProbe × List TProbe) : Int := max 0 (min (c.2.2.2.2.1 - (q.2.length : Int)) (16 - (q.1.length : Int)))
noncomputable def askO (c : TCfg) (s : TState) : TState × List TPack :=
  (planO c s (roomO c (lateP c s.2.2.2.2.2.1 s.1 c.2.2.2.2.1))).1.foldl askF
    (setW (setP s (lateP c s.2.2.2.2.2.1 s.1 c.2.2.2.2.1).1) (planO c s (roomO c (lateP c s.2.2.2.2.2.1 s.1 c.2.2.2.2.1))).2.1, (lateP c s.2.2.2.2.2.1 s.1 c.2.2.2.2.1).2.map packP)
theorem plan_R (c : TCfg) {s : TState} (h : RowR s.2.2.2.1) (room : Int) : sweep_Plan_w1 c s.2.2.2.1 s.1 room = some ((planO c s room).1, (planO c s room).2.1, ()) ∧ RowR (planO c s room).2.1 ∧ (((planO c s room).1.length : Int) ≤ max 0 room) ∧ (∀ a ∈ (planO c s room).1, in32 a) ∧
    (planO c s room).2.1.map (·.1) = s.2.2.2.1.map (·.1) := by
  obtain ⟨D, d1, d2, d3, d4, d5⟩ := Plan_R_w h c s.1 room
  have hin : ∀ k ∈ D, inD s.2.2.2.1 k := fun k hk => by
    have := dueL_mem (d1.mem_iff.1 hk)
    exact ⟨this.1, this.2.1⟩
  have h1 := fold_room (room := room) (every := c.2.2.2.1) D (s.2.2.2.1, []) (by simp; omega)
  have h2 := fold_in32 (room := room) (every := c.2.2.2.1) D (s.2.2.2.1, []) h hin (by simp)
  have e : planO c s room = ((D.foldl (stepS room c.2.2.2.1) (s.2.2.2.1, [])).2, (D.foldl (stepS room c.2.2.2.1) (s.2.2.2.1, [])).1, ()) := by unfold planO; rw [d3]; rfl
  rw [e]
  exact ⟨d3, d4, h1, h2, d5⟩
structure AskI (q : TState × List TPack) (n : Nat) : Prop where
  st : StR q.1
  len : q.2.length ≤ n
theorem StR.seqs {s : TState} (h : StR s) {v : Int} (hv : 0 ≤ v ∧ v ≤ 65535) : StR (setQ s v) := ⟨h.now, hv, h.hr, h.hl, h.hm, h.sw, h.kr, h.kl, h.ks, h.pr, h.cr⟩
theorem askF_R {q : TState × List TPack} {n : Nat} (h : AskI q n) {a : Int} (ha : in32 a) : AskI (askF q a) (n + 1) := by
  have hv : 0 ≤ (q.1.2.1 + 1) % 65536 ∧ (q.1.2.1 + 1) % 65536 ≤ 65535 := by omega
  unfold askF
  split
  · rename_i h0
    refine ⟨(h.st.seqs hv).probes (h.st.pr.put (ofP_ok ha q.1.1) h0), ?_⟩
    have := h.len
    simp only [List.length_append, List.length_singleton]; omega
  · exact ⟨h.st.seqs hv, by have := h.len; simp only; omega⟩
theorem askO_R {c : TCfg} (hc : CfgR c) {s : TState} (h : StR s) : StR (askO c s).1 ∧ ((askO c s).2.length : Int) ≤ c.2.2.2.2.1 := by
  have hl := h.pr.late hc s.1 c.2.2.2.2.1
  have hp := plan_R c h.sw (roomO c (lateP c s.2.2.2.2.2.1 s.1 c.2.2.2.2.1))
  have hr := hc.rate
  have key : AskI (askO c s) ((lateP c s.2.2.2.2.2.1 s.1 c.2.2.2.2.1).2.length + (planO c s (roomO c (lateP c s.2.2.2.2.2.1 s.1 c.2.2.2.2.1))).1.length) := by
    unfold askO
    refine fold_inv (P := fun q k => AskI q ((lateP c s.2.2.2.2.2.1 s.1 c.2.2.2.2.1).2.length + k)) _ (fun k hk a ha => ?_) _ ⟨(h.probes hl.1).sweeps hp.2.1, by simp⟩
    exact askF_R ha (hp.2.2.2.1 _ (List.getElem_mem hk))
  refine ⟨key.st, ?_⟩
  have h1 := key.len
  have h2 := hl.2
  have h3 := hp.2.2.1
  unfold roomO at h1 h3
  have h1' : ((askO c s).2.length : Int) ≤ ((lateP c s.2.2.2.2.2.1 s.1 c.2.2.2.2.1).2.length : Int) + ((planO c s (max 0 (min (c.2.2.2.2.1 - ((lateP c s.2.2.2.2.2.1 s.1 c.2.2.2.2.1).2.length : Int)) (16 - ((lateP c s.2.2.2.2.2.1 s.1 c.2.2.2.2.1).1.length : Int))))).1.length : Int) := by omega
  omega
theorem packets_eq (c : TCfg) (s z : TState) (again ps : List TProbe) (hl : again.length ≤ 1000000) :
    ops_ask_l0 (again, again, (again.length : Int), 0, [], c, s, z, ps, ()) = some (.inl (again, c, s, z, again.map packP, ps, ())) := by
  unfold ops_ask_l0
  have h := loop_fold (f := fun s : (List TProbe) × (List TProbe) × Int × Int × (List TPack) × TCfg × TState × TState × (List TProbe) × Unit => ops_ask_b0 s.1 s.2.1 s.2.2.1 s.2.2.2.1 s.2.2.2.2.1 s.2.2.2.2.2.1 s.2.2.2.2.2.2.1 s.2.2.2.2.2.2.2.1 s.2.2.2.2.2.2.2.2.1) again (fun (o : List TPack) p => o ++ [packP p])
    (fun o k => (again, again, (again.length : Int), (k : Int), o, c, s, z, ps, ())) (fun o => (.inl (again, c, s, z, o, ps, ()) : ((List TProbe) × TCfg × TState × TState × (List TPack) × (List TProbe) × Unit) ⊕ (TState × (List TPack) × Unit))) (fun o k => o.length = k) (fun k hk o hp => by
      show ops_ask_b0 again again (again.length : Int) (k : Int) o c s z ps = _
      unfold ops_ask_b0 probe_Packet
      rw [decide_eq_true (by omega), cnd_true, chk_pos (by omega)]
      simp only [ltO_def, recD, getD_toNat, getD_hit again k _ hk, bnd_val]
      rw [w64 (by omega) (by omega), chk_pos (by show _ * _ ≤ _; simp; omega)]; rfl)
    (fun k hk o hp => by simp; omega) (fun o hp => by
      show ops_ask_b0 again again (again.length : Int) (again.length : Int) o c s z ps = _
      unfold ops_ask_b0
      rw [decide_eq_false (by omega)]; rfl) again.length 0 [] (by omega) rfl
  rw [List.drop_zero] at h
  have hf : ∀ (l : List TProbe) (o : List TPack), l.foldl (fun (o : List TPack) p => o ++ [packP p]) o = o ++ l.map packP := by
    intro l
    induction l with
    | nil => intro o; simp
    | cons x l ih => intro o; rw [List.foldl_cons, ih]; simp
  rw [hf, List.nil_append] at h
  exact h
theorem asks_eq (z : TState) (asks : List Int) (h32 : ∀ a ∈ asks, in32 a) (hl : asks.length ≤ 1000) (q : TState × List TPack) (hq : AskI q 1000) :
    ops_ask_l1 (asks, (asks.length : Int), 0, q.1, z, q.2, ()) = some (.inl ((asks.foldl askF q).1, z, (asks.foldl askF q).2, ())) := by
  unfold ops_ask_l1
  have h := loop_fold (f := fun s : (List Int) × Int × Int × TState × TState × (List TPack) × Unit => ops_ask_b1 s.1 s.2.1 s.2.2.1 s.2.2.2.1 s.2.2.2.2.1 s.2.2.2.2.2.1) asks askF
    (fun q k => (asks, (asks.length : Int), (k : Int), q.1, z, q.2, ())) (fun q => (.inl (q.1, z, q.2, ()) : (TState × TState × (List TPack) × Unit) ⊕ (TState × (List TPack) × Unit))) (fun q k => AskI q (1000 + k)) (fun k hk q hp => by
      show ops_ask_b1 asks (asks.length : Int) (k : Int) q.1 z q.2 = _
      have ha := h32 _ (List.getElem_mem hk)
      have hsq := hp.st.seq
      have hv : 0 ≤ (q.1.2.1 + 1) % 65536 ∧ (q.1.2.1 + 1) % 65536 ≤ 1000000 := by omega
      have hlen := hp.len
      unfold ops_ask_b1 askF
      rw [decide_eq_true (by omega), cnd_true, chk_pos (by omega)]
      simp only [ltO_def, Int.toNat_natCast, getD_hit asks k _ hk]
      have e16 : (2 : Int) ^ 16 = 65536 := by decide
      rw [w64 (n := q.1.2.1 + 1) (by omega) (by omega), band_mask 16 (by omega) (by decide) (by decide), e16, w64 (n := _ % _) (by omega) (by omega), ofP_eq ha hv, bnd_val, putP_eq _ _ (by have := hp.st.pr.le; omega), bnd_val, w64 (n := (k : Int) + 1) (by omega) (by omega)]
      by_cases h0 : (putP q.1.2.2.2.2.2.1 (ofP asks[k] ((q.1.2.1 + 1) % 65536) q.1.1)).1 = 0
      · have e0 : ((putP q.1.2.2.2.2.2.1 (ofP asks[k] ((q.1.2.1 + 1) % 65536) q.1.1)).1 == 0) = true := beq_iff_eq.2 h0
        simp only [e0, cnd_true]
        unfold probe_Packet
        rw [if_pos h0, bnd_val, chk_pos (by show _ * _ ≤ _; simp; omega)]; rfl
      · have e0 : ((putP q.1.2.2.2.2.2.1 (ofP asks[k] ((q.1.2.1 + 1) % 65536) q.1.1)).1 == 0) = false := beq_eq_false_iff_ne.2 h0
        simp only [e0, cnd_false]
        rw [if_neg h0]; rfl)
    (fun k hk q hp => askF_R hp (h32 _ (List.getElem_mem hk))) (fun q hp => by
      show ops_ask_b1 asks (asks.length : Int) (asks.length : Int) q.1 z q.2 = _
      unfold ops_ask_b1
      rw [decide_eq_false (by omega)]; rfl) asks.length 0 q (by omega) hq
  rw [List.drop_zero] at h
  exact h
theorem min_if (a b : Int) : (if b < a then b else a) = min a b := by split <;> omega
theorem max_if (a : Int) : (if a > 0 then a else 0) = max 0 a := by split <;> omega
theorem askO_eq {c : TCfg} (hc : CfgR c) {s : TState} (h : StR s) : ops_ask c s = some ((askO c s).1, (askO c s).2, ()) := by
  have hl := h.pr.late hc s.1 c.2.2.2.2.1
  have hp := plan_R c h.sw (roomO c (lateP c s.2.2.2.2.2.1 s.1 c.2.2.2.2.1))
  have hr := hc.rate
  have hle := h.pr.le
  have hle1 := hl.1.le
  have hle2 := hl.2
  have hroom : ((planO c s (roomO c (lateP c s.2.2.2.2.2.1 s.1 c.2.2.2.2.1))).1.length : Int) ≤ 64 := by
    have := hp.2.2.1
    unfold roomO at this ⊢
    omega
  unfold ops_ask askO
  rw [lateP_eq c hc _ _ _ (by omega) (fun p hp => (h.pr.ok p hp).2.2.2.2.1), bnd_val]
  generalize lateP c s.2.2.2.2.2.1 s.1 c.2.2.2.2.1 = q at hl hp hle1 hle2 hroom ⊢
  simp only
  rw [packets_eq _ _ _ _ _ (by omega), bnd_val, sumO_inl]
  simp only [ltO_def]
  rw [w64 (n := c.2.2.2.2.1 - (q.2.length : Int)) (by omega) (by omega), w64 (n := 16 - (q.1.length : Int)) (by omega) (by omega), min_if, max_if]
  have e : max 0 (min (c.2.2.2.2.1 - (q.2.length : Int)) (16 - (q.1.length : Int))) = roomO c q := rfl
  rw [e, hp.1, bnd_val]
  have ha := asks_eq ((0, 0, [], [], [], [], []) : TState) (planO c s (roomO c q)).1 hp.2.2.2.1 (by omega) (setW (setP s q.1) (planO c s (roomO c q)).2.1, q.2.map packP) ⟨(h.probes hl.1).sweeps hp.2.1, by rw [List.length_map]; omega⟩
  have ha' : ops_ask_l1 ((planO c s (roomO c q)).1, ((planO c s (roomO c q)).1.length : Int), 0, (s.1, s.2.1, s.2.2.1, (planO c s (roomO c q)).2.1, s.2.2.2.2.1, q.1, s.2.2.2.2.2.2), ((0, 0, [], [], [], [], []) : TState), q.2.map packP, ()) = _ := ha
  rw [ha']
  rfl
def nextO (c : TCfg) (s : TState) : TState := (addS s.1 1, s.2.1, s.2.2.1, s.2.2.2.1, s.2.2.2.2.1, s.2.2.2.2.2.1, s.2.2.2.2.2.2.map (tickC c (addS s.1 1)))
noncomputable def tickO (c : TCfg) (s : TState) : TState × List TPack := askO c (forgetO c (raiseO c (execO c (nextO c s))))
theorem add1 {t : Int} (h : 0 ≤ t ∧ t ≤ 1099511627776) : addS t 1 = min (t + 1) 1099511627776 := by
  unfold addS
  rw [clampS_self h.1 h.2]
  unfold clampS
  split <;> (try split) <;> omega
theorem nextO_R {c : TCfg} {s : TState} (h : StR s) : StR (nextO c s) := by
  have hn := h.now
  have e := add1 hn
  have h0 : 0 ≤ addS s.1 1 ∧ addS s.1 1 ≤ 1099511627776 := by rw [e]; omega
  have h1 : s.1 ≤ addS s.1 1 := by rw [e]; omega
  exact ⟨h0, h.seq, h.hr, h.hl, h.hm, h.sw, h.kr, h.kl, fun k hk => (h.ks k hk).later h1, h.pr, (h.cr.later h1).tick c h0⟩
theorem tickO_R {c : TCfg} (hc : CfgR c) {s : TState} (h : StR s) : StR (tickO c s).1 ∧ ((tickO c s).2.length : Int) ≤ c.2.2.2.2.1 := askO_R hc (forgetO_R (raiseO_R (execO_R (nextO_R h)).st))
theorem tickO_eq {c : TCfg} (hc : CfgR c) {s : TState} (h : StR s) : ops_tick c s = some ((tickO c s).1, (tickO c s).2, ()) := by
  unfold ops_tick
  rw [add_eq', bnd_val, tickC_eq _ _ _ (by have := h.cr.le; omega), bnd_val]
  have e : ((addS s.1 1, s.2.1, s.2.2.1, s.2.2.2.1, s.2.2.2.2.1, s.2.2.2.2.2.1, s.2.2.2.2.2.2.map (tickC c (addS s.1 1))) : TState) = nextO c s := rfl
  have h1 := nextO_R (c := c) h
  have h2 := (execO_R (c := c) h1).st
  have h3 := raiseO_R (c := c) h2
  have h4 := forgetO_R (c := c) h3
  simp only [e]
  rw [execO_eq hc h1, bnd_val, raiseO_eq hc h2, bnd_val, forgetO_eq h3.see, bnd_val, askO_eq hc h4, bnd_val]
  rfl
def stopO (s : TState) (a : Int) : TState := if (cancelC s.2.2.2.2.2.2 a s.1).1 = 0 then setS s (cancelC s.2.2.2.2.2.2 a s.1).2 else s
theorem stopO_R {s : TState} (h : StR s) (a : Int) : StR (stopO s a) := by
  unfold stopO
  split
  · exact h.cases (h.cr.cancel h.now a)
  · exact h
def putO (s t : TState) (a : Int) (x : TSight) : TState × Int := if (putK t.2.2.2.2.1 a x).1 = 0 then (stopO (setK t (putK t.2.2.2.2.1 a x).2) a, 0) else (s, (putK t.2.2.2.2.1 a x).1)
def sawO (s : TState) (e : TEv) : TState × Int :=
  if e.2.2.2.1 = 0 then (match ansP s.2.2.2.2.2.1 e.2.1.1 with
    | none => (s, 7)
    | some l => putO s (setP s l) e.2.1.1 (e.2.2.2.1, zMac, s.1))
  else putO s s e.2.1.1 (e.2.2.2.1, e.2.2.2.2.1, s.1)
def dropO (s : TState) (a : Int) : TState × Int := if hasK kH s.2.2.1 a = true then (stopO (setH s (takeH s.2.2.1 a)) a, 0) else (s, 7)
def layO {α : Type} (s : TState) (r : Int × α) (f : α → TState) : TState × Int := if r.1 = 0 then (f r.2, 0) else (s, r.1)
noncomputable def swPut (s : TState) (b : Int × Int) : Int × List TSweep := match sweep_Put s.2.2.2.1 b s.1 with
  | some (e, l, _) => (e, l)
  | none => (0, [])
noncomputable def swTake (s : TState) (b : Int × Int) : Int × List TSweep := match sweep_Take s.2.2.2.1 b with
  | some (e, l, _) => (e, l)
  | none => (0, [])
theorem swPut_eq {s : TState} (h : RowR s.2.2.2.1) {b : Int × Int} (hb : in32 b.1) : sweep_Put s.2.2.2.1 b s.1 = some ((swPut s b).1, (swPut s b).2, ()) ∧ ((swPut s b).1 = 0 → RowR (swPut s b).2) := by
  unfold swPut
  rcases Put_eq h hb s.1 with ⟨h1, h2⟩ | ⟨_, l, h2, _, h3, _⟩
  · rw [h2]; exact ⟨rfl, fun h => absurd h h1⟩
  · rw [h2]; exact ⟨rfl, fun _ => h3⟩
theorem swTake_eq {s : TState} (h : RowR s.2.2.2.1) (b : Int × Int) : sweep_Take s.2.2.2.1 b = some ((swTake s b).1, (swTake s b).2, ()) ∧ ((swTake s b).1 = 0 → RowR (swTake s b).2) := by
  unfold swTake
  rcases Take_eq h b with ⟨_, h2⟩ | ⟨_, l, h2, h3, _⟩
  · rw [h2]; exact ⟨rfl, fun h => by simp at h⟩
  · rw [h2]; exact ⟨rfl, fun _ => h3⟩
noncomputable def elseO (s : TState) (e : TEv) : TState × Int :=
  if e.1 = 1 then layO s (putH s.2.2.1 e.2.1) (setH s)
  else if e.1 = 2 then dropO s e.2.1.1
  else if e.1 = 3 then layO s (swPut s e.2.2.1) (setW s)
  else if e.1 = 4 then layO s (swTake s e.2.2.1) (setW s)
  else if e.1 = 5 then sawO s e
  else if e.1 = 6 then layO s (nextC s.2.2.2.2.2.2 e.2.1.1 0 1 s.1) (setS s)
  else if e.1 = 7 then layO s (nextC s.2.2.2.2.2.2 e.2.1.1 0 2 s.1) (setS s)
  else (s, 12)
noncomputable def doO (c : TCfg) (s : TState) (e : TEv) : TState × Int × List TPack :=
  if e.1 = 0 then ((tickO c s).1, 0, (tickO c s).2) else ((elseO s e).1, (elseO s e).2, [])
structure EvR (e : TEv) : Prop where
  block : in32 e.2.2.1.1
  owner : e.2.1.2.1.length ≤ 140737488355328
theorem putO_R {s t : TState} (hs : StR s) (ht : StR t) (a : Int) {x : TSight} (hx : x.2.2 = t.1) : StR (putO s t a x).1 := by
  unfold putO
  split
  · rename_i h0
    refine stopO_R ?_ a
    unfold putK at h0 ⊢
    split at h0
    · simp at h0
    · rename_i h1
      split at h0
      · simp at h0
      · rename_i h2
        split at h0
        · simp at h0
        · rename_i h3
          rw [if_neg h1, if_neg h2, if_neg h3]
          simp only
          cases hk : hasK kK t.2.2.2.2.1 a with
          | true =>
            obtain ⟨g1, g2⟩ := ht.kr.at hk
            simp only [if_true]
            rw [getD_hit _ _ _ g1]
            refine ht.known ?_ (by rw [List.length_set]; exact ht.kl) fun k hk' => ?_
            · have hm : (t.2.2.2.2.1.set (lowB kK t.2.2.2.2.1 a) ((t.2.2.2.2.1[lowB kK t.2.2.2.2.1 a]).1, keepT (t.2.2.2.2.1[lowB kK t.2.2.2.2.1 a]).2 x)).map kK = t.2.2.2.2.1.map kK := by
                rw [List.map_set]
                have : (t.2.2.2.2.1.map kK)[lowB kK t.2.2.2.2.1 a]'(by simpa using g1) = (t.2.2.2.2.1[lowB kK t.2.2.2.2.1 a]).1 := by simp
                show (t.2.2.2.2.1.map kK).set _ (t.2.2.2.2.1[lowB kK t.2.2.2.2.1 a]).1 = _
                rw [← this, List.set_getElem_self]
              unfold Rise
              rw [← List.pairwise_map (f := kK) (R := fun x y => x < y), hm, List.pairwise_map]
              exact ht.kr
            · rcases List.mem_or_eq_of_mem_set hk' with hk' | rfl
              · exact ht.ks k hk'
              · exact (ht.ks _ (List.getElem_mem g1)).keep (by omega) hx
          | false =>
            simp only [Bool.false_eq_true, if_false]
            refine ht.known (ht.kr.ins hk) ?_ fun k hk' => ?_
            · rw [insK_len]
              have h3' : ¬ 96 ≤ t.2.2.2.2.1.length := fun h => h3 ⟨hk, h⟩
              omega
            · rcases insK_mem hk' with hk' | rfl
              · exact ht.ks k hk'
              · have hn := ht.now
                exact ⟨by simp, by simp, fun y hy => by
                  have : y = x := by simpa using hy
                  subst this
                  omega, by simp⟩
  · exact hs
theorem elseO_R {s : TState} (h : StR s) {e : TEv} (he : EvR e) : StR (elseO s e).1 := by
  unfold elseO
  split
  · unfold layO
    split
    · rename_i h0
      unfold putH at h0 ⊢
      split at h0
      · simp at h0
      · rename_i h1
        split at h0
        · simp at h0
        · rename_i h2
          split at h0
          · simp at h0
          · rename_i h3
            rw [if_neg h1, if_neg h2, if_neg h3]
            refine h.holders (h.hr.ins (by simpa using h2)) (by rw [insK_len]; omega) fun y hy => ?_
            rcases insK_mem hy with hy | rfl
            · exact h.hm y hy
            · simpa using h1
    · exact h
  · split
    · unfold dropO
      split
      · exact stopO_R (h.take _) _
      · exact h
    · split
      · unfold layO
        split
        · rename_i h0; exact h.sweeps ((swPut_eq h.sw he.block).2 h0)
        · exact h
      · split
        · unfold layO
          split
          · rename_i h0; exact h.sweeps ((swTake_eq h.sw _).2 h0)
          · exact h
        · split
          · unfold sawO
            split
            · split
              · exact h
              · rename_i l hl
                exact putO_R h (h.probes (h.pr.ans hl)) _ rfl
            · exact putO_R h h _ rfl
          · split
            · unfold layO
              split
              · exact h.cases (h.cr.nextC h.now _ (by omega))
              · exact h
            · split
              · unfold layO
                split
                · exact h.cases (h.cr.nextC h.now _ (by omega))
                · exact h
              · exact h
theorem doO_R {c : TCfg} (hc : CfgR c) {s : TState} (h : StR s) {e : TEv} (he : EvR e) : StR (doO c s e).1 := by
  unfold doO
  split
  · exact (tickO_R hc h).1
  · exact elseO_R h he
end Go.Tr
namespace Go.Tr
open Go
set_option linter.unusedVariables false
set_option linter.unusedSimpArgs false
set_option maxRecDepth 100000
set_option maxHeartbeats 4000000
theorem beq0 {e : Int} (h : e = 0) : (e == (0 : Int)) = true := beq_iff_eq.2 h
theorem beq1 {e : Int} (h : ¬ e = 0) : (e == (0 : Int)) = false := beq_eq_false_iff_ne.2 h
theorem bne0 {e : Int} (h : e = 0) : (e != (0 : Int)) = false := by rw [h]; rfl
theorem bne1 {e : Int} (h : ¬ e = 0) : (e != (0 : Int)) = true := bne_iff_ne.2 h
theorem putO_prog {s t : TState} (ht : StR t) (a : Int) (x : TSight) :
    (bnd (seen_Put t.2.2.2.2.1 a x) fun y3 => cnd (y3.1 != 0) (some (s, y3.1, ())) (bnd (cases_Cancel t.2.2.2.2.2.2 a t.1) fun y5 => cnd (y5.1 == 0)
      (some ((t.1, t.2.1, t.2.2.1, t.2.2.2.1, y3.2.1, t.2.2.2.2.2.1, y5.2.1), (0 : Int), ())) (some ((t.1, t.2.1, t.2.2.1, t.2.2.2.1, y3.2.1, t.2.2.2.2.2), (0 : Int), ())))) = some ((putO s t a x).1, (putO s t a x).2, ()) := by
  rw [putK_eq ht.kr ht.see.kl ht.ksl, bnd_val]
  unfold putO
  by_cases h0 : (putK t.2.2.2.2.1 a x).1 = 0
  · rw [if_pos h0]
    simp only [bne0 h0, cnd_false]
    rw [cancelC_eq _ _ _ (by have := ht.cr.le; omega), bnd_val]
    unfold stopO
    have e1 : (setK t (putK t.2.2.2.2.1 a x).2).2.2.2.2.2.2 = t.2.2.2.2.2.2 := rfl
    have e2 : (setK t (putK t.2.2.2.2.1 a x).2).1 = t.1 := rfl
    rw [e1, e2]
    by_cases h1 : (cancelC t.2.2.2.2.2.2 a t.1).1 = 0
    · rw [if_pos h1]; simp only [beq0 h1, cnd_true]; rfl
    · rw [if_neg h1]; simp only [beq1 h1, cnd_false]; rfl
  · rw [if_neg h0]
    simp only [bne1 h0, cnd_true]
theorem saw_eq {s : TState} (h : StR s) (e : TEv) : ∃ t, ops_saw s e = some (t, (sawO s e).2, ()) ∧ ((sawO s e).2 = 0 → t = (sawO s e).1) ∧ ((sawO s e).2 ≠ 0 → (sawO s e).1 = s) := by
  unfold ops_saw sawO
  simp only [ltO_def]
  have hpu : ∀ (s t : TState) (a : Int) (x : TSight), (putO s t a x).2 ≠ 0 → (putO s t a x).1 = s := fun s t a x hne => by
    unfold putO at hne ⊢
    split at hne
    · exact absurd rfl hne
    · rename_i h0; rw [if_neg h0]
  by_cases h0 : e.2.2.2.1 = 0
  · rw [if_pos h0, beq0 h0, cnd_true, answered_eq _ _ (by have := h.pr.le; omega)]
    cases ha : ansP s.2.2.2.2.2.1 e.2.1.1 with
    | none => exact ⟨s, rfl, fun h => by simp at h, fun _ => rfl⟩
    | some l =>
      simp only [bnd_val]
      have hd : ((0 : Int) != 0) = false := rfl
      rw [hd, cnd_false]
      have ht := h.probes (h.pr.ans ha)
      have hp := putO_prog (s := setP s l) ht e.2.1.1 (e.2.2.2.1, zMac, s.1)
      refine ⟨(putO (setP s l) (setP s l) e.2.1.1 (e.2.2.2.1, zMac, s.1)).1, ?_, fun hz => ?_, fun hz => hpu _ _ _ _ hz⟩
      · refine hp.trans ?_
        unfold putO
        by_cases h0 : (putK (setP s l).2.2.2.2.1 e.2.1.1 (e.2.2.2.1, zMac, s.1)).1 = 0
        · rw [if_pos h0, if_pos h0]
        · rw [if_neg h0, if_neg h0]
      · unfold putO at hz ⊢
        by_cases h0 : (putK (setP s l).2.2.2.2.1 e.2.1.1 (e.2.2.2.1, zMac, s.1)).1 = 0
        · rw [if_pos h0, if_pos h0]
        · rw [if_neg h0] at hz; exact absurd hz h0
  · rw [if_neg h0, beq1 h0, cnd_false]
    exact ⟨_, putO_prog h _ _, fun _ => rfl, fun hz => hpu _ _ _ _ hz⟩
theorem drop_eq {s : TState} (h : StR s) (a : Int) : ops_drop s a = some ((dropO s a).1, (dropO s a).2, ()) := by
  unfold ops_drop dropO
  rw [takeH_eq h.hr h.see.hl]
  cases hk : hasK kH s.2.2.1 a with
  | false => rfl
  | true =>
    simp only [if_true, bnd_val, ltO_def]
    have hd : ((0 : Int) != 0) = false := rfl
    rw [hd, cnd_false, cancelC_eq _ _ _ (by have := h.cr.le; omega), bnd_val]
    unfold stopO
    have e1 : (setH s (takeH s.2.2.1 a)).2.2.2.2.2.2 = s.2.2.2.2.2.2 := rfl
    have e2 : (setH s (takeH s.2.2.1 a)).1 = s.1 := rfl
    rw [e1, e2]
    by_cases h1 : (cancelC s.2.2.2.2.2.2 a s.1).1 = 0
    · rw [if_pos h1]; simp only [beq0 h1, cnd_true]; rfl
    · rw [if_neg h1]; simp only [beq1 h1, cnd_false]; rfl
theorem do_eq {c : TCfg} (hc : CfgR c) {s : TState} (h : StR s) {e : TEv} (he : EvR e) : ops_Do c s e = some ((doO c s e).1, (doO c s e).2.1, (doO c s e).2.2, ()) := by
  unfold ops_Do doO elseO
  have hcl : s.2.2.2.2.2.2.length ≤ 1000000 := by have := h.cr.le; omega
  simp only [ltO_def]
  by_cases h0 : e.1 = 0
  · rw [if_pos h0, beq0 h0, cnd_true, tickO_eq hc h]; rfl
  · rw [if_neg h0, beq1 h0, cnd_false]
    by_cases h1 : e.1 = 1
    · rw [if_pos h1, beq_iff_eq.2 h1, cnd_true, putH_eq h.hr h.see.hl _ he.owner, bnd_val]
      unfold ops_lay layO
      simp only [ltO_def]
      by_cases hz : (putH s.2.2.1 e.2.1).1 = 0
      · rw [if_pos hz]; simp only [beq0 hz, cnd_true, bnd_val, bne0 hz, cnd_false]; rfl
      · rw [if_neg hz]; simp only [beq1 hz, cnd_false, bnd_val, bne1 hz, cnd_true]
    · rw [if_neg h1, beq_eq_false_iff_ne.2 h1, cnd_false]
      by_cases h2 : e.1 = 2
      · rw [if_pos h2, beq_iff_eq.2 h2, cnd_true, drop_eq h, bnd_val]
        by_cases hz : (dropO s e.2.1.1).2 = 0
        · simp only [hz]; rfl
        · simp only [bne1 hz, cnd_true]
          have : (dropO s e.2.1.1).1 = s := by
            unfold dropO at hz ⊢
            split at hz
            · exact absurd rfl hz
            · rename_i hk; rw [if_neg hk]
          rw [this]
      · rw [if_neg h2, beq_eq_false_iff_ne.2 h2, cnd_false]
        by_cases h3 : e.1 = 3
        · rw [if_pos h3, beq_iff_eq.2 h3, cnd_true, (swPut_eq h.sw he.block).1, bnd_val]
          unfold ops_lay_v1 layO
          simp only [ltO_def]
          by_cases hz : (swPut s e.2.2.1).1 = 0
          · rw [if_pos hz]; simp only [beq0 hz, cnd_true, bnd_val, bne0 hz, cnd_false]; rfl
          · rw [if_neg hz]; simp only [beq1 hz, cnd_false, bnd_val, bne1 hz, cnd_true]
        · rw [if_neg h3, beq_eq_false_iff_ne.2 h3, cnd_false]
          by_cases h4 : e.1 = 4
          · rw [if_pos h4, beq_iff_eq.2 h4, cnd_true, (swTake_eq h.sw _).1, bnd_val]
            unfold ops_lay_v1 layO
            simp only [ltO_def]
            by_cases hz : (swTake s e.2.2.1).1 = 0
            · rw [if_pos hz]; simp only [beq0 hz, cnd_true, bnd_val, bne0 hz, cnd_false]; rfl
            · rw [if_neg hz]; simp only [beq1 hz, cnd_false, bnd_val, bne1 hz, cnd_true]
          · rw [if_neg h4, beq_eq_false_iff_ne.2 h4, cnd_false]
            by_cases h5 : e.1 = 5
            · rw [if_pos h5, beq_iff_eq.2 h5, cnd_true]
              obtain ⟨t, g1, g2, g3⟩ := saw_eq h e
              rw [g1, bnd_val]
              by_cases hz : (sawO s e).2 = 0
              · simp only [hz, g2 hz]; rfl
              · simp only [bne1 hz, cnd_true, g3 hz]
            · rw [if_neg h5, beq_eq_false_iff_ne.2 h5, cnd_false]
              by_cases h6 : e.1 = 6
              · rw [if_pos h6, beq_iff_eq.2 h6, cnd_true, approveC_eq _ _ _ hcl, bnd_val]
                unfold ops_lay_v2 layO
                simp only [ltO_def]
                by_cases hz : (nextC s.2.2.2.2.2.2 e.2.1.1 0 1 s.1).1 = 0
                · rw [if_pos hz]; simp only [beq0 hz, cnd_true, bnd_val, bne0 hz, cnd_false]; rfl
                · rw [if_neg hz]; simp only [beq1 hz, cnd_false, bnd_val, bne1 hz, cnd_true]
              · rw [if_neg h6, beq_eq_false_iff_ne.2 h6, cnd_false]
                by_cases h7 : e.1 = 7
                · rw [if_pos h7, beq_iff_eq.2 h7, cnd_true, rejectC_eq _ _ _ hcl, bnd_val]
                  unfold ops_lay_v2 layO
                  simp only [ltO_def]
                  by_cases hz : (nextC s.2.2.2.2.2.2 e.2.1.1 0 2 s.1).1 = 0
                  · rw [if_pos hz]; simp only [beq0 hz, cnd_true, bnd_val, bne0 hz, cnd_false]; rfl
                  · rw [if_neg hz]; simp only [beq1 hz, cnd_false, bnd_val, bne1 hz, cnd_true]
                · rw [if_neg h7, beq_eq_false_iff_ne.2 h7, cnd_false]
                  rfl
end Go.Tr
