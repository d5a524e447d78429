/- Events of acts, configurations of choices. Ticks where nothing is swept; the document's examples; states behind acts. Bounds of a law's arguments, as the laws of events want them. Conditions: none but those that each theorem states. -/
import Derived.Test.YtedeacbkaidknaaGreatOpsKb
import Derived.KernelRfl
import Derived.Test.YtedeacbkaidknaaGreatAddrW
namespace Go.Tr
open Go
set_option linter.unusedVariables false
set_option linter.unusedSimpArgs false
set_option maxRecDepth 100000
set_option maxHeartbeats 4000000
def u8B (n : Int) : Prop := 0 ≤ n ∧ n < 256
def C9 (x : TCfg) : Prop := u8B x.1 ∧ u8B x.2.1 ∧ u8B x.2.2.1 ∧ u8B x.2.2.2.1 ∧ u8B x.2.2.2.2.1 ∧ u8B x.2.2.2.2.2.1 ∧ u8B x.2.2.2.2.2.2.1 ∧ u8B x.2.2.2.2.2.2.2.1 ∧ u8B x.2.2.2.2.2.2.2.2
theorem tmod_u8 {n : Int} (h : u8B n) (k : Int) (hk : 0 < k) : 0 ≤ n.tmod k ∧ n.tmod k < k := by
  rw [Int.tmod_eq_emod_of_nonneg h.1]
  exact ⟨Int.emod_nonneg _ (by omega), Int.emod_lt_of_pos _ hk⟩
theorem config_R {x : TCfg} (h : C9 x) : ∃ c : TCfg, terrierlaw10_Choice_Config x = some (c, ()) ∧ CfgR c := by
  obtain ⟨h1, h2, h3, h4, h5, h6, h7, h8, h9⟩ := h
  have a1 := tmod_u8 h1 30 (by decide)
  have a2 := tmod_u8 h2 60 (by decide)
  have a3 := tmod_u8 h3 6 (by decide)
  have a4 := tmod_u8 h4 20 (by decide)
  have a5 := tmod_u8 h5 9 (by decide)
  have a6 := tmod_u8 h6 6 (by decide)
  have a7 := tmod_u8 h7 4 (by decide)
  have a8 := tmod_u8 h8 40 (by decide)
  have a9 := tmod_u8 h9 50 (by decide)
  unfold terrierlaw10_Choice_Config
  simp only [ltO_def]
  repeat rw [chk_pos (by decide)]
  refine ⟨_, rfl, ?_⟩
  generalize x.1.tmod 30 = y1 at a1 ⊢
  generalize x.2.1.tmod 60 = y2 at a2 ⊢
  generalize x.2.2.1.tmod 6 = y3 at a3 ⊢
  generalize x.2.2.2.1.tmod 20 = y4 at a4 ⊢
  generalize x.2.2.2.2.1.tmod 9 = y5 at a5 ⊢
  generalize x.2.2.2.2.2.1.tmod 6 = y6 at a6 ⊢
  generalize x.2.2.2.2.2.2.1.tmod 4 = y7 at a7 ⊢
  generalize x.2.2.2.2.2.2.2.1.tmod 40 = y8 at a8 ⊢
  generalize x.2.2.2.2.2.2.2.2.tmod 50 = y9 at a9 ⊢
  rw [w64 (n := y1) (by omega) (by omega), w64 (n := y2) (by omega) (by omega), w64 (n := y3) (by omega) (by omega), w64 (n := y4) (by omega) (by omega), w64 (n := y5) (by omega) (by omega), w64 (n := y6) (by omega) (by omega), w64 (n := y7) (by omega) (by omega), w64 (n := y8) (by omega) (by omega), w64 (n := y9) (by omega) (by omega),
    w64 (n := 1 + y1) (by omega) (by omega), w64 (n := 1 + y3) (by omega) (by omega), w64 (n := 1 + y4) (by omega) (by omega), w64 (n := 1 + y5) (by omega) (by omega), w64 (n := 1 + y6) (by omega) (by omega), w64 (n := 1 + y8) (by omega) (by omega), w64 (n := 1 + y1 + y2) (by omega) (by omega)]
  constructor <;> simp only <;> omega
structure EvA (e : TEv) : Prop extends EvR e where
  addr : 167772160 ≤ e.2.1.1 ∧ e.2.1.1 < 167772176
def A6 (a : TMac) : Prop := u8B a.1 ∧ u8B a.2.1 ∧ u8B a.2.2.1 ∧ u8B a.2.2.2.1 ∧ u8B a.2.2.2.2.1 ∧ u8B a.2.2.2.2.2
theorem station_R (n : Int) : ∃ m, terrierlaw11_Station n = some (m, ()) := by
  unfold terrierlaw11_Station
  cases decide (n ≥ 128)
  · simp only [cnd_false, ltO_def]
    rw [chk_pos (by decide)]
    exact ⟨_, rfl⟩
  · exact ⟨_, rfl⟩
theorem event_R {a : TMac} (h : A6 a) : ∃ e, terrierlaw18_Act_Event a = some (e, ()) ∧ EvA e := by
  obtain ⟨h1, h2, h3, h4, h5, h6⟩ := h
  have a1 := tmod_u8 h1 16 (by decide)
  have a2 := tmod_u8 h2 16 (by decide)
  have a3 := tmod_u8 h2 64 (by decide)
  have a4 := tmod_u8 h3 5 (by decide)
  have a5 := tmod_u8 h5 8 (by decide)
  have a6 := tmod_u8 h5 4 (by decide)
  obtain ⟨m1, hm1⟩ := station_R a.2.2.2.1
  obtain ⟨m2, hm2⟩ := station_R (IntKind.u8.wrap (a.2.2.2.1.tdiv 2))
  unfold terrierlaw18_Act_Event
  simp only [ltO_def]
  generalize a.1.tmod 16 = y1 at a1 ⊢
  generalize a.2.1.tmod 16 = y2 at a2 ⊢
  generalize a.2.1.tmod 64 = y3 at a3 ⊢
  generalize a.2.2.1.tmod 5 = y4 at a4 ⊢
  generalize a.2.2.2.2.1.tmod 8 = y5 at a5 ⊢
  generalize a.2.2.2.2.1.tmod 4 = y6 at a6 ⊢
  have hn0 : ¬ (16 : Int) = 0 := by decide
  have hn1 : ¬ (8 : Int) = 0 := by decide
  have hn2 : ¬ (64 : Int) = 0 := by decide
  have hn3 : ¬ (5 : Int) = 0 := by decide
  have hn4 : ¬ (4 : Int) = 0 := by decide
  have hn5 : ¬ (2 : Int) = 0 := by decide
  rw [wu8 (n := y5 + 1) (by omega) (by omega), wu8 (n := 8 + y4) (by omega) (by omega), wu32 (n := y2) (by omega) (by omega), wu32 (n := y3) (by omega) (by omega), wu32 (n := 167772160 + y2) (by omega) (by omega), wu32 (n := 167772160 + y3) (by omega) (by omega)]
  have hi3 : in32 (167772160 + y3) := by unfold in32; omega
  rw [hm1, hm2, Block_eq hi3 (by omega)]
  have hq : 0 ≤ y5 ∧ y5 ≤ y5 + 1 ∧ y5 + 1 ≤ 8 := by omega
  have hs : (sliceA y5.toNat (y5 + 1).toNat [(97 : UInt8), 98, 99, 100, 101, 102, 103, 104]).length ≤ 8 := by
    unfold sliceA
    simp
    omega
  have hq2 : ((1 + (sliceA y5.toNat (y5 + 1).toNat [(97 : UInt8), 98, 99, 100, 101, 102, 103, 104]).length : Nat) : Int) ≤ 9223372036854775807 := by omega
  have hq3 : 0 ≤ y1 ∧ y1 < 16 := a1
  have hq4 : y1.toNat < 16 := by omega
  simp only [chk_pos hn0, chk_pos hn1, chk_pos hn2, chk_pos hn3, chk_pos hn4, chk_pos hn5, chk_pos hq, chk_pos hq2, chk_pos hq3, chk_pos hq4, bnd_val]
  refine ⟨_, rfl, ⟨⟨(bB_ok hi3 (by omega)).i, ?_⟩, ?_⟩⟩
  · show ([(111 : UInt8)] ++ sliceA y5.toNat (y5 + 1).toNat [(97 : UInt8), 98, 99, 100, 101, 102, 103, 104]).length ≤ _
    rw [List.length_append, List.length_singleton]; omega
  · show 167772160 ≤ 167772160 + y2 ∧ 167772160 + y2 < 167772176
    omega
theorem events_inner (t12 : List TMac) (t13 t14 : Int) {a : TMac} (h : A6 a) {e : TEv} (he : EvA e) : ∀ (m : Nat) (k : Int) (out : List TEv), 0 ≤ k → k + (m : Int) = 12 → out.length + m ≤ 10000 → (∀ e ∈ out, EvA e) →
    ∃ out', terrierlaw18_Events_l1 (k, t12, t13, t14, out, a.1, a.2.1, a.2.2.1, a.2.2.2.1, a.2.2.2.2.1, a.2.2.2.2.2, e.1, e.2.1.1, e.2.1.2.1, e.2.1.2.2.1, e.2.1.2.2.2.1, e.2.1.2.2.2.2.1, e.2.1.2.2.2.2.2.1, e.2.1.2.2.2.2.2.2.1, e.2.1.2.2.2.2.2.2.2, e.2.2.1.1, e.2.2.1.2, e.2.2.2.1, e.2.2.2.2.1.1, e.2.2.2.2.1.2.1, e.2.2.2.2.1.2.2.1, e.2.2.2.2.1.2.2.2.1, e.2.2.2.2.1.2.2.2.2.1, e.2.2.2.2.1.2.2.2.2.2, e.2.2.2.2.2, ()) = some (.inl (t12, t13, t14, out', ())) ∧ out'.length ≤ out.length + m ∧ ∀ e ∈ out', EvA e := by
  have a6 := tmod_u8 h.2.2.2.2.2 12 (by decide)
  intro m
  induction m with
  | zero =>
    intro k out hk hm ho hout
    refine ⟨out, ?_, by omega, hout⟩
    unfold terrierlaw18_Events_l1
    refine loopM_last ?_
    show terrierlaw18_Events_b1 k t12 t13 t14 out a.1 a.2.1 a.2.2.1 a.2.2.2.1 a.2.2.2.2.1 a.2.2.2.2.2 e.1 e.2.1.1 e.2.1.2.1 e.2.1.2.2.1 e.2.1.2.2.2.1 e.2.1.2.2.2.2.1 e.2.1.2.2.2.2.2.1 e.2.1.2.2.2.2.2.2.1 e.2.1.2.2.2.2.2.2.2 e.2.2.1.1 e.2.2.1.2 e.2.2.2.1 e.2.2.2.2.1.1 e.2.2.2.2.1.2.1 e.2.2.2.2.1.2.2.1 e.2.2.2.2.1.2.2.2.1 e.2.2.2.2.1.2.2.2.2.1 e.2.2.2.2.1.2.2.2.2.2 e.2.2.2.2.2 = _
    unfold terrierlaw18_Events_b1
    rw [chk_pos (by decide)]
    simp only [ltO_def, chk_same]
    rw [w64 (n := Int.tmod _ 12) (by omega) (by omega), decide_eq_false (by omega)]
    rfl
  | succ m ih =>
    intro k out hk hm ho hout
    by_cases hgo : (decide (k < a.2.2.2.2.2.tmod 12) && e.1 == 0) = true
    · have hb : terrierlaw18_Events_b1 k t12 t13 t14 out a.1 a.2.1 a.2.2.1 a.2.2.2.1 a.2.2.2.2.1 a.2.2.2.2.2 e.1 e.2.1.1 e.2.1.2.1 e.2.1.2.2.1 e.2.1.2.2.2.1 e.2.1.2.2.2.2.1 e.2.1.2.2.2.2.2.1 e.2.1.2.2.2.2.2.2.1 e.2.1.2.2.2.2.2.2.2 e.2.2.1.1 e.2.2.1.2 e.2.2.2.1 e.2.2.2.2.1.1 e.2.2.2.2.1.2.1 e.2.2.2.2.1.2.2.1 e.2.2.2.2.1.2.2.2.1 e.2.2.2.2.1.2.2.2.2.1 e.2.2.2.2.1.2.2.2.2.2 e.2.2.2.2.2 = some (.inl (k + 1, t12, t13, t14, out ++ [e], a.1, a.2.1, a.2.2.1, a.2.2.2.1, a.2.2.2.2.1, a.2.2.2.2.2, e.1, e.2.1.1, e.2.1.2.1, e.2.1.2.2.1, e.2.1.2.2.2.1, e.2.1.2.2.2.2.1, e.2.1.2.2.2.2.2.1, e.2.1.2.2.2.2.2.2.1, e.2.1.2.2.2.2.2.2.2, e.2.2.1.1, e.2.2.1.2, e.2.2.2.1, e.2.2.2.2.1.1, e.2.2.2.2.1.2.1, e.2.2.2.2.1.2.2.1, e.2.2.2.2.1.2.2.2.1, e.2.2.2.2.1.2.2.2.2.1, e.2.2.2.2.1.2.2.2.2.2, e.2.2.2.2.2, ())) := by
        unfold terrierlaw18_Events_b1
        rw [chk_pos (by decide)]
        simp only [ltO_def, chk_same]
        rw [w64 (n := Int.tmod _ 12) (by omega) (by omega), hgo, cnd_true, chk_pos (by show _ * _ ≤ _; simp; omega), w64 (n := k + 1) (by omega) (by omega)]
      obtain ⟨out', h1, h2, h3⟩ := ih (k + 1) (out ++ [e]) (by omega) (by omega) (by simp; omega) (fun y hy => by
        rcases List.mem_append.1 hy with hy | hy
        · exact hout y hy
        · have : y = e := by simpa using hy
          subst this; exact he)
      refine ⟨out', ?_, by simp at h2; omega, h3⟩
      unfold terrierlaw18_Events_l1 at h1 ⊢
      rw [loopM_next (s' := (k + 1, t12, t13, t14, out ++ [e], a.1, a.2.1, a.2.2.1, a.2.2.2.1, a.2.2.2.2.1, a.2.2.2.2.2, e.1, e.2.1.1, e.2.1.2.1, e.2.1.2.2.1, e.2.1.2.2.2.1, e.2.1.2.2.2.2.1, e.2.1.2.2.2.2.2.1, e.2.1.2.2.2.2.2.2.1, e.2.1.2.2.2.2.2.2.2, e.2.2.1.1, e.2.2.1.2, e.2.2.2.1, e.2.2.2.2.1.1, e.2.2.2.2.1.2.1, e.2.2.2.2.1.2.2.1, e.2.2.2.2.1.2.2.2.1, e.2.2.2.2.1.2.2.2.2.1, e.2.2.2.2.1.2.2.2.2.2, e.2.2.2.2.2, ())) hb]
      exact h1
    · refine ⟨out, ?_, by omega, hout⟩
      unfold terrierlaw18_Events_l1
      refine loopM_last ?_
      show terrierlaw18_Events_b1 k t12 t13 t14 out a.1 a.2.1 a.2.2.1 a.2.2.2.1 a.2.2.2.2.1 a.2.2.2.2.2 e.1 e.2.1.1 e.2.1.2.1 e.2.1.2.2.1 e.2.1.2.2.2.1 e.2.1.2.2.2.2.1 e.2.1.2.2.2.2.2.1 e.2.1.2.2.2.2.2.2.1 e.2.1.2.2.2.2.2.2.2 e.2.2.1.1 e.2.2.1.2 e.2.2.2.1 e.2.2.2.2.1.1 e.2.2.2.2.1.2.1 e.2.2.2.2.1.2.2.1 e.2.2.2.2.1.2.2.2.1 e.2.2.2.2.1.2.2.2.2.1 e.2.2.2.2.1.2.2.2.2.2 e.2.2.2.2.2 = _
      unfold terrierlaw18_Events_b1
      rw [chk_pos (by decide)]
      simp only [ltO_def, chk_same]
      rw [w64 (n := Int.tmod _ 12) (by omega) (by omega), Bool.eq_false_iff.2 hgo]
      rfl
theorem events_R {acts : List TMac} (h : ∀ a ∈ acts, A6 a) : ∃ es, terrierlaw18_Events acts = some (es, ()) ∧ es.length ≤ 1000 ∧ ∀ e ∈ es, EvA e := by
  unfold terrierlaw18_Events
  rw [chk_pos (by split <;> omega)]
  have hsl : (sliceA 0 (if (60 : Int) < (acts.length : Int) then (60 : Int) else (acts.length : Int)).toNat acts).length ≤ 60 := by
    rw [slice_pre, List.length_take]; split <;> omega
  have hmem : ∀ a ∈ sliceA 0 (if (60 : Int) < (acts.length : Int) then (60 : Int) else (acts.length : Int)).toNat acts, A6 a := fun a ha => by
    rw [slice_pre] at ha
    exact h a (List.take_subset _ _ ha)
  generalize sliceA 0 (if (60 : Int) < (acts.length : Int) then (60 : Int) else (acts.length : Int)).toNat acts = l at hsl hmem
  suffices H : ∀ (m k : Nat) (out : List TEv), k + m = l.length → out.length ≤ 13 * k → (∀ e ∈ out, EvA e) → ∃ es, terrierlaw18_Events_l0 (l, (l.length : Int), (k : Int), out, ()) = some (.inl (es, ())) ∧ es.length ≤ 1000 ∧ ∀ e ∈ es, EvA e by
    obtain ⟨es, g1, g2, g3⟩ := H l.length 0 [] (by omega) (by simp) (by simp)
    have e0 : ((0 : Nat) : Int) = 0 := rfl
    rw [e0] at g1
    rw [g1]
    exact ⟨es, rfl, g2, g3⟩
  intro m
  induction m with
  | zero =>
    intro k out hk ho hout
    refine ⟨out, ?_, by omega, hout⟩
    unfold terrierlaw18_Events_l0
    refine loopM_last ?_
    show terrierlaw18_Events_b0 l (l.length : Int) (k : Int) out = _
    unfold terrierlaw18_Events_b0
    rw [decide_eq_false (by omega)]; rfl
  | succ m ih =>
    intro k out hk ho hout
    have hkl : k < l.length := by omega
    obtain ⟨e, he1, he2⟩ := event_R (hmem _ (List.getElem_mem hkl))
    obtain ⟨out', i1, i2, i3⟩ := events_inner l (l.length : Int) (k : Int) (hmem _ (List.getElem_mem hkl)) he2 12 0 (out ++ [e]) (by omega) (by omega) (by simp; omega) (fun y hy => by
        rcases List.mem_append.1 hy with hy | hy
        · exact hout y hy
        · have : y = e := by simpa using hy
          subst this; exact he2)
    have hb : terrierlaw18_Events_b0 l (l.length : Int) (k : Int) out = some (.inl (l, (l.length : Int), ((k + 1 : Nat) : Int), out', ())) := by
      unfold terrierlaw18_Events_b0
      rw [decide_eq_true (by omega), cnd_true, chk_pos (by omega)]
      simp only [ltO_def, recD, getD_toNat, getD_hit l k _ hkl, he1, bnd_val]
      rw [chk_pos (by show _ * _ ≤ _; simp; omega), i1, bnd_val, sumO_inl]
      simp only
      rw [w64 (by omega) (by omega)]; rfl
    obtain ⟨es, g1, g2⟩ := ih (k + 1) out' (by omega) (by simp at i2; omega) i3
    refine ⟨es, ?_, g2⟩
    unfold terrierlaw18_Events_l0 at g1 ⊢
    rw [loopM_next (s' := (l, (l.length : Int), ((k + 1 : Nat) : Int), out', ())) hb]
    exact g1
end Go.Tr
namespace Go.Tr
open Go
set_option linter.unusedVariables false
set_option linter.unusedSimpArgs false
set_option maxRecDepth 100000
set_option maxHeartbeats 4000000
structure Fr (s t : TState) : Prop where
  now : t.1 = s.1
  seq : t.2.1 = s.2.1
  sw : t.2.2.2.1 = s.2.2.2.1
  kn : t.2.2.2.2.1 = s.2.2.2.2.1
  pr : t.2.2.2.2.2.1 = s.2.2.2.2.2.1
theorem execF_Fr {c : TCfg} {s t : TState} (h : Fr s t) (k : TCase) : Fr s (execF c t k) := by
  unfold execF
  split
  · split
    · exact ⟨h.now, h.seq, h.sw, h.kn, h.pr⟩
    · exact ⟨h.now, h.seq, h.sw, h.kn, h.pr⟩
  · exact h
theorem execO_Fr {c : TCfg} {s : TState} : Fr s (execO c s) := fold_inv (P := fun t _ => Fr s t) _ (fun k hk a ha => execF_Fr ha _) s ⟨rfl, rfl, rfl, rfl, rfl⟩
theorem raiseF_Fr {c : TCfg} {s t : TState} (h : Fr s t) (k : THold) : Fr s (raiseF c t k) := by
  unfold raiseF
  split
  · split
    · exact ⟨h.now, h.seq, h.sw, h.kn, h.pr⟩
    · exact h
  · exact h
theorem raiseO_Fr {c : TCfg} {s : TState} : Fr s (raiseO c s) := fold_inv (P := fun t _ => Fr s t) _ (fun k hk a ha => raiseF_Fr ha _) s ⟨rfl, rfl, rfl, rfl, rfl⟩
def tick0 (c : TCfg) (s : TState) : TState := forgetO c (raiseO c (execO c (nextO c s)))
theorem tick0_fr {c : TCfg} {s : TState} : (tick0 c s).1 = addS s.1 1 ∧ (tick0 c s).2.1 = s.2.1 ∧ (tick0 c s).2.2.2.1 = s.2.2.2.1 ∧ (tick0 c s).2.2.2.2.2.1 = s.2.2.2.2.2.1 ∧ ∀ k ∈ (tick0 c s).2.2.2.2.1, k ∈ s.2.2.2.2.1 := by
  have h1 := execO_Fr (c := c) (s := nextO c s)
  have h2 := raiseO_Fr (c := c) (s := execO c (nextO c s))
  refine ⟨h2.now.trans h1.now, h2.seq.trans h1.seq, h2.sw.trans h1.sw, h2.pr.trans h1.pr, fun k hk => ?_⟩
  have hk' : k ∈ ((raiseO c (execO c (nextO c s))).2.2.2.2.1.filter (wantO c (raiseO c (execO c (nextO c s))))) := hk
  have := (List.mem_filter.1 hk').1
  rw [h2.kn, h1.kn] at this
  exact this
theorem tick0_R {c : TCfg} {s : TState} (h : StR s) : StR (tick0 c s) := forgetO_R (raiseO_R (execO_R (nextO_R h)).st)
theorem askF_kn (q : TState × List TPack) (a : Int) : (askF q a).1.2.2.2.2.1 = q.1.2.2.2.2.1 ∧ (askF q a).1.1 = q.1.1 ∧ (askF q a).1.2.2.1 = q.1.2.2.1 ∧ (askF q a).1.2.2.2.2.2.2 = q.1.2.2.2.2.2.2 := by
  unfold askF
  split <;> exact ⟨rfl, rfl, rfl, rfl⟩
theorem askO_kn {c : TCfg} {s : TState} : (askO c s).1.2.2.2.2.1 = s.2.2.2.2.1 ∧ (askO c s).1.1 = s.1 ∧ (askO c s).1.2.2.1 = s.2.2.1 ∧ (askO c s).1.2.2.2.2.2.2 = s.2.2.2.2.2.2 := by
  unfold askO
  refine fold_inv (P := fun (q : TState × List TPack) _ => q.1.2.2.2.2.1 = s.2.2.2.2.1 ∧ q.1.1 = s.1 ∧ q.1.2.2.1 = s.2.2.1 ∧ q.1.2.2.2.2.2.2 = s.2.2.2.2.2.2) _ (fun k hk q hq => ?_) _ ⟨rfl, rfl, rfl, rfl⟩
  have := askF_kn q ((planO c s (roomO c (lateP c s.2.2.2.2.2.1 s.1 c.2.2.2.2.1))).1[k])
  exact ⟨this.1.trans hq.1, this.2.1.trans hq.2.1, this.2.2.1.trans hq.2.2.1, this.2.2.2.trans hq.2.2.2⟩
def Bare (s : TState) : Prop := s.2.2.2.1 = [] ∧ s.2.2.2.2.2.1 = []
theorem plan_nil (c : TCfg) {s : TState} (h : s.2.2.2.1 = []) (room : Int) : planO c s room = ([], [], ()) := by
  obtain ⟨D, d1, _, d3, _⟩ := Plan_R_w (RowR_nil) c s.1 room
  have hD : D = [] := by
    have : dueL ([] : List TSweep) s.1 ([] : List TSweep).length = [] := rfl
    rw [this] at d1
    exact d1.eq_nil
  unfold planO
  rw [h, d3, hD]
  rfl
theorem tick_bare {c : TCfg} {s : TState} (h : Bare s) : tickO c s = (tick0 c s, []) ∧ Bare (tick0 c s) := by
  obtain ⟨_, _, f3, f4, _⟩ := tick0_fr (c := c) (s := s)
  have hb : Bare (tick0 c s) := ⟨f3.trans h.1, f4.trans h.2⟩
  refine ⟨?_, hb⟩
  show askO c (tick0 c s) = _
  unfold askO
  rw [hb.2]
  have hl : lateP c [] (tick0 c s).1 c.2.2.2.2.1 = ([], []) := rfl
  rw [hl, plan_nil c hb.1]
  have he : setW (setP (tick0 c s) []) [] = tick0 c s := by
    have h1 := hb.1
    have h2 := hb.2
    generalize tick0 c s = t at h1 h2 ⊢
    obtain ⟨a, b, d, e, f, g, i⟩ := t
    simp only at h1 h2
    subst h1; subst h2
    rfl
  simp only [List.foldl_nil, List.map_nil]
  rw [he]
def its (c : TCfg) : Nat → TState → TState
  | 0, s => s
  | n + 1, s => tick0 c (its c n s)
theorem its_R {c : TCfg} {s : TState} (h : StR s) (hb : Bare s) : ∀ n, StR (its c n s) ∧ Bare (its c n s)
  | 0 => ⟨h, hb⟩
  | n + 1 => ⟨tick0_R (its_R h hb n).1, (tick_bare (its_R h hb n).2).2⟩
theorem do_tick {c : TCfg} (hc : CfgR c) {s : TState} (h : StR s) (hb : Bare s) : ops_Do c s zEv = some (tick0 c s, 0, [], ()) := by
  rw [do_eq hc h ⟨by unfold in32; decide, by decide⟩]
  unfold doO
  rw [if_pos rfl, (tick_bare hb).1]
def zSt : TState := (0, 0, [], [], [], [], [])
theorem zSt_R : StR zSt := ⟨by decide, by decide, .nil, by decide, by simp [zSt], RowR_nil, .nil, by decide, by simp [zSt], ⟨by decide, by simp [zSt], List.Pairwise.nil⟩, .nil⟩
def cAw : TCfg := (2, 3, 1, 5, 2, 2, 0, 4, 4)
theorem cAw_R : CfgR cAw := by constructor <;> decide
def annB : List UInt8 := [97, 110, 110]
def hAw (a : Int) : TEv := (1, (a, annB, 0, 0, 0, 0, 0, 0), (0, 0), 0, zMac, 0)
def sAw (a : Int) : TEv := (5, (a, [], 0, 0, 0, 0, 0, 0), (0, 0), 1, zMac, 0)
theorem hAw_R (a : Int) : EvR (hAw a) := ⟨by show in32 0; unfold in32; decide, by show annB.length ≤ _; decide⟩
theorem sAw_R (a : Int) : EvR (sAw a) := ⟨by show in32 0; unfold in32; decide, by show ([] : List UInt8).length ≤ _; decide⟩
def s1Aw (a : Int) : TState := (0, 0, [(a, annB, 0, 0, 0, 0, 0, 0)], [], [], [], [])
def s2Aw (a : Int) : TState := (0, 0, [(a, annB, 0, 0, 0, 0, 0, 0)], [], [(a, [(1, zMac, 0)])], [], [])
theorem do1Aw (c : TCfg) (a : Int) : doO c zSt (hAw a) = (s1Aw a, 0, []) := by
  unfold doO elseO
  rw [if_neg (show ¬ (hAw a).1 = 0 from by show ¬ (1 : Int) = 0; decide), if_pos (show (hAw a).1 = 1 from rfl)]
  rfl
theorem do2Aw (c : TCfg) (a : Int) : doO c (s1Aw a) (sAw a) = (s2Aw a, 0, []) := by
  unfold doO elseO
  rw [if_neg (show ¬ (sAw a).1 = 0 from by show ¬ (5 : Int) = 0; decide), if_neg (show ¬ (sAw a).1 = 1 from by show ¬ (5 : Int) = 1; decide), if_neg (show ¬ (sAw a).1 = 2 from by show ¬ (5 : Int) = 2; decide), if_neg (show ¬ (sAw a).1 = 3 from by show ¬ (5 : Int) = 3; decide), if_neg (show ¬ (sAw a).1 = 4 from by show ¬ (5 : Int) = 4; decide), if_pos (show (sAw a).1 = 5 from rfl)]
  rfl
theorem s1Aw_R (a : Int) : StR (s1Aw a) := by
  have := doO_R cAw_R zSt_R (hAw_R a)
  rw [do1Aw] at this
  exact this
theorem s2Aw_R (a : Int) : StR (s2Aw a) := by
  have := doO_R cAw_R (s1Aw_R a) (sAw_R a)
  rw [do2Aw] at this
  exact this
theorem aw_end : (its cAw 4 (s2Aw 5)).1 = 4 ∧ (its cAw 4 (s2Aw 5)).2.2.2.2.2.2.length = 1 ∧ statO cAw (its cAw 4 (s2Aw 5)) 5 = 3 ∧ statO cAw (s2Aw 5) 5 = 2 := by
  refine ⟨?_, ?_, ?_, ?_⟩ <;> kernel_rfl
theorem oawake_eq : terrierlaw18_awake = some (true, ()) := by
  unfold terrierlaw18_awake
  have d1 := do_eq cAw_R zSt_R (hAw_R 5)
  rw [do1Aw] at d1
  have d2 := do_eq cAw_R (s1Aw_R 5) (sAw_R 5)
  rw [do2Aw] at d2
  have e1 : ops_Do ((2, 3, 1, 5, 2, 2, 0, 4, 4) : TCfg) ((0, 0, [], [], [], [], []) : TState) ((1, (5, [97, 110, 110], 0, 0, 0, 0, 0, 0), (0, 0), 0, zMac, 0) : TEv) = some (s1Aw 5, 0, [], ()) := d1
  have e2 : ops_Do ((2, 3, 1, 5, 2, 2, 0, 4, 4) : TCfg) (s1Aw 5) ((5, (5, [], 0, 0, 0, 0, 0, 0), (0, 0), 1, zMac, 0) : TEv) = some (s2Aw 5, 0, [], ()) := d2
  have e3 : ops_Status ((2, 3, 1, 5, 2, 2, 0, 4, 4) : TCfg) (s2Aw 5) 5 = some (statO cAw (s2Aw 5) 5, ()) := statO_eq cAw_R (s2Aw_R 5).see 5
  rw [e1]
  simp only [bnd_val]
  rw [e2]
  simp only [bnd_val]
  rw [e3, aw_end.2.2.2]
  simp only [bnd_val]
  have hb : Bare (s2Aw 5) := ⟨rfl, rfl⟩
  have hits := its_R (c := cAw) (s2Aw_R 5) hb
  have hl : terrierlaw18_awake_l0 (0, 0, 2, 0, ((2, 3, 1, 5, 2, 2, 0, 4, 4) : TCfg), s2Aw 5, ()) = some (.inl (0, 0, 2, ((2, 3, 1, 5, 2, 2, 0, 4, 4) : TCfg), its cAw 4 (s2Aw 5), ())) := by
    unfold terrierlaw18_awake_l0
    refine (loopM_steps (n := 4) (fun k : Nat => (0, 0, 2, (k : Int), ((2, 3, 1, 5, 2, 2, 0, 4, 4) : TCfg), its cAw k (s2Aw 5), ())) (Nat.zero_le _) fun k _ hk => ?_).trans ?_
    · show terrierlaw18_awake_b0 0 0 2 (k : Int) ((2, 3, 1, 5, 2, 2, 0, 4, 4) : TCfg) (its cAw k (s2Aw 5)) = _
      unfold terrierlaw18_awake_b0
      have e : ops_Do ((2, 3, 1, 5, 2, 2, 0, 4, 4) : TCfg) (its cAw k (s2Aw 5)) zEv = _ := do_tick cAw_R (hits k).1 (hits k).2
      rw [decide_eq_true (by omega), cnd_true, e, bnd_val]
      simp only [ltO_def]
      rw [w64 (by omega) (by omega)]
      rfl
    · exact loopM_last rfl
  rw [hl]
  simp only [bnd_val, sumO_inl, ltO_def, chk_same]
  have e4 : ops_Status ((2, 3, 1, 5, 2, 2, 0, 4, 4) : TCfg) (its cAw 4 (s2Aw 5)) 5 = some (statO cAw (its cAw 4 (s2Aw 5)) 5, ()) := statO_eq cAw_R (hits 4).1.see 5
  rw [e4, aw_end.1, aw_end.2.1, aw_end.2.2.1, bndG_val]
  rfl
def KnR (s : TState) : Prop := ∀ k ∈ s.2.2.2.2.1, 167772160 ≤ k.1 ∧ k.1 < 167772176
theorem stopO_kn (s : TState) (a : Int) : (stopO s a).2.2.2.2.1 = s.2.2.2.2.1 ∧ (stopO s a).1 = s.1 := by
  unfold stopO
  split <;> exact ⟨rfl, rfl⟩
theorem putO_K {s t : TState} (hs : KnR s) (ht : KnR t) (hr : Rise kK t.2.2.2.2.1) {a : Int} (ha : 167772160 ≤ a ∧ a < 167772176) (x : TSight) : KnR (putO s t a x).1 := by
  unfold putO
  split
  · rename_i h0
    intro k hk
    have hk' : k ∈ (putK t.2.2.2.2.1 a x).2 := by
      have := (stopO_kn (setK t (putK t.2.2.2.2.1 a x).2) a).1
      simp only at hk
      rw [this] at hk
      exact hk
    unfold putK at hk'
    split at hk'
    · simp at hk'
    · split at hk'
      · simp at hk'
      · split at hk'
        · simp at hk'
        · simp only at hk'
          split at hk'
          · rename_i hh
            obtain ⟨g1, g2⟩ := hr.at hh
            rcases List.mem_or_eq_of_mem_set hk' with hk' | rfl
            · exact ht k hk'
            · rw [getD_hit _ _ _ g1]
              exact ht (t.2.2.2.2.1[lowB kK t.2.2.2.2.1 a]) (List.getElem_mem g1)
          · rcases insK_mem hk' with hk' | rfl
            · exact ht k hk'
            · exact ha
  · exact hs
theorem doO_K {c : TCfg} {s : TState} (hs : StR s) (h : KnR s) {e : TEv} (he : EvA e) : KnR (doO c s e).1 := by
  unfold doO
  split
  · intro k hk
    have hk' : k ∈ (askO c (tick0 c s)).1.2.2.2.2.1 := hk
    rw [askO_kn.1] at hk'
    exact h k (tick0_fr.2.2.2.2 k hk')
  · unfold elseO
    split
    · unfold layO
      split <;> exact h
    · split
      · unfold dropO
        split
        · intro k hk
          have := (stopO_kn (setH s (takeH s.2.2.1 e.2.1.1)) e.2.1.1).1
          simp only at hk
          rw [this] at hk
          exact h k hk
        · exact h
      · split
        · unfold layO
          split <;> exact h
        · split
          · unfold layO
            split <;> exact h
          · split
            · unfold sawO
              split
              · split
                · exact h
                · rename_i l hl
                  exact putO_K (s := s) (t := setP s l) h (show KnR (setP s l) from h) hs.kr he.addr _
              · exact putO_K h h hs.kr he.addr _
            · split
              · unfold layO
                split <;> exact h
              · split
                · unfold layO
                  split <;> exact h
                · exact h
end Go.Tr
namespace Go.Tr
open Go
theorem slm_wf {M : Nat} {e : Sh} {l : List e.T} (h : wfS M (.sl e) l) : ∀ x ∈ l, wfS M e x := by
  intro x hx
  obtain ⟨i, hi, rfl⟩ := List.mem_iff_getElem.1 hx
  exact h.2 i hi
theorem u8b_wf {M : Nat} {a : Int} (h : wfS M (.int .u8) a) : u8B a := by
  have h1 : (0 : Int) ≤ a := h.1
  have h2 : a ≤ 255 := h.2
  exact ⟨h1, by omega⟩
theorem c9_wf {M : Nat} {x : TCfg} (h : wfS M (.pair (.int .u8) (.pair (.int .u8) (.pair (.int .u8) (.pair (.int .u8) (.pair (.int .u8) (.pair (.int .u8) (.pair (.int .u8) (.pair (.int .u8) (.int .u8))))))))) x) : C9 x := ⟨u8b_wf h.1, u8b_wf h.2.1, u8b_wf h.2.2.1, u8b_wf h.2.2.2.1, u8b_wf h.2.2.2.2.1, u8b_wf h.2.2.2.2.2.1, u8b_wf h.2.2.2.2.2.2.1, u8b_wf h.2.2.2.2.2.2.2.1, u8b_wf h.2.2.2.2.2.2.2.2⟩
theorem a6_wf {M : Nat} {x : TMac} (h : wfS M (.pair (.int .u8) (.pair (.int .u8) (.pair (.int .u8) (.pair (.int .u8) (.pair (.int .u8) (.int .u8)))))) x) : A6 x := ⟨u8b_wf h.1, u8b_wf h.2.1, u8b_wf h.2.2.1, u8b_wf h.2.2.2.1, u8b_wf h.2.2.2.2.1, u8b_wf h.2.2.2.2.2⟩
theorem acts6_wf {M : Nat} {l : List TMac} (h : wfS M (.sl (.pair (.int .u8) (.pair (.int .u8) (.pair (.int .u8) (.pair (.int .u8) (.pair (.int .u8) (.int .u8))))))) l) : ∀ a ∈ l, A6 a := fun a ha => a6_wf (slm_wf h a ha)
end Go.Tr
