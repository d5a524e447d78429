/- Events of acts, configurations of choices. Ticks where nothing is swept; the document's examples; states behind acts. Bounds of a law's arguments, as the laws of events want them. Conditions: none but those that each theorem states. -/
import Derived.Test.YtklmhllelgjglaaGreatOpsKb
import Derived.KernelRfl
import Derived.Test.YtklmhllelgjglaaGreatAddrW
namespace Go.Tr
open Go
set_option linter.unusedVariables false
set_option linter.unusedSimpArgs false
set_option maxRecDepth 100000
set_option maxHeartbeats 4000000
def u8B (n : Int) : Prop := 0 ≤ n ∧ n < 256
def C9 (x : TCfg) : Prop := u8B x.1 ∧ u8B x.2.1 ∧ u8B x.2.2.1 ∧ u8B x.2.2.2.1 ∧ u8B x.2.2.2.2.1 ∧ u8B x.2.2.2.2.2.1 ∧ u8B x.2.2.2.2.2.2.1 ∧ u8B x.2.2.2.2.2.2.2.1 ∧ u8B x.2.2.2.2.2.2.2.2
theorem tmod_u8 {n : Int} (h : u8B n) (k : Int) (hk : 0 < k) : 0 ≤ n.tmod k ∧ n.tmod k < k := by
  rw [Int.tmod_eq_emod_of_nonneg h.1]
  exact ⟨Int.emod_nonneg _ (by omega), Int.emod_lt_of_pos _ hk⟩
theorem config_R {x : TCfg} (h : C9 x) : ∃ c : TCfg, terrierlaw10_Choice_Config x = some (c, ()) ∧ CfgR c := by
  obtain ⟨h1, h2, h3, h4, h5, h6, h7, h8, h9⟩ := h
  have a1 := tmod_u8 h1 30 (by decide)
  have a2 := tmod_u8 h2 60 (by decide)
  have a3 := tmod_u8 h3 6 (by decide)
  have a4 := tmod_u8 h4 20 (by decide)
  have a5 := tmod_u8 h5 9 (by decide)
  have a6 := tmod_u8 h6 6 (by decide)
  have a7 := tmod_u8 h7 4 (by decide)
  have a8 := tmod_u8 h8 40 (by decide)
  have a9 := tmod_u8 h9 50 (by decide)
  unfold terrierlaw10_Choice_Config
  simp only [ltO_def]
  repeat rw [chk_pos (by decide)]
  refine ⟨_, rfl, ?_⟩
  generalize x.1.tmod 30 = y1 at a1 ⊢
  generalize x.2.1.tmod 60 = y2 at a2 ⊢
  generalize x.2.2.1.tmod 6 = y3 at a3 ⊢
  generalize x.2.2.2.1.tmod 20 = y4 at a4 ⊢
  generalize x.2.2.2.2.1.tmod 9 = y5 at a5 ⊢
  generalize x.2.2.2.2.2.1.tmod 6 = y6 at a6 ⊢
  generalize x.2.2.2.2.2.2.1.tmod 4 = y7 at a7 ⊢
  generalize x.2.2.2.2.2.2.2.1.tmod 40 = y8 at a8 ⊢
  generalize x.2.2.2.2.2.2.2.2.tmod 50 = y9 at a9 ⊢
  rw [w64 (n := y1) (by omega) (by omega), w64 (n := y2) (by omega) (by omega), w64 (n := y3) (by omega) (by omega), w64 (n := y4) (by omega) (by omega), w64 (n := y5) (by omega) (by omega), w64 (n := y6) (by omega) (by omega), w64 (n := y7) (by omega) (by omega), w64 (n := y8) (by omega) (by omega), w64 (n := y9) (by omega) (by omega),
    w64 (n := 1 + y1) (by omega) (by omega), w64 (n := 1 + y3) (by omega) (by omega), w64 (n := 1 + y4) (by omega) (by omega), w64 (n := 1 + y5) (by omega) (by omega), w64 (n := 1 + y6) (by omega) (by omega), w64 (n := 1 + y8) (by omega) (by omega), w64 (n := 1 + y1 + y2) (by omega) (by omega)]
  constructor <;> simp only <;> omega
structure EvA (e : TEv) : Prop extends EvR e where
  addr : 167772160 ≤ e.2.1.1 ∧ e.2.1.1 < 167772176
  hm : M6ok e.2.1.2.2
  sm : M6ok e.2.2.2.2.1
  ow : e.2.1.2.1.length ≤ 9
  wh : 0 ≤ e.1 ∧ e.1 ≤ 8
def A6 (a : TMac) : Prop := u8B a.1 ∧ u8B a.2.1 ∧ u8B a.2.2.1 ∧ u8B a.2.2.2.1 ∧ u8B a.2.2.2.2.1 ∧ u8B a.2.2.2.2.2
theorem zMac_ok : M6ok zMac := ⟨⟨by decide, by decide⟩, ⟨by decide, by decide⟩, ⟨by decide, by decide⟩, ⟨by decide, by decide⟩, ⟨by decide, by decide⟩, ⟨by decide, by decide⟩⟩
theorem wu8_in (n : Int) : 0 ≤ IntKind.u8.wrap n ∧ IntKind.u8.wrap n ≤ 255 := by
  have e : IntKind.u8.wrap n = n % 256 := rfl
  rw [e]; omega
theorem station_R (n : Int) : ∃ m, terrierlaw11_Station n = some (m, ()) ∧ M6ok m := by
  unfold terrierlaw11_Station
  cases decide (n ≥ 128)
  · simp only [cnd_false, ltO_def]
    rw [chk_pos (by decide)]
    have z : by8 0 := ⟨by decide, by decide⟩
    have hw := wu8_in (1 + n.tmod 3)
    exact ⟨_, rfl, ⟨⟨by show (0 : Int) ≤ 2; decide, by show (2 : Int) < 256; decide⟩, z, z, z, z, ⟨hw.1, by show IntKind.u8.wrap (1 + n.tmod 3) < 256; omega⟩⟩⟩
  · exact ⟨_, rfl, zMac_ok⟩
theorem event_R {a : TMac} (h : A6 a) : ∃ e, terrierlaw18_Act_Event a = some (e, ()) ∧ EvA e := by
  obtain ⟨h1, h2, h3, h4, h5, h6⟩ := h
  have a1 := tmod_u8 h1 16 (by decide)
  have a2 := tmod_u8 h2 16 (by decide)
  have a3 := tmod_u8 h2 64 (by decide)
  have a4 := tmod_u8 h3 5 (by decide)
  have a5 := tmod_u8 h5 8 (by decide)
  have a6 := tmod_u8 h5 4 (by decide)
  obtain ⟨m1, hm1, hk1⟩ := station_R a.2.2.2.1
  obtain ⟨m2, hm2, hk2⟩ := station_R (IntKind.u8.wrap (a.2.2.2.1.tdiv 2))
  unfold terrierlaw18_Act_Event
  simp only [ltO_def]
  generalize a.1.tmod 16 = y1 at a1 ⊢
  generalize a.2.1.tmod 16 = y2 at a2 ⊢
  generalize a.2.1.tmod 64 = y3 at a3 ⊢
  generalize a.2.2.1.tmod 5 = y4 at a4 ⊢
  generalize a.2.2.2.2.1.tmod 8 = y5 at a5 ⊢
  generalize a.2.2.2.2.1.tmod 4 = y6 at a6 ⊢
  have hn0 : ¬ (16 : Int) = 0 := by decide
  have hn1 : ¬ (8 : Int) = 0 := by decide
  have hn2 : ¬ (64 : Int) = 0 := by decide
  have hn3 : ¬ (5 : Int) = 0 := by decide
  have hn4 : ¬ (4 : Int) = 0 := by decide
  have hn5 : ¬ (2 : Int) = 0 := by decide
  rw [wu8 (n := y5 + 1) (by omega) (by omega), wu8 (n := 8 + y4) (by omega) (by omega), wu32 (n := y2) (by omega) (by omega), wu32 (n := y3) (by omega) (by omega), wu32 (n := 167772160 + y2) (by omega) (by omega), wu32 (n := 167772160 + y3) (by omega) (by omega)]
  have hi3 : in32 (167772160 + y3) := by unfold in32; omega
  rw [hm1, hm2, Block_eq hi3 (by omega)]
  have hq : 0 ≤ y5 ∧ y5 ≤ y5 + 1 ∧ y5 + 1 ≤ 8 := by omega
  have hs : (sliceA y5.toNat (y5 + 1).toNat [(97 : UInt8), 98, 99, 100, 101, 102, 103, 104]).length ≤ 8 := by
    unfold sliceA
    simp
    omega
  have hq2 : ((1 + (sliceA y5.toNat (y5 + 1).toNat [(97 : UInt8), 98, 99, 100, 101, 102, 103, 104]).length : Nat) : Int) ≤ 9223372036854775807 := by omega
  have hq3 : 0 ≤ y1 ∧ y1 < 16 := a1
  have hq4 : y1.toNat < 16 := by omega
  simp only [chk_pos hn0, chk_pos hn1, chk_pos hn2, chk_pos hn3, chk_pos hn4, chk_pos hn5, chk_pos hq, chk_pos hq2, chk_pos hq3, chk_pos hq4, bnd_val]
  refine ⟨_, rfl, ⟨⟨(bB_ok hi3 (by omega)).i, ?_⟩, ?_, hk1, hk2, ?_, ?_⟩⟩
  · show ([(111 : UInt8)] ++ sliceA y5.toNat (y5 + 1).toNat [(97 : UInt8), 98, 99, 100, 101, 102, 103, 104]).length ≤ _
    rw [List.length_append, List.length_singleton]; omega
  · show 167772160 ≤ 167772160 + y2 ∧ 167772160 + y2 < 167772176
    omega
  · show ([(111 : UInt8)] ++ sliceA y5.toNat (y5 + 1).toNat [(97 : UInt8), 98, 99, 100, 101, 102, 103, 104]).length ≤ _
    rw [List.length_append, List.length_singleton]; omega
  · have hall : ∀ x ∈ [(0 : Int), 0, 0, 1, 1, 2, 3, 4, 5, 5, 5, 6, 6, 7, 5, 8], 0 ≤ x ∧ x ≤ 8 := by decide
    show 0 ≤ [(0 : Int), 0, 0, 1, 1, 2, 3, 4, 5, 5, 5, 6, 6, 7, 5, 8].getD y1.toNat 0 ∧ [(0 : Int), 0, 0, 1, 1, 2, 3, 4, 5, 5, 5, 6, 6, 7, 5, 8].getD y1.toNat 0 ≤ 8
    rw [getD_hit _ _ _ (show y1.toNat < [(0 : Int), 0, 0, 1, 1, 2, 3, 4, 5, 5, 5, 6, 6, 7, 5, 8].length from hq4)]
    exact hall _ (List.getElem_mem _)
theorem events_inner (t12 : List TMac) (t13 t14 : Int) {a : TMac} (h : A6 a) {e : TEv} (he : EvA e) : ∀ (m : Nat) (k : Int) (out : List TEv), 0 ≤ k → k + (m : Int) = 12 → out.length + m ≤ 10000 → (∀ e ∈ out, EvA e) →
    ∃ out', terrierlaw18_Events_l1 (k, t12, t13, t14, out, a.1, a.2.1, a.2.2.1, a.2.2.2.1, a.2.2.2.2.1, a.2.2.2.2.2, e.1, e.2.1.1, e.2.1.2.1, e.2.1.2.2.1, e.2.1.2.2.2.1, e.2.1.2.2.2.2.1, e.2.1.2.2.2.2.2.1, e.2.1.2.2.2.2.2.2.1, e.2.1.2.2.2.2.2.2.2, e.2.2.1.1, e.2.2.1.2, e.2.2.2.1, e.2.2.2.2.1.1, e.2.2.2.2.1.2.1, e.2.2.2.2.1.2.2.1, e.2.2.2.2.1.2.2.2.1, e.2.2.2.2.1.2.2.2.2.1, e.2.2.2.2.1.2.2.2.2.2, e.2.2.2.2.2, ()) = some (.inl (t12, t13, t14, out', ())) ∧ out'.length ≤ out.length + m ∧ ∀ e ∈ out', EvA e := by
  have a6 := tmod_u8 h.2.2.2.2.2 12 (by decide)
  intro m
  induction m with
  | zero =>
    intro k out hk hm ho hout
    refine ⟨out, ?_, by omega, hout⟩
    unfold terrierlaw18_Events_l1
    refine loopM_last ?_
    show terrierlaw18_Events_b1 k t12 t13 t14 out a.1 a.2.1 a.2.2.1 a.2.2.2.1 a.2.2.2.2.1 a.2.2.2.2.2 e.1 e.2.1.1 e.2.1.2.1 e.2.1.2.2.1 e.2.1.2.2.2.1 e.2.1.2.2.2.2.1 e.2.1.2.2.2.2.2.1 e.2.1.2.2.2.2.2.2.1 e.2.1.2.2.2.2.2.2.2 e.2.2.1.1 e.2.2.1.2 e.2.2.2.1 e.2.2.2.2.1.1 e.2.2.2.2.1.2.1 e.2.2.2.2.1.2.2.1 e.2.2.2.2.1.2.2.2.1 e.2.2.2.2.1.2.2.2.2.1 e.2.2.2.2.1.2.2.2.2.2 e.2.2.2.2.2 = _
    unfold terrierlaw18_Events_b1
    rw [chk_pos (by decide)]
    simp only [ltO_def, chk_same]
    rw [w64 (n := Int.tmod _ 12) (by omega) (by omega), decide_eq_false (by omega)]
    rfl
  | succ m ih =>
    intro k out hk hm ho hout
    by_cases hgo : (decide (k < a.2.2.2.2.2.tmod 12) && e.1 == 0) = true
    · have hb : terrierlaw18_Events_b1 k t12 t13 t14 out a.1 a.2.1 a.2.2.1 a.2.2.2.1 a.2.2.2.2.1 a.2.2.2.2.2 e.1 e.2.1.1 e.2.1.2.1 e.2.1.2.2.1 e.2.1.2.2.2.1 e.2.1.2.2.2.2.1 e.2.1.2.2.2.2.2.1 e.2.1.2.2.2.2.2.2.1 e.2.1.2.2.2.2.2.2.2 e.2.2.1.1 e.2.2.1.2 e.2.2.2.1 e.2.2.2.2.1.1 e.2.2.2.2.1.2.1 e.2.2.2.2.1.2.2.1 e.2.2.2.2.1.2.2.2.1 e.2.2.2.2.1.2.2.2.2.1 e.2.2.2.2.1.2.2.2.2.2 e.2.2.2.2.2 = some (.inl (k + 1, t12, t13, t14, out ++ [e], a.1, a.2.1, a.2.2.1, a.2.2.2.1, a.2.2.2.2.1, a.2.2.2.2.2, e.1, e.2.1.1, e.2.1.2.1, e.2.1.2.2.1, e.2.1.2.2.2.1, e.2.1.2.2.2.2.1, e.2.1.2.2.2.2.2.1, e.2.1.2.2.2.2.2.2.1, e.2.1.2.2.2.2.2.2.2, e.2.2.1.1, e.2.2.1.2, e.2.2.2.1, e.2.2.2.2.1.1, e.2.2.2.2.1.2.1, e.2.2.2.2.1.2.2.1, e.2.2.2.2.1.2.2.2.1, e.2.2.2.2.1.2.2.2.2.1, e.2.2.2.2.1.2.2.2.2.2, e.2.2.2.2.2, ())) := by
        unfold terrierlaw18_Events_b1
        rw [chk_pos (by decide)]
        simp only [ltO_def, chk_same]
        rw [w64 (n := Int.tmod _ 12) (by omega) (by omega), hgo, cnd_true, chk_pos (by show _ * _ ≤ _; simp; omega), w64 (n := k + 1) (by omega) (by omega)]
      obtain ⟨out', h1, h2, h3⟩ := ih (k + 1) (out ++ [e]) (by omega) (by omega) (by simp; omega) (fun y hy => by
        rcases List.mem_append.1 hy with hy | hy
        · exact hout y hy
        · have : y = e := by simpa using hy
          subst this; exact he)
      refine ⟨out', ?_, by simp at h2; omega, h3⟩
      unfold terrierlaw18_Events_l1 at h1 ⊢
      rw [loopM_next (s' := (k + 1, t12, t13, t14, out ++ [e], a.1, a.2.1, a.2.2.1, a.2.2.2.1, a.2.2.2.2.1, a.2.2.2.2.2, e.1, e.2.1.1, e.2.1.2.1, e.2.1.2.2.1, e.2.1.2.2.2.1, e.2.1.2.2.2.2.1, e.2.1.2.2.2.2.2.1, e.2.1.2.2.2.2.2.2.1, e.2.1.2.2.2.2.2.2.2, e.2.2.1.1, e.2.2.1.2, e.2.2.2.1, e.2.2.2.2.1.1, e.2.2.2.2.1.2.1, e.2.2.2.2.1.2.2.1, e.2.2.2.2.1.2.2.2.1, e.2.2.2.2.1.2.2.2.2.1, e.2.2.2.2.1.2.2.2.2.2, e.2.2.2.2.2, ())) hb]
      exact h1
    · refine ⟨out, ?_, by omega, hout⟩
      unfold terrierlaw18_Events_l1
      refine loopM_last ?_
      show terrierlaw18_Events_b1 k t12 t13 t14 out a.1 a.2.1 a.2.2.1 a.2.2.2.1 a.2.2.2.2.1 a.2.2.2.2.2 e.1 e.2.1.1 e.2.1.2.1 e.2.1.2.2.1 e.2.1.2.2.2.1 e.2.1.2.2.2.2.1 e.2.1.2.2.2.2.2.1 e.2.1.2.2.2.2.2.2.1 e.2.1.2.2.2.2.2.2.2 e.2.2.1.1 e.2.2.1.2 e.2.2.2.1 e.2.2.2.2.1.1 e.2.2.2.2.1.2.1 e.2.2.2.2.1.2.2.1 e.2.2.2.2.1.2.2.2.1 e.2.2.2.2.1.2.2.2.2.1 e.2.2.2.2.1.2.2.2.2.2 e.2.2.2.2.2 = _
      unfold terrierlaw18_Events_b1
      rw [chk_pos (by decide)]
      simp only [ltO_def, chk_same]
      rw [w64 (n := Int.tmod _ 12) (by omega) (by omega), Bool.eq_false_iff.2 hgo]
      rfl
theorem events_R {acts : List TMac} (h : ∀ a ∈ acts, A6 a) : ∃ es, terrierlaw18_Events acts = some (es, ()) ∧ es.length ≤ 1000 ∧ ∀ e ∈ es, EvA e := by
  unfold terrierlaw18_Events
  rw [chk_pos (by split <;> omega)]
  have hsl : (sliceA 0 (if (60 : Int) < (acts.length : Int) then (60 : Int) else (acts.length : Int)).toNat acts).length ≤ 60 := by
    rw [slice_pre, List.length_take]; split <;> omega
  have hmem : ∀ a ∈ sliceA 0 (if (60 : Int) < (acts.length : Int) then (60 : Int) else (acts.length : Int)).toNat acts, A6 a := fun a ha => by
    rw [slice_pre] at ha
    exact h a (List.take_subset _ _ ha)
  generalize sliceA 0 (if (60 : Int) < (acts.length : Int) then (60 : Int) else (acts.length : Int)).toNat acts = l at hsl hmem
  suffices H : ∀ (m k : Nat) (out : List TEv), k + m = l.length → out.length ≤ 13 * k → (∀ e ∈ out, EvA e) → ∃ es, terrierlaw18_Events_l0 (l, (l.length : Int), (k : Int), out, ()) = some (.inl (es, ())) ∧ es.length ≤ 1000 ∧ ∀ e ∈ es, EvA e by
    obtain ⟨es, g1, g2, g3⟩ := H l.length 0 [] (by omega) (by simp) (by simp)
    have e0 : ((0 : Nat) : Int) = 0 := rfl
    rw [e0] at g1
    rw [g1]
    exact ⟨es, rfl, g2, g3⟩
  intro m
  induction m with
  | zero =>
    intro k out hk ho hout
    refine ⟨out, ?_, by omega, hout⟩
    unfold terrierlaw18_Events_l0
    refine loopM_last ?_
    show terrierlaw18_Events_b0 l (l.length : Int) (k : Int) out = _
    unfold terrierlaw18_Events_b0
    rw [decide_eq_false (by omega)]; rfl
  | succ m ih =>
    intro k out hk ho hout
    have hkl : k < l.length := by omega
    obtain ⟨e, he1, he2⟩ := event_R (hmem _ (List.getElem_mem hkl))
    obtain ⟨out', i1, i2, i3⟩ := events_inner l (l.length : Int) (k : Int) (hmem _ (List.getElem_mem hkl)) he2 12 0 (out ++ [e]) (by omega) (by omega) (by simp; omega) (fun y hy => by
        rcases List.mem_append.1 hy with hy | hy
        · exact hout y hy
        · have : y = e := by simpa using hy
          subst this; exact he2)
    have hb : terrierlaw18_Events_b0 l (l.length : Int) (k : Int) out = some (.inl (l, (l.length : Int), ((k + 1 : Nat) : Int), out', ())) := by
      unfold terrierlaw18_Events_b0
      rw [decide_eq_true (by omega), cnd_true, chk_pos (by omega)]
      simp only [ltO_def, recD, getD_toNat, getD_hit l k _ hkl, he1, bnd_val]
      rw [chk_pos (by show _ * _ ≤ _; simp; omega), i1, bnd_val, sumO_inl]
      simp only
      rw [w64 (by omega) (by omega)]; rfl
    obtain ⟨es, g1, g2⟩ := ih (k + 1) out' (by omega) (by simp at i2; omega) i3
    refine ⟨es, ?_, g2⟩
    unfold terrierlaw18_Events_l0 at g1 ⊢
    rw [loopM_next (s' := (l, (l.length : Int), ((k + 1 : Nat) : Int), out', ())) hb]
    exact g1
end Go.Tr
namespace Go.Tr
open Go
set_option linter.unusedVariables false
set_option linter.unusedSimpArgs false
set_option maxRecDepth 100000
set_option maxHeartbeats 4000000
def tick0 (c : TCfg) (s : TState) : TState := forgetO c (raiseO c (execO c (nextO c s)))
theorem askF_kn (q : TState × List TPack) (a : Int) : (askF q a).1.2.2.2.2.1 = q.1.2.2.2.2.1 ∧ (askF q a).1.1 = q.1.1 ∧ (askF q a).1.2.2.1 = q.1.2.2.1 ∧ (askF q a).1.2.2.2.2.2.2 = q.1.2.2.2.2.2.2 := by
  unfold askF
  split <;> exact ⟨rfl, rfl, rfl, rfl⟩
theorem askO_kn {c : TCfg} {s : TState} : (askO c s).1.2.2.2.2.1 = s.2.2.2.2.1 ∧ (askO c s).1.1 = s.1 ∧ (askO c s).1.2.2.1 = s.2.2.1 ∧ (askO c s).1.2.2.2.2.2.2 = s.2.2.2.2.2.2 := by
  unfold askO
  refine fold_inv (P := fun (q : TState × List TPack) _ => q.1.2.2.2.2.1 = s.2.2.2.2.1 ∧ q.1.1 = s.1 ∧ q.1.2.2.1 = s.2.2.1 ∧ q.1.2.2.2.2.2.2 = s.2.2.2.2.2.2) _ (fun k hk q hq => ?_) _ ⟨rfl, rfl, rfl, rfl⟩
  have := askF_kn q ((planO c s (roomO c (lateP c s.2.2.2.2.2.1 s.1 c.2.2.2.2.1))).1[k])
  exact ⟨this.1.trans hq.1, this.2.1.trans hq.2.1, this.2.2.1.trans hq.2.2.1, this.2.2.2.trans hq.2.2.2⟩
def its (c : TCfg) : Nat → TState → TState
  | 0, s => s
  | n + 1, s => tick0 c (its c n s)
def zeroS : TState := (0, 0, [], [], [], [], [])
theorem zSt_R : StR zeroS := ⟨by decide, by decide, .nil, by decide, by simp [zeroS], RowR_nil, .nil, by decide, by simp [zeroS], ⟨by decide, by simp [zeroS], List.Pairwise.nil⟩, .nil⟩
theorem some_P {P : TState → Prop} (h0 : P zeroS) {c : TCfg} (hc : CfgR c) (hP : ∀ s e, StR s → EvA e → P s → P (doO c s e).1) {acts : List TMac} (ha : ∀ a ∈ acts, A6 a) : ∃ s, terrierlaw18_Some c acts = some (s, ()) ∧ StR s ∧ P s := by
  obtain ⟨es, h1, h2, h3⟩ := events_R ha
  unfold terrierlaw18_Some
  rw [h1, bnd_val]
  suffices H : ∀ (m k : Nat) (s : TState), k + m = es.length → StR s → P s → ∃ s', terrierlaw18_Some_l0 ((es.length : Int), (k : Int), c, zeroS, s, es, ()) = some (.inl (zeroS, s', ())) ∧ StR s' ∧ P s' by
    obtain ⟨s', g1, g2, g3⟩ := H es.length 0 zeroS (by omega) zSt_R h0
    refine ⟨s', ?_, g2, g3⟩
    have g1' : terrierlaw18_Some_l0 ((es.length : Int), 0, c, ((0, 0, [], [], [], [], []) : TState), ((0, 0, [], [], [], [], []) : TState), es, ()) = _ := g1
    rw [g1']; rfl
  intro m
  induction m with
  | zero =>
    intro k s hk hs hn
    refine ⟨s, ?_, hs, hn⟩
    unfold terrierlaw18_Some_l0
    refine loopM_last ?_
    show terrierlaw18_Some_b0 (es.length : Int) (k : Int) c zeroS s es = _
    unfold terrierlaw18_Some_b0
    rw [decide_eq_false (by omega)]; rfl
  | succ m ih =>
    intro k s hk hs hn
    have hkl : k < es.length := by omega
    have he := h3 _ (List.getElem_mem hkl)
    obtain ⟨s', g1, g2⟩ := ih (k + 1) (doO c s es[k]).1 (by omega) (doO_R hc hs he.toEvR) (hP s _ hs he hn)
    refine ⟨s', ?_, g2⟩
    have hb : terrierlaw18_Some_b0 (es.length : Int) (k : Int) c zeroS s es = some (.inl ((es.length : Int), ((k + 1 : Nat) : Int), c, zeroS, (doO c s es[k]).1, es, ())) := by
      unfold terrierlaw18_Some_b0
      rw [decide_eq_true (by omega), cnd_true, chk_pos (by omega), chk_pos (by omega)]
      simp only [Int.toNat_natCast, getD_hit es k _ hkl]
      have hd := do_eq hc hs he.toEvR
      erw [hd]
      simp only [bnd_val, ltO_def]
      rw [w64 (by omega) (by omega)]; rfl
    unfold terrierlaw18_Some_l0 at g1 ⊢
    rw [loopM_next (s' := ((es.length : Int), ((k + 1 : Nat) : Int), c, zeroS, (doO c s es[k]).1, es, ())) hb]
    exact g1
end Go.Tr
namespace Go.Tr
open Go
theorem slm_wf {M : Nat} {e : Sh} {l : List e.T} (h : wfS M (.sl e) l) : ∀ x ∈ l, wfS M e x := by
  intro x hx
  obtain ⟨i, hi, rfl⟩ := List.mem_iff_getElem.1 hx
  exact h.2 i hi
theorem u8b_wf {M : Nat} {a : Int} (h : wfS M (.int .u8) a) : u8B a := by
  have h1 : (0 : Int) ≤ a := h.1
  have h2 : a ≤ 255 := h.2
  exact ⟨h1, by omega⟩
theorem c9_wf {M : Nat} {x : TCfg} (h : wfS M (.pair (.int .u8) (.pair (.int .u8) (.pair (.int .u8) (.pair (.int .u8) (.pair (.int .u8) (.pair (.int .u8) (.pair (.int .u8) (.pair (.int .u8) (.int .u8))))))))) x) : C9 x := ⟨u8b_wf h.1, u8b_wf h.2.1, u8b_wf h.2.2.1, u8b_wf h.2.2.2.1, u8b_wf h.2.2.2.2.1, u8b_wf h.2.2.2.2.2.1, u8b_wf h.2.2.2.2.2.2.1, u8b_wf h.2.2.2.2.2.2.2.1, u8b_wf h.2.2.2.2.2.2.2.2⟩
theorem a6_wf {M : Nat} {x : TMac} (h : wfS M (.pair (.int .u8) (.pair (.int .u8) (.pair (.int .u8) (.pair (.int .u8) (.pair (.int .u8) (.int .u8)))))) x) : A6 x := ⟨u8b_wf h.1, u8b_wf h.2.1, u8b_wf h.2.2.1, u8b_wf h.2.2.2.1, u8b_wf h.2.2.2.2.1, u8b_wf h.2.2.2.2.2⟩
theorem acts6_wf {M : Nat} {l : List TMac} (h : wfS M (.sl (.pair (.int .u8) (.pair (.int .u8) (.pair (.int .u8) (.pair (.int .u8) (.pair (.int .u8) (.int .u8))))))) l) : ∀ a ∈ l, A6 a := fun a ha => a6_wf (slm_wf h a ha)
end Go.Tr
