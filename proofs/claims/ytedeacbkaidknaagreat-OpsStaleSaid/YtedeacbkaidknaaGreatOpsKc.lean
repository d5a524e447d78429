/- Events of acts, configurations of choices. Ticks where nothing is swept; the document's examples; states behind acts. Bounds of a law's arguments, as the laws of events want them. Conditions: none but those that each theorem states. -/
import Derived.Test.YtedeacbkaidknaaGreatOpsKb
import Derived.KernelRfl
import Derived.Test.YtedeacbkaidknaaGreatAddrW
namespace Go.Tr
open Go
set_option linter.unusedVariables false
set_option linter.unusedSimpArgs false
set_option maxRecDepth 100000
set_option maxHeartbeats 4000000
def u8B (n : Int) : Prop := 0 ≤ n ∧ n < 256
def C9 (x : TCfg) : Prop := u8B x.1 ∧ u8B x.2.1 ∧ u8B x.2.2.1 ∧ u8B x.2.2.2.1 ∧ u8B x.2.2.2.2.1 ∧ u8B x.2.2.2.2.2.1 ∧ u8B x.2.2.2.2.2.2.1 ∧ u8B x.2.2.2.2.2.2.2.1 ∧ u8B x.2.2.2.2.2.2.2.2
theorem tmod_u8 {n : Int} (h : u8B n) (k : Int) (hk : 0 < k) : 0 ≤ n.tmod k ∧ n.tmod k < k := by
  rw [Int.tmod_eq_emod_of_nonneg h.1]
  exact ⟨Int.emod_nonneg _ (by omega), Int.emod_lt_of_pos _ hk⟩
theorem config_R {x : TCfg} (h : C9 x) : ∃ c : TCfg, terrierlaw10_Choice_Config x = some (c, ()) ∧ CfgR c := by
  obtain ⟨h1, h2, h3, h4, h5, h6, h7, h8, h9⟩ := h
  have a1 := tmod_u8 h1 30 (by decide)
  have a2 := tmod_u8 h2 60 (by decide)
  have a3 := tmod_u8 h3 6 (by decide)
  have a4 := tmod_u8 h4 20 (by decide)
  have a5 := tmod_u8 h5 9 (by decide)
  have a6 := tmod_u8 h6 6 (by decide)
  have a7 := tmod_u8 h7 4 (by decide)
  have a8 := tmod_u8 h8 40 (by decide)
  have a9 := tmod_u8 h9 50 (by decide)
  unfold terrierlaw10_Choice_Config
  simp only [ltO_def]
  repeat rw [chk_pos (by decide)]
  refine ⟨_, rfl, ?_⟩
  generalize x.1.tmod 30 = y1 at a1 ⊢
  generalize x.2.1.tmod 60 = y2 at a2 ⊢
  generalize x.2.2.1.tmod 6 = y3 at a3 ⊢
  generalize x.2.2.2.1.tmod 20 = y4 at a4 ⊢
  generalize x.2.2.2.2.1.tmod 9 = y5 at a5 ⊢
  generalize x.2.2.2.2.2.1.tmod 6 = y6 at a6 ⊢
  generalize x.2.2.2.2.2.2.1.tmod 4 = y7 at a7 ⊢
  generalize x.2.2.2.2.2.2.2.1.tmod 40 = y8 at a8 ⊢
  generalize x.2.2.2.2.2.2.2.2.tmod 50 = y9 at a9 ⊢
  rw [w64 (n := y1) (by omega) (by omega), w64 (n := y2) (by omega) (by omega), w64 (n := y3) (by omega) (by omega), w64 (n := y4) (by omega) (by omega), w64 (n := y5) (by omega) (by omega), w64 (n := y6) (by omega) (by omega), w64 (n := y7) (by omega) (by omega), w64 (n := y8) (by omega) (by omega), w64 (n := y9) (by omega) (by omega),
    w64 (n := 1 + y1) (by omega) (by omega), w64 (n := 1 + y3) (by omega) (by omega), w64 (n := 1 + y4) (by omega) (by omega), w64 (n := 1 + y5) (by omega) (by omega), w64 (n := 1 + y6) (by omega) (by omega), w64 (n := 1 + y8) (by omega) (by omega), w64 (n := 1 + y1 + y2) (by omega) (by omega)]
  constructor <;> simp only <;> omega
end Go.Tr
namespace Go.Tr
open Go
set_option linter.unusedVariables false
set_option linter.unusedSimpArgs false
set_option maxRecDepth 100000
set_option maxHeartbeats 4000000
structure Fr (s t : TState) : Prop where
  now : t.1 = s.1
  seq : t.2.1 = s.2.1
  sw : t.2.2.2.1 = s.2.2.2.1
  kn : t.2.2.2.2.1 = s.2.2.2.2.1
  pr : t.2.2.2.2.2.1 = s.2.2.2.2.2.1
theorem execF_Fr {c : TCfg} {s t : TState} (h : Fr s t) (k : TCase) : Fr s (execF c t k) := by
  unfold execF
  split
  · split
    · exact ⟨h.now, h.seq, h.sw, h.kn, h.pr⟩
    · exact ⟨h.now, h.seq, h.sw, h.kn, h.pr⟩
  · exact h
theorem execO_Fr {c : TCfg} {s : TState} : Fr s (execO c s) := fold_inv (P := fun t _ => Fr s t) _ (fun k hk a ha => execF_Fr ha _) s ⟨rfl, rfl, rfl, rfl, rfl⟩
theorem raiseF_Fr {c : TCfg} {s t : TState} (h : Fr s t) (k : THold) : Fr s (raiseF c t k) := by
  unfold raiseF
  split
  · split
    · exact ⟨h.now, h.seq, h.sw, h.kn, h.pr⟩
    · exact h
  · exact h
theorem raiseO_Fr {c : TCfg} {s : TState} : Fr s (raiseO c s) := fold_inv (P := fun t _ => Fr s t) _ (fun k hk a ha => raiseF_Fr ha _) s ⟨rfl, rfl, rfl, rfl, rfl⟩
def tick0 (c : TCfg) (s : TState) : TState := forgetO c (raiseO c (execO c (nextO c s)))
theorem tick0_fr {c : TCfg} {s : TState} : (tick0 c s).1 = addS s.1 1 ∧ (tick0 c s).2.1 = s.2.1 ∧ (tick0 c s).2.2.2.1 = s.2.2.2.1 ∧ (tick0 c s).2.2.2.2.2.1 = s.2.2.2.2.2.1 ∧ ∀ k ∈ (tick0 c s).2.2.2.2.1, k ∈ s.2.2.2.2.1 := by
  have h1 := execO_Fr (c := c) (s := nextO c s)
  have h2 := raiseO_Fr (c := c) (s := execO c (nextO c s))
  refine ⟨h2.now.trans h1.now, h2.seq.trans h1.seq, h2.sw.trans h1.sw, h2.pr.trans h1.pr, fun k hk => ?_⟩
  have hk' : k ∈ ((raiseO c (execO c (nextO c s))).2.2.2.2.1.filter (wantO c (raiseO c (execO c (nextO c s))))) := hk
  have := (List.mem_filter.1 hk').1
  rw [h2.kn, h1.kn] at this
  exact this
theorem tick0_R {c : TCfg} {s : TState} (h : StR s) : StR (tick0 c s) := forgetO_R (raiseO_R (execO_R (nextO_R h)).st)
def Bare (s : TState) : Prop := s.2.2.2.1 = [] ∧ s.2.2.2.2.2.1 = []
theorem plan_nil (c : TCfg) {s : TState} (h : s.2.2.2.1 = []) (room : Int) : planO c s room = ([], [], ()) := by
  obtain ⟨D, d1, _, d3, _⟩ := Plan_R_w (RowR_nil) c s.1 room
  have hD : D = [] := by
    have : dueL ([] : List TSweep) s.1 ([] : List TSweep).length = [] := rfl
    rw [this] at d1
    exact d1.eq_nil
  unfold planO
  rw [h, d3, hD]
  rfl
theorem tick_bare {c : TCfg} {s : TState} (h : Bare s) : tickO c s = (tick0 c s, []) ∧ Bare (tick0 c s) := by
  obtain ⟨_, _, f3, f4, _⟩ := tick0_fr (c := c) (s := s)
  have hb : Bare (tick0 c s) := ⟨f3.trans h.1, f4.trans h.2⟩
  refine ⟨?_, hb⟩
  show askO c (tick0 c s) = _
  unfold askO
  rw [hb.2]
  have hl : lateP c [] (tick0 c s).1 c.2.2.2.2.1 = ([], []) := rfl
  rw [hl, plan_nil c hb.1]
  have he : setW (setP (tick0 c s) []) [] = tick0 c s := by
    have h1 := hb.1
    have h2 := hb.2
    generalize tick0 c s = t at h1 h2 ⊢
    obtain ⟨a, b, d, e, f, g, i⟩ := t
    simp only at h1 h2
    subst h1; subst h2
    rfl
  simp only [List.foldl_nil, List.map_nil]
  rw [he]
def its (c : TCfg) : Nat → TState → TState
  | 0, s => s
  | n + 1, s => tick0 c (its c n s)
theorem its_R {c : TCfg} {s : TState} (h : StR s) (hb : Bare s) : ∀ n, StR (its c n s) ∧ Bare (its c n s)
  | 0 => ⟨h, hb⟩
  | n + 1 => ⟨tick0_R (its_R h hb n).1, (tick_bare (its_R h hb n).2).2⟩
theorem do_tick {c : TCfg} (hc : CfgR c) {s : TState} (h : StR s) (hb : Bare s) : ops_Do c s zEv = some (tick0 c s, 0, [], ()) := by
  rw [do_eq hc h ⟨by unfold in32; decide, by decide⟩]
  unfold doO
  rw [if_pos rfl, (tick_bare hb).1]
def zSt : TState := (0, 0, [], [], [], [], [])
theorem zSt_R : StR zSt := ⟨by decide, by decide, .nil, by decide, by simp [zSt], RowR_nil, .nil, by decide, by simp [zSt], ⟨by decide, by simp [zSt], List.Pairwise.nil⟩, .nil⟩
def cAw : TCfg := (2, 3, 1, 5, 2, 2, 0, 4, 4)
theorem cAw_R : CfgR cAw := by constructor <;> decide
def annB : List UInt8 := [97, 110, 110]
def hAw (a : Int) : TEv := (1, (a, annB, 0, 0, 0, 0, 0, 0), (0, 0), 0, zMac, 0)
def sAw (a : Int) : TEv := (5, (a, [], 0, 0, 0, 0, 0, 0), (0, 0), 1, zMac, 0)
theorem hAw_R (a : Int) : EvR (hAw a) := ⟨by show in32 0; unfold in32; decide, by show annB.length ≤ _; decide⟩
theorem sAw_R (a : Int) : EvR (sAw a) := ⟨by show in32 0; unfold in32; decide, by show ([] : List UInt8).length ≤ _; decide⟩
def s1Aw (a : Int) : TState := (0, 0, [(a, annB, 0, 0, 0, 0, 0, 0)], [], [], [], [])
def s2Aw (a : Int) : TState := (0, 0, [(a, annB, 0, 0, 0, 0, 0, 0)], [], [(a, [(1, zMac, 0)])], [], [])
theorem do1Aw (c : TCfg) (a : Int) : doO c zSt (hAw a) = (s1Aw a, 0, []) := by
  unfold doO elseO
  rw [if_neg (show ¬ (hAw a).1 = 0 from by show ¬ (1 : Int) = 0; decide), if_pos (show (hAw a).1 = 1 from rfl)]
  rfl
theorem do2Aw (c : TCfg) (a : Int) : doO c (s1Aw a) (sAw a) = (s2Aw a, 0, []) := by
  unfold doO elseO
  rw [if_neg (show ¬ (sAw a).1 = 0 from by show ¬ (5 : Int) = 0; decide), if_neg (show ¬ (sAw a).1 = 1 from by show ¬ (5 : Int) = 1; decide), if_neg (show ¬ (sAw a).1 = 2 from by show ¬ (5 : Int) = 2; decide), if_neg (show ¬ (sAw a).1 = 3 from by show ¬ (5 : Int) = 3; decide), if_neg (show ¬ (sAw a).1 = 4 from by show ¬ (5 : Int) = 4; decide), if_pos (show (sAw a).1 = 5 from rfl)]
  rfl
theorem s1Aw_R (a : Int) : StR (s1Aw a) := by
  have := doO_R cAw_R zSt_R (hAw_R a)
  rw [do1Aw] at this
  exact this
theorem s2Aw_R (a : Int) : StR (s2Aw a) := by
  have := doO_R cAw_R (s1Aw_R a) (sAw_R a)
  rw [do2Aw] at this
  exact this
theorem aw_end : (its cAw 4 (s2Aw 5)).1 = 4 ∧ (its cAw 4 (s2Aw 5)).2.2.2.2.2.2.length = 1 ∧ statO cAw (its cAw 4 (s2Aw 5)) 5 = 3 ∧ statO cAw (s2Aw 5) 5 = 2 := by
  refine ⟨?_, ?_, ?_, ?_⟩ <;> kernel_rfl
theorem oawake_eq : terrierlaw18_awake = some (true, ()) := by
  unfold terrierlaw18_awake
  have d1 := do_eq cAw_R zSt_R (hAw_R 5)
  rw [do1Aw] at d1
  have d2 := do_eq cAw_R (s1Aw_R 5) (sAw_R 5)
  rw [do2Aw] at d2
  have e1 : ops_Do ((2, 3, 1, 5, 2, 2, 0, 4, 4) : TCfg) ((0, 0, [], [], [], [], []) : TState) ((1, (5, [97, 110, 110], 0, 0, 0, 0, 0, 0), (0, 0), 0, zMac, 0) : TEv) = some (s1Aw 5, 0, [], ()) := d1
  have e2 : ops_Do ((2, 3, 1, 5, 2, 2, 0, 4, 4) : TCfg) (s1Aw 5) ((5, (5, [], 0, 0, 0, 0, 0, 0), (0, 0), 1, zMac, 0) : TEv) = some (s2Aw 5, 0, [], ()) := d2
  have e3 : ops_Status ((2, 3, 1, 5, 2, 2, 0, 4, 4) : TCfg) (s2Aw 5) 5 = some (statO cAw (s2Aw 5) 5, ()) := statO_eq cAw_R (s2Aw_R 5).see 5
  rw [e1]
  simp only [bnd_val]
  rw [e2]
  simp only [bnd_val]
  rw [e3, aw_end.2.2.2]
  simp only [bnd_val]
  have hb : Bare (s2Aw 5) := ⟨rfl, rfl⟩
  have hits := its_R (c := cAw) (s2Aw_R 5) hb
  have hl : terrierlaw18_awake_l0 (0, 0, 2, 0, ((2, 3, 1, 5, 2, 2, 0, 4, 4) : TCfg), s2Aw 5, ()) = some (.inl (0, 0, 2, ((2, 3, 1, 5, 2, 2, 0, 4, 4) : TCfg), its cAw 4 (s2Aw 5), ())) := by
    unfold terrierlaw18_awake_l0
    refine (loopM_steps (n := 4) (fun k : Nat => (0, 0, 2, (k : Int), ((2, 3, 1, 5, 2, 2, 0, 4, 4) : TCfg), its cAw k (s2Aw 5), ())) (Nat.zero_le _) fun k _ hk => ?_).trans ?_
    · show terrierlaw18_awake_b0 0 0 2 (k : Int) ((2, 3, 1, 5, 2, 2, 0, 4, 4) : TCfg) (its cAw k (s2Aw 5)) = _
      unfold terrierlaw18_awake_b0
      have e : ops_Do ((2, 3, 1, 5, 2, 2, 0, 4, 4) : TCfg) (its cAw k (s2Aw 5)) zEv = _ := do_tick cAw_R (hits k).1 (hits k).2
      rw [decide_eq_true (by omega), cnd_true, e, bnd_val]
      simp only [ltO_def]
      rw [w64 (by omega) (by omega)]
      rfl
    · exact loopM_last rfl
  rw [hl]
  simp only [bnd_val, sumO_inl, ltO_def, chk_same]
  have e4 : ops_Status ((2, 3, 1, 5, 2, 2, 0, 4, 4) : TCfg) (its cAw 4 (s2Aw 5)) 5 = some (statO cAw (its cAw 4 (s2Aw 5)) 5, ()) := statO_eq cAw_R (hits 4).1.see 5
  rw [e4, aw_end.1, aw_end.2.1, aw_end.2.2.1, bndG_val]
  rfl
end Go.Tr
namespace Go.Tr
open Go
theorem u8b_wf {M : Nat} {a : Int} (h : wfS M (.int .u8) a) : u8B a := by
  have h1 : (0 : Int) ≤ a := h.1
  have h2 : a ≤ 255 := h.2
  exact ⟨h1, by omega⟩
theorem c9_wf {M : Nat} {x : TCfg} (h : wfS M (.pair (.int .u8) (.pair (.int .u8) (.pair (.int .u8) (.pair (.int .u8) (.pair (.int .u8) (.pair (.int .u8) (.pair (.int .u8) (.pair (.int .u8) (.int .u8))))))))) x) : C9 x := ⟨u8b_wf h.1, u8b_wf h.2.1, u8b_wf h.2.2.1, u8b_wf h.2.2.2.1, u8b_wf h.2.2.2.2.1, u8b_wf h.2.2.2.2.2.1, u8b_wf h.2.2.2.2.2.2.1, u8b_wf h.2.2.2.2.2.2.2.1, u8b_wf h.2.2.2.2.2.2.2.2⟩
end Go.Tr
