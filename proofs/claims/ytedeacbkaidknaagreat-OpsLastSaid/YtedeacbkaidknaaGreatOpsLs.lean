/- At the last hour nothing moves; a fresh lease is news. Conditions: none but the rows' bounds. -/
import Derived.Test.YtedeacbkaidknaaGreatOpsRa
namespace Go.Tr
open Go
set_option linter.unusedVariables false
set_option linter.unusedSimpArgs false
set_option maxRecDepth 100000
set_option maxHeartbeats 4000000
def endS (l : List THold) : TState := (1099511627776, 0, l, [], [], [], [])
theorem endS_R {s : TState} (h : StR s) : StR (endS s.2.2.1) := ⟨by simp [endS], by simp [endS], h.hr, h.hl, h.hm, RowR_nil, .nil, by simp [endS], by simp [endS], ⟨by simp [endS], by simp [endS], List.Pairwise.nil⟩, .nil⟩
theorem statusS_nil {c : TCfg} (hc : CfgR c) (h : THold) (now : Int) : statusS c (some h) [] now = 1 := by
  have hn := hc.need
  have hf : freshS c [] now = [] := by unfold freshS; simp
  unfold statusS
  rw [hf]
  have h1 : apartR zMac [] = false := rfl
  have h2 : foreignS h [] = false := rfl
  rw [h1]
  simp only [Bool.false_eq_true, if_false, List.length_nil, h2]
  rw [if_neg (by omega), if_neg (by omega)]
theorem endS_stat {c : TCfg} (hc : CfgR c) (l : List THold) (a : Int) : statO c (endS l) a ≠ 3 := by
  intro h
  have hk := stale_held h
  unfold statO getH at h
  rw [hk] at h
  have e : ofK (endS l).2.2.2.2.1 a = [] := rfl
  rw [e] at h
  simp only [if_true] at h
  rw [statusS_nil hc] at h
  omega
theorem endS_tick {c : TCfg} (hc : CfgR c) (l : List THold) : tick0 c (endS l) = endS l := by
  have e1 : nextO c (endS l) = endS l := by
    have e : addS 1099511627776 1 = 1099511627776 := by rw [add1 (by omega)]; omega
    show (addS 1099511627776 1, _, _) = _
    rw [e]; rfl
  have e2 : execO c (endS l) = endS l := rfl
  have e3 : ∀ m : List THold, m.foldl (raiseF c) (endS l) = endS l := by
    intro m
    induction m with
    | nil => rfl
    | cons x m ih =>
      rw [List.foldl_cons]
      have : raiseF c (endS l) x = endS l := by unfold raiseF; rw [if_neg (endS_stat hc l x.1)]
      rw [this, ih]
  unfold tick0
  rw [e1, e2]
  unfold raiseO
  rw [e3]
  rfl
theorem opsLast_law {x : TCfg} (hx : C9 x) {acts : List TMac} (ha : ∀ a ∈ acts, A6 a) {n : Int} (hn : u8B n) : terrierlaw18_OpsLast x acts n = some (true, ()) := by
  unfold terrierlaw18_OpsLast
  rw [oawake_eq]
  simp only [bnd_val, Bool.not_true, cnd_false]
  obtain ⟨c, h1, hc⟩ := config_R hx
  obtain ⟨s, s1, hs, _⟩ := some_R hc ha
  rw [h1]
  simp only [bnd_val]
  rw [s1]
  simp only [bnd_val, ltO_def]
  by_cases h0 : ((s.2.2.1.length : Nat) : Int) = 0
  · rw [beq0 h0, cnd_true]
  · rw [beq1 h0, cnd_false]
    have he := endS_R hs
    have a1 := tmod_u8 hn 40 (by decide)
    obtain ⟨m, hm⟩ := Int.eq_ofNat_of_zero_le a1.1
    have hl : terrierlaw18_OpsLast_l0 (n, 0, c, endS s.2.2.1, ()) = some (.inl (c, endS s.2.2.1, ())) := by
      unfold terrierlaw18_OpsLast_l0
      refine (loopM_steps (n := m) (fun k : Nat => (n, (k : Int), c, endS s.2.2.1, ())) (Nat.zero_le _) fun k _ hk => ?_).trans ?_
      · show terrierlaw18_OpsLast_b0 n (k : Int) c (endS s.2.2.1) = _
        unfold terrierlaw18_OpsLast_b0
        have hn0 : ¬ (40 : Int) = 0 := by decide
        simp only [ltO_def, chk_pos hn0]
        have hd := do_tick hc he ⟨rfl, rfl⟩
        rw [endS_tick hc] at hd
        rw [hm, w64 (n := (m : Int)) (by omega) (by omega), decide_eq_true (by omega), cnd_true, hd, bnd_val, w64 (by omega) (by omega)]
        simp only [chk_same, chk_nn]
        have f1 : (((endS s.2.2.1).2.2.1.length : Int) != (s.2.2.1.length : Int)) = false := by show ((s.2.2.1.length : Int) != (s.2.2.1.length : Int)) = false; simp
        have f2 : ((endS s.2.2.1).1 != 1099511627776) = false := rfl
        have f3 : ((((endS s.2.2.1).2.2.2.2.2.2).length : Int) != 0) = false := rfl
        have f4 : ((0 : Int) != 0) = false := rfl
        have f1' : (((endS s.2.2.1).2.2.1.length : Int) != ((endS s.2.2.1).2.2.1.length : Int)) = false := f1
        simp only [f1, f1', f2, f3, f4, Bool.or_self, cnd_false]
        rfl
      · refine loopM_last ?_
        show terrierlaw18_OpsLast_b0 n (m : Int) c (endS s.2.2.1) = _
        unfold terrierlaw18_OpsLast_b0
        have hn0 : ¬ (40 : Int) = 0 := by decide
        simp only [ltO_def, chk_pos hn0]
        rw [hm, w64 (n := (m : Int)) (by omega) (by omega), decide_eq_false (by omega), cnd_false]
    have hl' : terrierlaw18_OpsLast_l0 (n, 0, c, ((1099511627776, 0, s.2.2.1, [], [], [], []) : TState), ()) = _ := hl
    rw [hl', bnd_val, sumO_inl]
    have hpos : 0 < s.2.2.1.length := by omega
    simp only [ltO_def]
    rw [chk_pos (by show 0 ≤ 0 ∧ 0 < ((s.2.2.1.length : Nat) : Int); omega)]
    have hst := statO_eq hc he.see (s.2.2.1[0]).1
    have hi : (endS s.2.2.1).2.2.1[0]? = some s.2.2.1[0] := List.getElem?_eq_getElem hpos
    rw [hi]
    simp only
    rw [hst, bnd_val]
    have hv : statO c (endS s.2.2.1) (s.2.2.1[0]).1 = 1 := by
      unfold statO getH
      have hk : hasK kH (endS s.2.2.1).2.2.1 (s.2.2.1[0]).1 = true := List.any_eq_true.2 ⟨_, List.getElem_mem hpos, by simp [kH]⟩
      rw [hk]
      simp only [if_true]
      exact statusS_nil hc _ _
    rw [hv]
    rfl
end Go.Tr
