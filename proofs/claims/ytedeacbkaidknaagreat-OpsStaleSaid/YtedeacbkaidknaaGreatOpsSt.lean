/- Who is not seen any more is proposed to be given back. Conditions: none but the numbers' bounds. -/
import Derived.Test.YtedeacbkaidknaaGreatOpsFe
namespace Go.Tr
open Go
set_option linter.unusedVariables false
set_option linter.unusedSimpArgs false
set_option maxRecDepth 100000
set_option maxHeartbeats 4000000
def annH (a : Int) : THold := (a, annB, 0, 0, 0, 0, 0, 0)
def kS (a n : Int) (cs : List TCase) : TState := (n, 0, [annH a], [], [(a, [(1, zMac, 0)])], [], cs)
theorem kS_has (a n : Int) (cs : List TCase) : hasK kH (kS a n cs).2.2.1 a = true := by simp [hasK, kS, kH, annH]
theorem kS_of (a n : Int) (cs : List TCase) : ofK (kS a n cs).2.2.2.2.1 a = [(1, zMac, 0)] := by
  unfold ofK
  have h1 : hasK kK (kS a n cs).2.2.2.2.1 a = true := by simp [hasK, kS, kK]
  have h2 : lowB kK (kS a n cs).2.2.2.2.1 a = 0 := by simp [lowB, kS, kK]
  rw [h1, h2]
  rfl
theorem kS_get (a n : Int) (cs : List TCase) : getH (kS a n cs).2.2.1 a = some (annH a) := by
  unfold getH
  have h2 : lowB kH (kS a n cs).2.2.1 a = 0 := by simp [lowB, kS, kH, annH]
  rw [kS_has, h2]
  rfl
theorem within0 {n m : Int} (h : 0 ≤ n ∧ n ≤ 1099511627776) : withinS n 0 m = decide (n < m) := by
  unfold withinS sinceS
  rw [clampS_self h.1 h.2, clampS_self (by decide) (by decide)]
  have : decide (0 ≤ n - 0) = true := decide_eq_true (by omega)
  rw [this, Bool.true_and, show n - 0 = n from by omega]
theorem kS_stat {c : TCfg} (hc : CfgR c) (a : Int) {n : Int} (hn : 0 ≤ n ∧ n ≤ 1099511627776) (cs : List TCase) : statO c (kS a n cs) a = 3 ↔ c.2.1 ≤ n := by
  have ho := hc.old
  have hne := hc.need
  unfold statO
  rw [kS_get, kS_of]
  have hnow : (kS a n cs).1 = n := rfl
  rw [hnow]
  have hf : freshS c [(1, zMac, 0)] n = if n < c.1 then [(1, zMac, 0)] else [] := by
    unfold freshS
    have e : ([(1, zMac, 0)] : List TSight).length - (c.2.2.1.toNat + 1) = 0 := by simp
    rw [e, List.drop_zero, List.filter_cons]
    have e2 : withinS n ((1, zMac, 0) : TSight).2.2 c.1 = decide (n < c.1) := within0 hn
    rw [e2]
    simp
  unfold statusS
  rw [hf]
  by_cases h : n < c.1
  · rw [if_pos h]
    have h1 : apartR zMac [((1, zMac, 0) : TSight)] = false := rfl
    have h2 : foreignS (annH a) [((1, zMac, 0) : TSight)] = false := rfl
    have h3 : withinS n (lastT [((1, zMac, 0) : TSight)]) c.2.1 = decide (n < c.2.1) := within0 hn
    have h4 : decide (n < c.2.1) = true := decide_eq_true (by omega)
    simp only [h1, h2, h3, h4, Bool.false_eq_true, if_false]
    split
    · constructor <;> omega
    · simp; omega
  · rw [if_neg h]
    have h1 : apartR zMac [] = false := rfl
    have h2 : foreignS (annH a) [] = false := rfl
    have h3 : withinS n (lastT [((1, zMac, 0) : TSight)]) c.2.1 = decide (n < c.2.1) := within0 hn
    simp only [h1, h2, h3, Bool.false_eq_true, if_false, List.length_nil]
    rw [if_neg (by omega)]
    by_cases h5 : n < c.2.1
    · simp [h5]
    · simp [h5]; omega
theorem kS_next {c : TCfg} (a : Int) {n : Int} (hn : 0 ≤ n ∧ n < 1099511627776) (cs : List TCase) : nextO c (kS a n cs) = kS a (n + 1) (cs.map (tickC c (n + 1))) := by
  have e : addS n 1 = n + 1 := by rw [add1 (by omega)]; omega
  show (addS n 1, _, _, _, _, _, cs.map (tickC c (addS n 1))) = _
  rw [e]; rfl
theorem kS_forget (c : TCfg) (a n : Int) (cs : List TCase) : forgetO c (kS a n cs) = kS a n cs := by
  unfold forgetO
  have : (kS a n cs).2.2.2.2.1.filter (wantO c (kS a n cs)) = (kS a n cs).2.2.2.2.1 := by
    rw [List.filter_eq_self]
    intro k hk
    have : k = (a, [(1, zMac, 0)]) := by simpa [kS] using hk
    subst this
    unfold wantO
    rw [show hasK kH (kS a n cs).2.2.1 a = true from kS_has a n cs]
    rfl
  rw [this]; rfl
theorem kS_tick {c : TCfg} (hc : CfgR c) (a : Int) {n : Int} (hn : 0 ≤ n ∧ n < 1099511627776) : tick0 c (kS a n []) = kS a (n + 1) (if c.2.1 ≤ n + 1 then [(a, n + 1, 0, 0)] else []) := by
  unfold tick0
  rw [kS_next a hn]
  have e2 : execO c (kS a (n + 1) (([] : List TCase).map (tickC c (n + 1)))) = kS a (n + 1) [] := rfl
  rw [e2]
  have e3 : raiseO c (kS a (n + 1) []) = raiseF c (kS a (n + 1) []) (annH a) := rfl
  rw [e3]
  unfold raiseF
  have e4 : (annH a).1 = a := rfl
  rw [e4]
  have e5 : raiseC c (kS a (n + 1) []).2.2.2.2.2.2 a (kS a (n + 1) []).1 = (0, [(a, clampS (n + 1), 0, 0)]) := rfl
  have e6 : clampS (n + 1) = n + 1 := clampS_self (by omega) (by omega)
  rw [e5, e6]
  by_cases h : c.2.1 ≤ n + 1
  · rw [if_pos ((kS_stat hc a (by omega) []).2 h), if_pos rfl, if_pos h]
    exact kS_forget c a (n + 1) _
  · rw [if_neg (fun h' => h ((kS_stat hc a (by omega) []).1 h')), if_neg h]
    exact kS_forget c a (n + 1) _
theorem kS_its {c : TCfg} (hc : CfgR c) (a : Int) : ∀ n : Nat, (n : Int) < c.2.1 → its c n (s2Aw a) = kS a (n : Int) []
  | 0, _ => rfl
  | n + 1, h => by
    have ho := hc.old
    show tick0 c (its c n (s2Aw a)) = _
    rw [kS_its hc a n (by omega), kS_tick hc a (by omega), if_neg (by omega)]
    rfl
theorem kS_end {c : TCfg} (hc : CfgR c) (a : Int) : its c c.2.1.toNat (s2Aw a) = kS a c.2.1 [(a, c.2.1, 0, 0)] := by
  have ho := hc.old
  have hf := hc.fresh
  obtain ⟨m, hm⟩ : ∃ m : Nat, c.2.1.toNat = m + 1 := ⟨c.2.1.toNat - 1, by omega⟩
  rw [hm]
  show tick0 c (its c m (s2Aw a)) = _
  rw [kS_its hc a m (by omega), kS_tick hc a (by omega), if_pos (by omega)]
  have : (m : Int) + 1 = c.2.1 := by omega
  rw [this]
theorem raiseO_hold {c : TCfg} {s : TState} : (raiseO c s).2.2.1 = s.2.2.1 := fold_inv (P := fun (t : TState) _ => t.2.2.1 = s.2.2.1) _ (fun k hk t ht => by
  unfold raiseF
  split
  · split
    · exact ht
    · exact ht
  · exact ht) s rfl
theorem tick0_hold {c : TCfg} {s : TState} : (tick0 c s).2.2.1 = (execO c (nextO c s)).2.2.1 := raiseO_hold
def aEv (a w : Int) : TEv := (w, (a, [], 0, 0, 0, 0, 0, 0), (0, 0), 0, zMac, 0)
theorem aEv_R (a w : Int) : EvR (aEv a w) := ⟨by show in32 0; unfold in32; decide, by show ([] : List UInt8).length ≤ _; decide⟩
theorem kS_find (a n m : Int) : findC [(a, n, m, 0)] a = 0 := by
  unfold findC
  simp [idxS, openS]
theorem kS_yes (c : TCfg) (a n : Int) (hn : 0 ≤ n ∧ n ≤ 1099511627776) : doO c (kS a n [(a, n, 0, 0)]) (aEv a 6) = (kS a n [(a, n, 0, 1)], 0, []) := by
  unfold doO elseO
  have hw : (aEv a 6).1 = 6 := rfl
  rw [hw, if_neg (by decide), if_neg (by decide), if_neg (by decide), if_neg (by decide), if_neg (by decide), if_neg (by decide), if_pos rfl]
  have e : nextC (kS a n [(a, n, 0, 0)]).2.2.2.2.2.2 (aEv a 6).2.1.1 0 1 (kS a n [(a, n, 0, 0)]).1 = (0, [(a, n, 0, 1)]) := by
    show nextC [(a, n, 0, 0)] a 0 1 n = _
    unfold nextC
    rw [kS_find]
    rfl
  rw [e]
  rfl
theorem kS_no (c : TCfg) (a n : Int) (hn : 0 ≤ n ∧ n ≤ 1099511627776) : doO c (kS a n [(a, n, 0, 0)]) (aEv a 7) = (kS a n [(a, n, n, 2)], 0, []) := by
  unfold doO elseO
  have hw : (aEv a 7).1 = 7 := rfl
  rw [hw, if_neg (by decide), if_neg (by decide), if_neg (by decide), if_neg (by decide), if_neg (by decide), if_neg (by decide), if_neg (by decide), if_pos rfl]
  have e : nextC (kS a n [(a, n, 0, 0)]).2.2.2.2.2.2 (aEv a 7).2.1.1 0 2 (kS a n [(a, n, 0, 0)]).1 = (0, [(a, n, n, 2)]) := by
    show nextC [(a, n, 0, 0)] a 0 2 n = _
    unfold nextC
    rw [kS_find]
    show (0, [(a, n, clampS n, 2)]) = _
    rw [clampS_self hn.1 hn.2]
  rw [e]
  rfl
theorem kS_gone {c : TCfg} (hc : CfgR c) (a : Int) {n : Int} (hn : 0 ≤ n ∧ n < 1099511627776) (ho : c.2.1 ≤ n) : hasK kH (tick0 c (kS a n [(a, n, 0, 1)])).2.2.1 a = false := by
  rw [tick0_hold, kS_next a hn]
  have e : ([(a, n, 0, 1)] : List TCase).map (tickC c (n + 1)) = [(a, n, 0, 1)] := by
    show [tickC c (n + 1) (a, n, 0, 1)] = _
    unfold tickC
    rw [if_neg (by simp)]
  rw [e]
  have e2 : execO c (kS a (n + 1) [(a, n, 0, 1)]) = execF c (kS a (n + 1) [(a, n, 0, 1)]) (a, n, 0, 1) := rfl
  rw [e2]
  unfold execF
  rw [if_pos rfl]
  simp only
  rw [if_pos ((kS_stat hc a (by omega) _).2 (by omega))]
  have h2 : lowB kH (kS a (n + 1) [(a, n, 0, 1)]).2.2.1 a = 0 := by simp [lowB, kS, kH, annH]
  show hasK kH (takeH (kS a (n + 1) [(a, n, 0, 1)]).2.2.1 a) a = false
  unfold takeH
  rw [h2]
  rfl
theorem kS_stay {c : TCfg} (a : Int) {n : Int} (hn : 0 ≤ n ∧ n < 1099511627776) : hasK kH (tick0 c (kS a n [(a, n, n, 2)])).2.2.1 a = true := by
  rw [tick0_hold, kS_next a hn]
  have e : ([(a, n, n, 2)] : List TCase).map (tickC c (n + 1)) = [(a, n, n, 2)] := by
    show [tickC c (n + 1) (a, n, n, 2)] = _
    unfold tickC
    rw [if_neg (by simp)]
  rw [e]
  have e2 : execO c (kS a (n + 1) [(a, n, n, 2)]) = execF c (kS a (n + 1) [(a, n, n, 2)]) (a, n, n, 2) := rfl
  rw [e2]
  unfold execF
  rw [if_neg (by simp)]
  exact kS_has a (n + 1) _
theorem opsStale_law {x : TCfg} (hx : C9 x) {n : Int} (hn : u8B n) (no : Bool) : terrierlaw18_OpsStale x n no = some (true, ()) := by
  unfold terrierlaw18_OpsStale
  rw [oawake_eq]
  simp only [bnd_val, Bool.not_true, cnd_false]
  obtain ⟨c, h1, hc⟩ := config_R hx
  rw [h1]
  have hu := hn
  unfold u8B at hu
  simp only [bnd_val, ltO_def]
  rw [wu32 (n := n) (by omega) (by omega)]
  have d1 := do_eq hc zSt_R (hAw_R n)
  rw [do1Aw] at d1
  have d2 := do_eq hc (s1Aw_R n) (sAw_R n)
  rw [do2Aw] at d2
  have e1 : ops_Do c ((0, 0, [], [], [], [], []) : TState) ((1, (n, [97, 110, 110], 0, 0, 0, 0, 0, 0), (0, 0), 0, zMac, 0) : TEv) = some (s1Aw n, 0, [], ()) := d1
  have e2 : ops_Do c (s1Aw n) ((5, (n, [], 0, 0, 0, 0, 0, 0), (0, 0), 1, zMac, 0) : TEv) = some (s2Aw n, 0, [], ()) := d2
  rw [e1]
  simp only [bnd_val]
  rw [e2]
  simp only [bnd_val]
  have ho := hc.old
  have hf := hc.fresh
  obtain ⟨m, hm⟩ := Int.eq_ofNat_of_zero_le (show 0 ≤ c.2.1 by omega)
  have hmt : c.2.1.toNat = m := by omega
  have hits := its_R (c := c) (s2Aw_R n) ⟨rfl, rfl⟩
  have hend := kS_end hc n
  rw [hmt] at hend
  have hl : terrierlaw18_OpsStale_l0 (no, n, 0, 0, 0, c, s2Aw n, ()) = some (.inl (no, n, 0, 0, c, kS n c.2.1 [(n, c.2.1, 0, 0)], ())) := by
    unfold terrierlaw18_OpsStale_l0
    refine (loopM_steps (n := m) (fun k : Nat => (no, n, 0, 0, (k : Int), c, its c k (s2Aw n), ())) (Nat.zero_le _) fun k _ hk => ?_).trans ?_
    · show terrierlaw18_OpsStale_b0 no n 0 0 (k : Int) c (its c k (s2Aw n)) = _
      unfold terrierlaw18_OpsStale_b0
      have hz : (((its c k (s2Aw n)).2.2.2.2.2.2.length : Int) != 0) = false := by
        rw [kS_its hc n k (by omega)]; rfl
      simp only [ltO_def]
      rw [decide_eq_true (by omega), cnd_true, hz, cnd_false, do_tick hc (hits k).1 (hits k).2, bnd_val, w64 (by omega) (by omega)]
      rfl
    · rw [hend]
      refine loopM_last ?_
      show terrierlaw18_OpsStale_b0 no n 0 0 (m : Int) c (kS n c.2.1 [(n, c.2.1, 0, 0)]) = _
      unfold terrierlaw18_OpsStale_b0
      rw [decide_eq_false (by omega)]; rfl
  rw [hl]
  simp only [bnd_val, sumO_inl]
  have hs := (hits m).1
  rw [hend] at hs
  have hb : ∀ cs, Bare (kS n c.2.1 cs) := fun _ => ⟨rfl, rfl⟩
  cases no with
  | true =>
    simp only [cnd_true]
    have d3 := do_eq hc hs (aEv_R n 7)
    have r3 := doO_R hc hs (aEv_R n 7)
    rw [kS_no c n c.2.1 (by omega)] at d3 r3
    have e3 : ops_Do c (kS n c.2.1 [(n, c.2.1, 0, 0)]) ((7, (n, [], 0, 0, 0, 0, 0, 0), (0, 0), 0, zMac, 0) : TEv) = _ := d3
    rw [e3]
    simp only [bnd_val]
    rw [do_tick hc r3 (hb _)]
    simp only [bnd_val]
    have r4 := tick0_R (c := c) r3
    rw [getH_eq r4.hr r4.see.hl]
    simp only [bnd_val, chk_same, kS_stay n (show 0 ≤ c.2.1 ∧ c.2.1 < 1099511627776 by omega)]
    rfl
  | false =>
    simp only [cnd_false]
    have d3 := do_eq hc hs (aEv_R n 6)
    have r3 := doO_R hc hs (aEv_R n 6)
    rw [kS_yes c n c.2.1 (by omega)] at d3 r3
    have e3 : ops_Do c (kS n c.2.1 [(n, c.2.1, 0, 0)]) ((6, (n, [], 0, 0, 0, 0, 0, 0), (0, 0), 0, zMac, 0) : TEv) = _ := d3
    rw [e3]
    simp only [bnd_val]
    rw [do_tick hc r3 (hb _)]
    simp only [bnd_val]
    have r4 := tick0_R (c := c) r3
    rw [getH_eq r4.hr r4.see.hl]
    simp only [bnd_val, chk_same, kS_gone hc n (show 0 ≤ c.2.1 ∧ c.2.1 < 1099511627776 by omega) (Int.le_refl _)]
    rfl
end Go.Tr
