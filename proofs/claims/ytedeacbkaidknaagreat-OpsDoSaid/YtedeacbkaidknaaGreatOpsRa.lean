/- What holds behind each event: how many packets, how long the rows, that states are right. Conditions: none but the rows' bounds. -/
import Derived.Test.YtedeacbkaidknaaGreatOpsW
namespace Go.Tr
open Go
set_option linter.unusedVariables false
set_option linter.unusedSimpArgs false
set_option maxRecDepth 100000
set_option maxHeartbeats 4000000
theorem right_st {s : TState} (h : StR s) : terrierlaw18_Right s = some (true, ()) := by
  have e := h.rightS
  have h1 := h.hl
  have h2 := h.sw.len
  have h3 := h.kl
  have h4 := h.pr.le
  have h5 := h.cr.le
  unfold terrierlaw18_Right
  rw [held_eq (fun x hx => by
    have := h.hm x hx
    unfold mayS at this
    simp only [Bool.and_eq_true, decide_eq_true_eq] at this
    omega) (by omega), sweeps_eq (fun x hx => (h.sw.all x hx).1) (by omega), known_eq (by omega), probes_eq (fun p hp => (h.pr.ok p hp).1) (by omega), cases_eq (by omega)]
  unfold rightS at e
  simp only [Bool.and_eq_true, decide_eq_true_eq] at e
  obtain ⟨a1, a2, a3, a4, a5, a6, a7, a8, a9⟩ := e
  simp only [bnd_val, bndG_val, ltO_def, chk_same]
  rw [a5, a6, a7, a8, a9, decide_eq_true (show s.1 ≥ 0 from a1), decide_eq_true a2, decide_eq_true (show s.2.1 ≥ 0 from a3), decide_eq_true (show s.2.1 < 65536 by omega)]
  rfl
theorem ev_loop {Y : Type} {f : (Int × Int × TCfg × TState × List TEv × Unit) → Option ((Int × Int × TCfg × TState × List TEv × Unit) ⊕ Y)} {c : TCfg} (hc : CfgR c) {es : List TEv} (hes : ∀ e ∈ es, EvA e) {y : Y}
    (hb : ∀ (k : Nat) (hk : k < es.length) (s : TState), StR s → KnR s → f ((es.length : Int), (k : Int), c, s, es, ()) = some (.inl ((es.length : Int), ((k + 1 : Nat) : Int), c, (doO c s es[k]).1, es, ())))
    (hN : ∀ s, f ((es.length : Int), (es.length : Int), c, s, es, ()) = some (.inr y)) :
    loopM f ((es.length : Int), 0, c, ((0, 0, [], [], [], [], []) : TState), es, ()) = some y := by
  suffices H : ∀ (m k : Nat) (s : TState), k + m = es.length → StR s → KnR s → loopM f ((es.length : Int), (k : Int), c, s, es, ()) = some y from H es.length 0 zSt (by omega) zSt_R (by intro k hk; simp [zSt] at hk)
  intro m
  induction m with
  | zero =>
    intro k s hk hs hn
    have : k = es.length := by omega
    subst this
    exact loopM_last (hN s)
  | succ m ih =>
    intro k s hk hs hn
    have hkl : k < es.length := by omega
    have he := hes _ (List.getElem_mem hkl)
    have h2 := ih (k + 1) (doO c s es[k]).1 (by omega) (doO_R hc hs he.toEvR) (doO_K hs hn he)
    rw [loopM_next (s' := ((es.length : Int), ((k + 1 : Nat) : Int), c, (doO c s es[k]).1, es, ())) (hb k hkl s hs hn)]
    exact h2
end Go.Tr
