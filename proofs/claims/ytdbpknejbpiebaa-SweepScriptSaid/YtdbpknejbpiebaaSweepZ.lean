/- Rules for loops that look for the first one, and the like. Deed by deed: whom ticks ask, what is taken, what is put. Deed by deed: the law. Conditions: none but those that each theorem states. -/
import Derived.Test.YtdbpknejbpiebaaRightS
import Derived.Test.YtdbpknejbpiebaaSweep2D
import Derived.Test.YtdbpknejbpiebaaSweepY
namespace Go.Tr
open Go
set_option linter.unusedVariables false
set_option linter.unusedSimpArgs false

/-- The place of the first one: a loop of slices.IndexFunc. -/
theorem index_gen {α S : Type} {f : S → Option (S ⊕ (Unit ⊕ (Int × Unit)))} (St : Nat → S) (l : List α) (p : α → Bool)
    (hb : ∀ k (h : k < l.length), f (St k) = if p l[k] = true then some (.inr (.inr ((k : Int), ()))) else some (.inl (St (k + 1)))) (he : f (St l.length) = some (.inr (.inl ()))) : ∀ (m k : Nat), k + m = l.length →
    loopM f (St k) = some (idxR (idxS p (l.drop k) k))
  | 0, k, hk => by
    rw [show k = l.length from by omega, List.drop_length, loopM_last he]; rfl
  | m + 1, k, hk => by
    have hkl : k < l.length := by omega
    rw [List.drop_eq_getElem_cons hkl]
    have h1 := hb k hkl
    by_cases h : p l[k] = true
    · rw [if_pos h] at h1
      rw [loopM_last h1, idxS_pos h]
      unfold idxR; rw [if_neg (by omega)]
    · rw [if_neg h] at h1
      rw [loopM_next h1, index_gen St l p hb he m (k + 1) (by omega), idxS_next h]
theorem sumIdx (v : Int) : (sumO (idxR v) (fun _ => some ((-1 : Int), ())) fun r => some r) = some (v, ()) := by
  unfold idxR; split
  · rename_i h; subst h; rfl
  · rfl
theorem idxS_lt {α : Type} {p : α → Bool} : ∀ {l : List α} {k : Nat}, 0 ≤ idxS p l k → ∃ j, ∃ h : j < l.length, idxS p l k = ((k + j : Nat) : Int) ∧ p l[j] = true ∧ ∀ i (h : i < j), p (l[i]'(by omega)) = false
  | [], k, h => by simp [idxS] at h
  | x :: l, k, h => by
    by_cases hx : p x = true
    · exact ⟨0, by simp, by rw [idxS_pos hx]; simp, hx, fun i h => by omega⟩
    · rw [idxS_next hx] at h ⊢
      obtain ⟨j, hj, h1, h2, h3⟩ := idxS_lt h
      refine ⟨j + 1, by simp; omega, by rw [h1]; omega, by simpa using h2, fun i hi => ?_⟩
      cases i with
      | zero => simpa using hx
      | succ i => simpa using h3 i (by omega)
theorem idxS_low {α : Type} {p : α → Bool} : ∀ {l : List α} {k : Nat}, -1 ≤ idxS p l k
  | [], k => by simp [idxS]
  | x :: l, k => by
    by_cases hx : p x = true
    · rw [idxS_pos hx]; omega
    · rw [idxS_next hx]; exact idxS_low
theorem idxS_none {α : Type} {p : α → Bool} {l : List α} {k : Nat} (h : l.any p = false) : idxS p l k = -1 := by
  have h1 := idxS_low (p := p) (l := l) (k := k)
  have h2 : ¬ 0 ≤ idxS p l k := by rw [idxS_iff, h]; simp
  omega
theorem getD_at {α : Type} (l : List α) (k : Nat) (z : α) (h : k < l.length) : l.getD k z = l[k] := by
  rw [List.getD_eq_getElem?_getD, List.getElem?_eq_getElem h]; rfl

end Go.Tr
namespace Go.Tr
open Go
set_option linter.unusedVariables false
set_option linter.unusedSimpArgs false
set_option maxRecDepth 100000
set_option maxHeartbeats 4000000

/-! ### What is taken -/
def sameB (b : Int × Int) (s : TSweep) : Bool := s.1.1 == b.1 && s.1.2 == b.2
theorem take1_eq (s : TSweep) (b : Int × Int) : sweep_Take_1 s b = some (sameB b s, ()) := rfl
theorem indexT_eq (l : List TSweep) (b : Int × Int) (hn : l.length ≤ 140737488355328) : slices_IndexFunc_v1_w1 l b = some (idxS (sameB b) l 0, ()) := by
  unfold slices_IndexFunc_v1_w1 slices_IndexFunc_v1_w1_l0
  have h := index_gen (f := fun s : (List TSweep) × (Int × Int) × Int × Int × Unit => slices_IndexFunc_v1_w1_b0 s.1 s.2.1 s.2.2.1 s.2.2.2.1) (fun k : Nat => (l, b, (l.length : Int), (k : Int), ())) l (sameB b) (fun k hk => by
    show slices_IndexFunc_v1_w1_b0 l b (l.length : Int) (k : Int) = _
    unfold slices_IndexFunc_v1_w1_b0
    rw [decide_eq_true (by omega), cnd_true, chk_pos (by omega)]
    simp only [ltO_def, recD, getD_toNat, getD_at l k _ hk, take1_eq, bnd_val, cnd_ite]
    rw [w64 (by omega) (by omega)]; rfl) (by
    show slices_IndexFunc_v1_w1_b0 l b (l.length : Int) (l.length : Int) = _
    unfold slices_IndexFunc_v1_w1_b0
    rw [decide_eq_false (by omega)]; rfl) l.length 0 (by omega)
  rw [List.drop_zero] at h
  have h' : loopM (fun s : (List TSweep) × (Int × Int) × Int × Int × Unit => slices_IndexFunc_v1_w1_b0 s.1 s.2.1 s.2.2.1 s.2.2.2.1) (l, b, (l.length : Int), (0 : Int), ()) = _ := h
  rw [h', bnd_val]
  exact sumIdx _

theorem delete_eq {α : Type} (l : List α) (k : Nat) (h : k < l.length) (hn : l.length ≤ 140737488355328) : deleteF l (k : Int) (IntKind.i64.wrap ((k : Int) + 1)) = some (l.take k ++ l.drop (k + 1), ()) := by
  unfold deleteF
  rw [w64 (by omega) (by omega), chk_pos (by omega)]
  have e1 : ((k : Int)).toNat = k := by omega
  have e2 : ((k : Int) + 1).toNat = k + 1 := by omega
  rw [e1, e2]
theorem RowR.sub {l m : List TSweep} (h : RowR l) (hs : m.Sublist l) : RowR m := ⟨Nat.le_trans hs.length_le h.len, fun s hm => h.all s (hs.mem hm), h.ap.sublist hs⟩
theorem dropk_sub {α : Type} (l : List α) (k : Nat) : (l.take k ++ l.drop (k + 1)).Sublist l := by
  have h : (l.take k ++ l.drop (k + 1)).Sublist (l.take k ++ l.drop k) := List.Sublist.append (List.Sublist.refl _) (by
    rw [← List.drop_drop]; exact List.drop_sublist _ _)
  rwa [List.take_append_drop] at h
theorem Take_eq {ss : List TSweep} (h : RowR ss) (b : Int × Int) :
    (ss.any (sameB b) = false ∧ sweep_Take ss b = some (7, [], ())) ∨ (ss.any (sameB b) = true ∧ ∃ l, sweep_Take ss b = some (0, l, ()) ∧ RowR l ∧ l.length + 1 = ss.length) := by
  have hl := h.len
  unfold sweep_Take
  rw [indexT_eq ss b (by omega), bnd_val]
  cases ha : ss.any (sameB b) with
  | false =>
    left
    rw [idxS_none ha]
    exact ⟨rfl, rfl⟩
  | true =>
    right
    obtain ⟨k, hk, h1, h2, _⟩ := idxS_lt (idxS_iff (k := 0).2 ha)
    rw [h1, Nat.zero_add]
    refine ⟨rfl, _, ?_, h.sub (dropk_sub ss k), ?_⟩
    · rw [decide_eq_false (by omega), cnd_false]
      unfold slices_Clone_Sweep clone slices_Delete_Sweep
      rw [chk_pos (by omega), bnd_val, ltO_def, delete_eq ss k hk (by omega), bnd_val]
    · rw [List.length_append, List.length_take, List.length_drop]; omega

/-! ### The scan -/
def lastF (p : TSweep → Bool) (l : List TSweep) : Nat → Int
  | 0 => -1
  | k + 1 => if p (l.getD k zSweep) = true then (k : Int) else lastF p l k
theorem lastF_iff (p : TSweep → Bool) (l : List TSweep) : ∀ k, k ≤ l.length → (decide (lastF p l k ≥ 0)) = (l.take k).any p
  | 0, _ => by simp [lastF]
  | k + 1, h => by
    rw [List.take_succ_eq_append_getElem (by omega), List.any_append]
    unfold lastF
    rw [getD_at l k _ (by omega)]
    have ih := lastF_iff p l k (by omega)
    by_cases hp : p l[k] = true
    · rw [if_pos hp]; simp [hp]
    · rw [if_neg hp, ih]; simp [hp]
theorem scan_eq (now : Int) (t33 : List (Int × Int × Int)) (t34 t35 c0 c1 c2 c3 c4 c5 c6 c7 c8 a0 a1 a2 : Int) (b : Int × Int) (hb : in32 b.1) {ss : List TSweep} (h : RowR ss) :
    terrierlaw14_SweepScript_l1 (now, -1, false, t33, t34, t35, (ss.length : Int), 0, c0, c1, c2, c3, c4, c5, c6, c7, c8, ss, a0, a1, a2, b.1, b.2, ()) =
      some (.inl (now, lastF (sameB b) ss ss.length, ss.any (fun y => ovl y.1 b), t33, t34, t35, c0, c1, c2, c3, c4, c5, c6, c7, c8, ss, a0, a1, a2, b.1, b.2, ())) := by
  have hl := h.len
  unfold terrierlaw14_SweepScript_l1
  refine (loopM_steps (n := ss.length) (fun k : Nat => (now, lastF (sameB b) ss k, (ss.take k).any (fun y => ovl y.1 b), t33, t34, t35, (ss.length : Int), (k : Int), c0, c1, c2, c3, c4, c5, c6, c7, c8, ss, a0, a1, a2, b.1, b.2, ())) (Nat.zero_le _) fun k _ hk => ?_).trans ?_
  · show terrierlaw14_SweepScript_b1 now (lastF (sameB b) ss k) ((ss.take k).any (fun y => ovl y.1 b)) t33 t34 t35 (ss.length : Int) (k : Int) c0 c1 c2 c3 c4 c5 c6 c7 c8 ss a0 a1 a2 b.1 b.2 = _
    unfold terrierlaw14_SweepScript_b1
    have hg : ss.getD ((k : Int)).toNat zSweep = ss[k] := by rw [Int.toNat_natCast]; exact getD_at ss k _ hk
    rw [decide_eq_true (by omega), cnd_true, chk_pos (by omega), chk_pos (by omega), hg, Overlap_eq (x := (ss[k].1.1, ss[k].1.2)) (y := (b.1, b.2)) (h.all _ (List.getElem_mem hk)).1 hb]
    simp only [chk_same, bndG_val, ltO_def, chk_nn]
    rw [w64 (by omega) (by omega)]
    have e1 : ((ss.take (k + 1)).any fun y => ovl y.1 b) = (((ss.take k).any fun y => ovl y.1 b) || ovl ss[k].1 b) := by
      rw [List.take_succ_eq_append_getElem hk, List.any_append]; simp
    have e2 : lastF (sameB b) ss (k + 1) = if (ss[k].1.1 == b.1 && ss[k].1.2 == b.2) = true then (k : Int) else lastF (sameB b) ss k := by
      show (if sameB b (ss.getD k zSweep) = true then _ else _) = _
      rw [getD_at ss k _ hk]; rfl
    rw [e1, e2]
    cases (ss[k].1.1 == b.1 && ss[k].1.2 == b.2) <;> rfl
  · refine loopM_last ?_
    show terrierlaw14_SweepScript_b1 now (lastF (sameB b) ss ss.length) ((ss.take ss.length).any (fun y => ovl y.1 b)) t33 t34 t35 (ss.length : Int) (ss.length : Int) c0 c1 c2 c3 c4 c5 c6 c7 c8 ss a0 a1 a2 b.1 b.2 = _
    unfold terrierlaw14_SweepScript_b1
    rw [decide_eq_false (by omega), cnd_false, List.take_length]

theorem asks2_self (now : Int) (l : List Int) (hl : l.length ≤ 100000) (t33 : List (Int × Int × Int)) (t34 t35 c0 c1 c2 c3 c4 c5 c6 c7 c8 : Int) (m : List TSweep) :
    terrierlaw14_SweepScript_l2 (now, l, l, t33, t34, t35, (l.length : Int), 0, c0, c1, c2, c3, c4, c5, c6, c7, c8, m, ()) = some (.inl (now, t33, t34, t35, c0, c1, c2, c3, c4, c5, c6, c7, c8, m, ())) := by
  unfold terrierlaw14_SweepScript_l2
  refine (loopM_steps (n := l.length) (fun k : Nat => (now, l, l, t33, t34, t35, (l.length : Int), (k : Int), c0, c1, c2, c3, c4, c5, c6, c7, c8, m, ())) (Nat.zero_le _) fun k _ hk => ?_).trans ?_
  · show terrierlaw14_SweepScript_b2 now l l t33 t34 t35 (l.length : Int) (k : Int) c0 c1 c2 c3 c4 c5 c6 c7 c8 m = _
    unfold terrierlaw14_SweepScript_b2
    rw [decide_eq_true (by omega), cnd_true, chk_pos (by omega)]
    simp only [ltO_def]
    rw [chk_pos (by omega), w64 (by omega) (by omega)]
    simp
  · refine loopM_last ?_
    show terrierlaw14_SweepScript_b2 now l l t33 t34 t35 (l.length : Int) (l.length : Int) c0 c1 c2 c3 c4 c5 c6 c7 c8 m = _
    unfold terrierlaw14_SweepScript_b2
    rw [decide_eq_false (by omega), cnd_false]

end Go.Tr
namespace Go.Tr
open Go
set_option linter.unusedVariables false
set_option linter.unusedSimpArgs false
set_option maxRecDepth 100000
set_option maxHeartbeats 4000000

theorem lawRight_R {l : List TSweep} (h : RowR l) : terrierlaw14_right l = some (true, ()) := by
  have := h.len
  rw [lawRight_eq h.in32 (by omega), RowR_right h]
theorem sweepRight_R {l : List TSweep} (h : RowR l) : sweep_Right l = some (true, ()) := by
  have := h.len
  rw [sweeps_eq h.in32 (by omega), RowR_right h]
theorem actB_ok (a : Int × Int × Int) : BlkOK (actB a) := bB_ok (u32_in _) (by rw [IntKind.wrap_u8]; omega)

theorem script_body (acts : List (Int × Int × Int)) (hA : acts.length ≤ 1000) (now : Int) (i : Nat) (hi : i < acts.length) {ss : List TSweep} (h : RowR ss) (c : TCfg) :
    ∃ now' ss', terrierlaw14_SweepScript_b0 now acts (acts.length : Int) (i : Int) ss c.1 c.2.1 c.2.2.1 c.2.2.2.1 c.2.2.2.2.1 c.2.2.2.2.2.1 c.2.2.2.2.2.2.1 c.2.2.2.2.2.2.2.1 c.2.2.2.2.2.2.2.2 =
      some (.inl (now', acts, (acts.length : Int), ((i + 1 : Nat) : Int), ss', c.1, c.2.1, c.2.2.1, c.2.2.2.1, c.2.2.2.2.1, c.2.2.2.2.2.1, c.2.2.2.2.2.2.1, c.2.2.2.2.2.2.2.1, c.2.2.2.2.2.2.2.2, ())) ∧ RowR ss' := by
  have hl := h.len
  unfold terrierlaw14_SweepScript_b0
  rw [decide_eq_true (by omega), cnd_true, chk_pos (by omega)]
  simp only [ltO_def, recD, sact_eq, bnd_val]
  generalize (acts[(i : Int).toNat]?.getD (0, 0, 0)) = a
  rw [scan_eq now acts _ _ _ _ _ _ _ _ _ _ _ _ _ _ (actB a) (actB_in a) h]
  simp only [bnd_val, sumO_inl]
  rw [chk_pos (by decide)]
  have hat := lastF_iff (sameB (actB a)) ss ss.length (Nat.le_refl _)
  rw [List.take_length] at hat
  have hw : IntKind.i64.wrap ((i : Int) + 1) = ((i + 1 : Nat) : Int) := by rw [w64 (by omega) (by omega)]; rfl
  generalize a.1.tmod 4 = op
  by_cases h0 : op = 0
  · subst h0
    obtain ⟨D, d1, d2, d3, d4, _⟩ := Plan_R h c (IntKind.i64.wrap (now + 1)) c.2.2.2.2.1
    have hp := refPlan_eq h c (IntKind.i64.wrap (now + 1)) c.2.2.2.2.1 d1 d2
    have h2 := fold_256 (room := c.2.2.2.2.1) (every := c.2.2.2.1) D (ss, []) h (fun k hk => by
      have := dueL_mem (d1.mem_iff.1 hk)
      exact ⟨this.1, this.2.1⟩)
    have hDl : D.length ≤ ss.length := by rw [d1.length_eq]; exact dueL_len _ _ _
    generalize D.foldl (stepS c.2.2.2.2.1 c.2.2.2.1) (ss, []) = p at d3 d4 hp h2 ⊢
    have hpl := d4.len
    have d3' : sweep_Plan (c.1, c.2.1, c.2.2.1, c.2.2.2.1, c.2.2.2.2.1, c.2.2.2.2.2.1, c.2.2.2.2.2.2.1, c.2.2.2.2.2.2.2.1, c.2.2.2.2.2.2.2.2) ss (IntKind.i64.wrap (now + 1)) c.2.2.2.2.1 = _ := d3
    have hp' : terrierlaw14_plan (c.1, c.2.1, c.2.2.1, c.2.2.2.1, c.2.2.2.2.1, c.2.2.2.2.2.1, c.2.2.2.2.2.2.1, c.2.2.2.2.2.2.2.1, c.2.2.2.2.2.2.2.2) ss (IntKind.i64.wrap (now + 1)) c.2.2.2.2.1 = _ := hp
    refine ⟨IntKind.i64.wrap (now + 1), p.1, ?_, d4⟩
    rw [d3', hp']
    simp only [beq_self_eq_true, cnd_true, bnd_val]
    rw [same_self p.1 (by omega)]
    simp only [bnd_val, chk_same, chk_nn, bne_self_eq_false, Bool.not_true, Bool.or_self, cnd_false]
    rw [asks2_self _ p.2 (by simp at h2; omega)]
    simp only [bnd_val, sumO_inl, lawRight_R d4, sweepRight_R d4, chk_same, chk_nn, bndG_val, Bool.not_true, Bool.or_self, cnd_false, hw]
  · have e0 : (op == (0 : Int)) = false := by simpa using h0
    simp only [e0, cnd_false]
    by_cases h1 : op = 1
    · subst h1
      simp only [beq_self_eq_true, cnd_true]
      rcases Take_eq h (actB a) with ⟨t1, t2⟩ | ⟨t1, l, t2, t3, t4⟩
      · have t2' : sweep_Take ss ((actB a).1, (actB a).2) = _ := t2
        rw [t2']
        rw [t1] at hat
        refine ⟨now, ss, ?_, h⟩
        simp only [bnd_val, hat, lawRight_R h, sweepRight_R h, chk_same, chk_nn, bndG_val, hw]
        simp [chk]
      · have t2' : sweep_Take ss ((actB a).1, (actB a).2) = _ := t2
        rw [t2']
        rw [t1] at hat
        refine ⟨now, l, ?_, t3⟩
        have hw2 : IntKind.i64.wrap ((ss.length : Int) - 1) = (l.length : Int) := by rw [w64 (by omega) (by omega)]; omega
        simp only [bnd_val, hat, lawRight_R t3, sweepRight_R t3, chk_same, chk_nn, bndG_val, hw, hw2]
        simp [chk]
    · have e1 : (op == (1 : Int)) = false := by simpa using h1
      simp only [e1, cnd_false]
      have hok := actB_ok a
      have hr : rB (actB a) = true := hok.r
      have hz : szB (actB a) = Wd (actB a).2 := by unfold szB; rw [if_pos hr]
      have h24 := Wd_24 (rB_bo hr).1
      have hw2 : IntKind.i64.wrap ((ss.length : Int) + 1) = (ss.length : Int) + 1 := by rw [w64 (by omega) (by omega)]
      rcases Put_eq h (actB_in a) now with ⟨p1, p2⟩ | ⟨p1, l, p2, p3, p4, p5, p6, p7⟩
      · have p2' : sweep_Put ss ((actB a).1, (actB a).2) now = _ := p2
        rw [p2']
        refine ⟨now, ss, ?_, h⟩
        unfold putE at p1 ⊢
        rw [hr] at p1 ⊢
        simp only [Bool.true_eq_false, if_false] at p1 ⊢
        by_cases hs : szB (actB a) > 256
        · rw [if_pos hs, decide_eq_true (show (actB a).2 < 24 by rw [hz] at hs; omega)]
          simp only [bnd_val, cnd_true, lawRight_R h, sweepRight_R h, chk_same, chk_nn, bndG_val, hw]
          simp [chk]
        · rw [if_neg hs] at p1 ⊢
          rw [decide_eq_false (show ¬ (actB a).2 < 24 by rw [hz] at hs; omega)]
          cases ho : ss.any (fun y => ovl y.1 (actB a)) with
          | true =>
            simp only [bnd_val, cnd_true, cnd_false, if_true, lawRight_R h, sweepRight_R h, chk_same, chk_nn, bndG_val, hw]
            simp [chk]
          | false =>
            rw [ho] at p1
            simp only [Bool.false_eq_true, if_false] at p1 ⊢
            by_cases h16 : ss.length ≥ 16
            · rw [if_pos h16, decide_eq_true (show (ss.length : Int) ≥ 16 by omega)]
              simp only [bnd_val, cnd_true, cnd_false, lawRight_R h, sweepRight_R h, chk_same, chk_nn, bndG_val, hw]
              simp [chk]
            · rw [if_neg h16] at p1
              exact absurd rfl p1
      · have p2' : sweep_Put ss ((actB a).1, (actB a).2) now = _ := p2
        have hs : szB (actB a) ≤ 256 := p5.2.2.1
        have hll : l.length = ss.length + 1 := by rw [p3.length_eq]; simp
        have hll' : (l.length : Int) = (ss.length : Int) + 1 := by omega
        refine ⟨now, l, ?_, p4⟩
        rw [p2', p6, decide_eq_false (show ¬ (actB a).2 < 24 by rw [hz] at hs; omega), decide_eq_false (show ¬ (ss.length : Int) ≥ 16 by omega)]
        simp only [bnd_val, cnd_false, lawRight_R p4, sweepRight_R p4, chk_same, chk_nn, bndG_val, hw, hw2, hll']
        simp [chk]

theorem sweepScript_law {x : Int × Int × Int × Int × Int × Int × Int × Int × Int} {acts : List (Int × Int × Int)} : terrierlaw14_SweepScript x acts = some (true, ()) := by
  unfold terrierlaw14_SweepScript
  rw [sawake_eq]
  simp only [bnd_val, Bool.not_true, cnd_false]
  obtain ⟨c, hc⟩ := sconfig_eq x
  rw [hc]
  simp only [bnd_val]
  rw [chk_pos (by split <;> omega)]
  have hsl : (sliceA 0 (if (100 : Int) < (acts.length : Int) then (100 : Int) else (acts.length : Int)).toNat acts).length ≤ 100 := by
    unfold sliceA
    rw [List.length_take]; split <;> omega
  generalize sliceA 0 (if (100 : Int) < (acts.length : Int) then (100 : Int) else (acts.length : Int)).toNat acts = l at hsl
  suffices H : ∀ (m k : Nat) (now : Int) (ss : List TSweep), k + m = l.length → RowR ss →
      terrierlaw14_SweepScript_l0 (now, l, (l.length : Int), (k : Int), ss, c.1, c.2.1, c.2.2.1, c.2.2.2.1, c.2.2.2.2.1, c.2.2.2.2.2.1, c.2.2.2.2.2.2.1, c.2.2.2.2.2.2.2.1, c.2.2.2.2.2.2.2.2, ()) = some (.inl ()) by
    have := H l.length 0 0 [] (by omega) RowR_nil
    have e : ((0 : Nat) : Int) = 0 := rfl
    rw [e] at this
    rw [this]; rfl
  intro m
  induction m with
  | zero =>
    intro k now ss hk h
    unfold terrierlaw14_SweepScript_l0
    refine loopM_last ?_
    show terrierlaw14_SweepScript_b0 now l (l.length : Int) (k : Int) ss c.1 c.2.1 c.2.2.1 c.2.2.2.1 c.2.2.2.2.1 c.2.2.2.2.2.1 c.2.2.2.2.2.2.1 c.2.2.2.2.2.2.2.1 c.2.2.2.2.2.2.2.2 = _
    unfold terrierlaw14_SweepScript_b0
    rw [decide_eq_false (by omega), cnd_false]
  | succ m ih =>
    intro k now ss hk h
    obtain ⟨now', ss', h1, h2⟩ := script_body l (by omega) now k (by omega) h c
    have := ih (k + 1) now' ss' (by omega) h2
    unfold terrierlaw14_SweepScript_l0 at this ⊢
    rw [loopM_next (s' := (now', l, (l.length : Int), ((k + 1 : Nat) : Int), ss', c.1, c.2.1, c.2.2.1, c.2.2.2.1, c.2.2.2.2.1, c.2.2.2.2.2.1, c.2.2.2.2.2.2.1, c.2.2.2.2.2.2.2.1, c.2.2.2.2.2.2.2.2, ())) h1]
    exact this

end Go.Tr
