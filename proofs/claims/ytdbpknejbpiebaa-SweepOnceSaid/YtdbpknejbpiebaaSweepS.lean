/- Which prefixes are due, in which order: a stable sort of their places. The places of those that are due, sorted. Whom a tick asks: the places that are due, one behind the other. A tick's plan: a fold over the places that are due. Conditions: none but those that each theorem states. -/
import Derived.Test.YtdbpknejbpiebaaSweepD
import Derived.Test.YtdbpknejbpiebaaRightS
namespace Go.Tr
open Go
set_option linter.unusedVariables false
set_option linter.unusedSimpArgs false
set_option maxRecDepth 100000
set_option maxHeartbeats 4000000
def dueD (o : List TSweep) (k : Int) : Int := (o.getD k.toNat zSweep).2.1
def DueOk (o : List TSweep) : Prop := ∀ s ∈ o, 0 ≤ s.2.1 ∧ s.2.1 ≤ 2199023255552
def inD (o : List TSweep) (k : Int) : Prop := 0 ≤ k ∧ k < (o.length : Int)
theorem dueD_in {o : List TSweep} (h : DueOk o) {k : Int} (hk : inD o k) : 0 ≤ dueD o k ∧ dueD o k ≤ 2199023255552 := by
  unfold dueD
  have hk' : k.toNat < o.length := by have := hk.1; have := hk.2; omega
  rw [List.getD_eq_getElem?_getD, List.getElem?_eq_getElem hk']
  exact h _ (List.getElem_mem hk')
theorem order1_eq {o : List TSweep} (h : DueOk o) {x y : Int} (hx : inD o x) (hy : inD o y) : sweep_order_1 x y o = some (dueD o x - dueD o y, ()) := by
  unfold sweep_order_1
  have a1 := dueD_in h hx
  have a2 := dueD_in h hy
  rw [chk_pos (show 0 ≤ x ∧ x < (o.length : Int) from hx)]
  simp only [ltO_def, recD]
  rw [chk_pos (show 0 ≤ y ∧ y < (o.length : Int) from hy)]
  unfold dueD at a1 a2 ⊢
  simp only [List.getD_eq_getElem?_getD] at a1 a2 ⊢
  rw [w64 (n := _ - _) (by omega) (by omega)]
def lexD (o : List TSweep) (a b : Int) : Prop := dueD o a < dueD o b ∨ (dueD o a = dueD o b ∧ a < b)
theorem getD_app {l m : List Int} {k : Nat} (h : k = l.length) (x z : Int) : (l ++ x :: m).getD k z = x := by subst h; simp
theorem set_app {l m : List Int} {k : Nat} (h : k = l.length) (x y : Int) : (l ++ x :: m).set k y = l ++ y :: m := by subst h; simp
theorem ins_inner {o : List TSweep} (ho : DueOk o) (b i x : Int) (hx : inD o x) (post : List Int) : ∀ (n : Nat) (A B : List Int), A.length = n → n + B.length + post.length ≤ 1000 → (∀ a ∈ A, inD o a) → (∀ c ∈ B, dueD o x < dueD o c) →
    ∃ A' B', slices_insertionSortCmpFunc_int__l1 (0, b, i, (A.length : Int), A ++ x :: (B ++ post), o, ()) = some (.inl (0, b, i, A' ++ x :: (B' ++ post), o, ())) ∧ A' ++ B' = A ++ B ∧ (∀ c ∈ B', dueD o x < dueD o c) ∧
      (∀ a, A'.getLast? = some a → dueD o a ≤ dueD o x) := by
  intro n
  induction n with
  | zero =>
    intro A B hA hs hv hB
    have : A = [] := List.eq_nil_of_length_eq_zero hA
    subst this
    refine ⟨[], B, ?_, rfl, hB, by simp⟩
    unfold slices_insertionSortCmpFunc_int__l1
    refine loopM_last ?_
    unfold slices_insertionSortCmpFunc_int__b1
    have d : decide (((([] : List Int).length : Nat) : Int) > (0 : Int)) = false := by simp
    simp only [d, chk_same]
    simp [chk, ltO_def, bndG_false]
  | succ n ih =>
    intro A B hA hs hv hB
    rcases List.eq_nil_or_concat A with rfl | ⟨A', a, hAe⟩
    · simp at hA
    rw [List.concat_eq_append] at hAe
    subst hAe
    have hA' : A'.length = n := by simpa using hA
    have hva : inD o a := hv a (by simp)
    have hl : (A' ++ [a]).length = n + 1 := by simp [hA']
    have hlen : (A' ++ [a] ++ x :: (B ++ post)).length = n + 1 + 1 + B.length + post.length := by simp [hA']; omega
    have e1 : ((((A' ++ [a]).length : Nat) : Int)).toNat = (A' ++ [a]).length := by omega
    have w1 : IntKind.i64.wrap ((((A' ++ [a]).length : Nat) : Int) - 1) = (A'.length : Int) := by
      rw [w64 (by omega) (by omega), hl, hA']; omega
    have g1 : (A' ++ [a] ++ x :: (B ++ post)).getD (A' ++ [a]).length (0 : Int) = x := getD_app rfl _ _
    have g2 : (A' ++ [a] ++ x :: (B ++ post)).getD A'.length (0 : Int) = a := by rw [List.append_assoc]; exact getD_app rfl _ _
    have hbody : slices_insertionSortCmpFunc_int__b1 0 b i ((((A' ++ [a]).length : Nat) : Int)) (A' ++ [a] ++ x :: (B ++ post)) o =
        cnd (decide (dueD o x < dueD o a)) (some (.inl (0, b, i, (A'.length : Int), A' ++ x :: (a :: B ++ post), o, ()))) (some (.inr (.inl (0, b, i, A' ++ [a] ++ x :: (B ++ post), o, ())))) := by
      unfold slices_insertionSortCmpFunc_int__b1
      have d : decide (((((A' ++ [a]).length : Nat) : Int)) > (0 : Int)) = true := decide_eq_true (by omega)
      simp only [d, chk_same, ltO_def, w1, e1, g1, Int.toNat_natCast, g2, Bool.true_and]
      rw [chk_pos (by intro _; omega), chk_pos (by intro _; omega), chk_pos (by intro _; omega), chk_pos (by intro _; omega), bndG_true, order1_eq ho hx hva]
      simp only [bnd_val]
      have dd : decide (dueD o x - dueD o a < 0) = decide (dueD o x < dueD o a) := by
        by_cases h : dueD o x < dueD o a
        · rw [decide_eq_true h, decide_eq_true (by omega)]
        · rw [decide_eq_false h, decide_eq_false (by omega)]
      rw [dd]
      congr 1
      rw [chk_pos (by omega), chk_pos (by omega), chk_pos (by omega), chk_pos (by omega), chk_pos (by omega), chk_pos (by omega), chk_pos (by rw [List.length_set]; omega), chk_pos (by rw [List.length_set]; omega)]
      rw [set_app rfl, List.append_assoc, List.singleton_append, set_app rfl]
      simp
    cases hc : decide (dueD o x < dueD o a) with
    | false =>
      rw [hc, cnd_false] at hbody
      refine ⟨A' ++ [a], B, ?_, rfl, hB, ?_⟩
      · unfold slices_insertionSortCmpFunc_int__l1
        exact loopM_last hbody
      · intro a' ha'
        simp at ha'
        subst ha'
        have := of_decide_eq_false hc
        omega
    | true =>
      rw [hc, cnd_true] at hbody
      obtain ⟨A2, B2, k1, k2, k3, k4⟩ := ih A' (a :: B) hA' (by simp; omega) (fun c hc => hv c (by simp [hc])) (fun c hcm => by
        rcases List.mem_cons.1 hcm with rfl | hcm
        · exact of_decide_eq_true hc
        · exact hB c hcm)
      refine ⟨A2, B2, ?_, by rw [k2]; simp, k3, k4⟩
      unfold slices_insertionSortCmpFunc_int__l1 at k1 ⊢
      rw [loopM_next hbody]
      exact k1
end Go.Tr
namespace Go.Tr
open Go
set_option linter.unusedVariables false
set_option linter.unusedSimpArgs false
set_option maxRecDepth 100000
set_option maxHeartbeats 4000000
theorem lexD_le {o : List TSweep} {a b : Int} (h : lexD o a b) : dueD o a ≤ dueD o b := by
  rcases h with h | h
  · omega
  · omega
theorem ins_outer {o : List TSweep} (ho : DueOk o) : ∀ (rest S : List Int), S.length + rest.length ≤ 900 → (∀ a ∈ S, inD o a) → (∀ a ∈ rest, inD o a) → S.Pairwise (lexD o) → (∀ s ∈ S, ∀ r ∈ rest, s < r) → rest.Pairwise (· < ·) →
    ∃ D, slices_insertionSortCmpFunc_int__l0 (0, ((S.length + rest.length : Nat) : Int), (S.length : Int), S ++ rest, o, ()) = some (.inl (D, o, ())) ∧ D.Perm (S ++ rest) ∧ D.Pairwise (lexD o) := by
  intro rest
  induction rest with
  | nil =>
    intro S hs h1 h2 hp h3 h4
    refine ⟨S, ?_, by simp, hp⟩
    unfold slices_insertionSortCmpFunc_int__l0
    refine loopM_last ?_
    unfold slices_insertionSortCmpFunc_int__b0
    rw [decide_eq_false (by simp), cnd_false]
    simp
  | cons x rest ih =>
    intro S hs h1 h2 hp h3 h4
    have hx : inD o x := h2 x (by simp)
    simp only [List.length_cons] at hs
    obtain ⟨A', B', k1, k2, k3, k4⟩ := ins_inner ho ((S.length + (x :: rest).length : Nat) : Int) (S.length : Int) x hx rest S.length S [] rfl (by simp; omega) h1 (by simp)
    rw [List.append_nil] at k2
    rw [List.nil_append] at k1
    have hlen : (A' ++ x :: B').length = S.length + 1 := by rw [← k2]; simp; omega
    have hperm : (A' ++ x :: B').Perm (S ++ [x]) := by
      rw [← k2]
      exact List.perm_middle.trans (List.perm_append_singleton x (A' ++ B')).symm
    have hbody : slices_insertionSortCmpFunc_int__b0 0 ((S.length + (x :: rest).length : Nat) : Int) (S.length : Int) (S ++ x :: rest) o =
        some (.inl (0, (((A' ++ x :: B').length + rest.length : Nat) : Int), ((A' ++ x :: B').length : Int), (A' ++ x :: B') ++ rest, o, ())) := by
      unfold slices_insertionSortCmpFunc_int__b0
      rw [decide_eq_true (by simp; omega), cnd_true, k1]
      simp only [bnd_val, sumO_inl, ltO_def]
      rw [w64 (by omega) (by omega)]
      have e1 : (((A' ++ x :: B').length + rest.length : Nat) : Int) = ((S.length + (x :: rest).length : Nat) : Int) := by rw [hlen]; simp; omega
      have e2 : (((A' ++ x :: B').length : Nat) : Int) = (S.length : Int) + 1 := by rw [hlen]; rfl
      rw [e1, e2]
      simp
    rw [← k2] at hp
    obtain ⟨pA, pB, pAB⟩ := List.pairwise_append.1 hp
    have hAx : ∀ a ∈ A', lexD o a x := by
      intro a ha
      have hle : dueD o a ≤ dueD o x := by
        rcases List.eq_nil_or_concat A' with hn | ⟨A2, l, hl⟩
        · rw [hn] at ha; simp at ha
        · rw [List.concat_eq_append] at hl
          have hlast := k4 l (by rw [hl]; simp)
          rw [hl] at ha pA
          rcases List.mem_append.1 ha with ha | ha
          · have := lexD_le ((List.pairwise_append.1 pA).2.2 a ha l (by simp))
            omega
          · have : a = l := by simpa using ha
            subst this; exact hlast
      rcases Int.lt_or_eq_of_le hle with h | h
      · exact .inl h
      · exact .inr ⟨h, h3 a (by rw [← k2]; simp [ha]) x (by simp)⟩
    have hpn : (A' ++ x :: B').Pairwise (lexD o) := by
      refine List.pairwise_append.2 ⟨pA, List.pairwise_cons.2 ⟨fun c hc => .inl (k3 c hc), pB⟩, fun a ha c hc => ?_⟩
      rcases List.mem_cons.1 hc with rfl | hc
      · exact hAx a ha
      · exact pAB a ha c hc
    have hin : ∀ a ∈ A' ++ x :: B', inD o a := fun a ha => by
      have := hperm.mem_iff.1 ha
      rcases List.mem_append.1 this with h | h
      · exact h1 a h
      · have : a = x := by simpa using h
        subst this; exact hx
    obtain ⟨D, d1, d2, d3⟩ := ih (A' ++ x :: B') (by omega) hin (fun a ha => h2 a (by simp [ha])) hpn (fun s hs' r hr => by
      have := hperm.mem_iff.1 hs'
      rcases List.mem_append.1 this with h | h
      · exact h3 s h r (by simp [hr])
      · have : s = x := by simpa using h
        subst this; exact (List.pairwise_cons.1 h4).1 r hr) (List.pairwise_cons.1 h4).2
    refine ⟨D, ?_, d2.trans ?_, d3⟩
    · unfold slices_insertionSortCmpFunc_int__l0 at d1 ⊢
      rw [loopM_next hbody]
      exact d1
    · have := hperm.append_right rest
      simpa using this
theorem stable_eq {o : List TSweep} (ho : DueOk o) (l : List Int) (hl : l.length < 20) (hin : ∀ a ∈ l, inD o a) (hp : l.Pairwise (· < ·)) :
    ∃ D, slices_SortStableFunc___int_int_ l o = some (D, o, ()) ∧ D.Perm l ∧ D.Pairwise (lexD o) := by
  have hI : ∃ D, slices_insertionSortCmpFunc_int_ 0 (l.length : Int) l o = some (D, o, ()) ∧ D.Perm l ∧ D.Pairwise (lexD o) := by
    unfold slices_insertionSortCmpFunc_int_
    simp only [ltO_def]
    rw [w64 (by omega) (by omega)]
    cases l with
    | nil =>
      refine ⟨[], ?_, by simp, by simp⟩
      unfold slices_insertionSortCmpFunc_int__l0
      rw [loopM_last (y := .inl ([], o, ()))]
      · simp
      · unfold slices_insertionSortCmpFunc_int__b0
        rw [decide_eq_false (by simp), cnd_false]
    | cons x l =>
      obtain ⟨D, d1, d2, d3⟩ := ins_outer ho l [x] (by simp at hl ⊢; omega) (by simpa using hin x (by simp)) (fun a ha => hin a (by simp [ha])) (by simp) (fun s hs r hr => by
        have : s = x := by simpa using hs
        subst this; exact (List.pairwise_cons.1 hp).1 r hr) (List.pairwise_cons.1 hp).2
      refine ⟨D, ?_, d2, d3⟩
      have e1 : (([x].length + l.length : Nat) : Int) = ((x :: l).length : Int) := by simp; omega
      have e2 : (([x].length : Nat) : Int) = 0 + 1 := rfl
      rw [e1, e2, List.singleton_append] at d1
      rw [d1]
      simp
  obtain ⟨D, d1, d2, d3⟩ := hI
  refine ⟨D, ?_, d2, d3⟩
  unfold slices_SortStableFunc___int_int_ slices_stableCmpFunc_int_
  have b0 : slices_stableCmpFunc_int__l0 ((l.length : Int), 20, 0, 20, l, o, ()) = some (.inl ((l.length : Int), 20, 0, l, o, ())) := by
    unfold slices_stableCmpFunc_int__l0
    refine loopM_last ?_
    unfold slices_stableCmpFunc_int__b0
    rw [decide_eq_false (by show ¬ (20 : Int) ≤ (l.length : Int); omega), cnd_false]
  rw [b0]
  simp only [bnd_val, sumO_inl]
  rw [d1]
  simp only [bnd_val]
  have b1 : slices_stableCmpFunc_int__l1 ((l.length : Int), 20, D, o, ()) = some (.inl (D, o, ())) := by
    unfold slices_stableCmpFunc_int__l1
    refine loopM_last ?_
    unfold slices_stableCmpFunc_int__b1
    rw [decide_eq_false (by show ¬ (20 : Int) < (l.length : Int); omega), cnd_false]
  rw [b1]
  simp
end Go.Tr
namespace Go.Tr
open Go
set_option linter.unusedVariables false
set_option linter.unusedSimpArgs false
set_option maxRecDepth 100000
set_option maxHeartbeats 4000000
def dueL (o : List TSweep) (now : Int) (k : Nat) : List Int := ((List.range k).filter (fun i : Nat => decide (dueD o (i : Int) ≤ now))).map (fun i : Nat => (i : Int))
theorem dueL_succ (o : List TSweep) (now : Int) (k : Nat) : dueL o now (k + 1) = dueL o now k ++ (if dueD o (k : Int) ≤ now then [(k : Int)] else []) := by
  unfold dueL
  rw [List.range_succ, List.filter_append, List.map_append]
  congr 1
  by_cases h : dueD o (k : Int) ≤ now <;> simp [h]
theorem dueL_mem {o : List TSweep} {now : Int} {k : Nat} {a : Int} (h : a ∈ dueL o now k) : 0 ≤ a ∧ a < (k : Int) ∧ dueD o a ≤ now := by
  unfold dueL at h
  obtain ⟨i, hi, rfl⟩ := List.mem_map.1 h
  obtain ⟨h1, h2⟩ := List.mem_filter.1 hi
  have := List.mem_range.1 h1
  exact ⟨by omega, by omega, of_decide_eq_true h2⟩
theorem dueL_len (o : List TSweep) (now : Int) (k : Nat) : (dueL o now k).length ≤ k := by
  unfold dueL
  rw [List.length_map]
  exact Nat.le_trans (List.length_filter_le _ _) (by simp)
theorem dueL_inc (o : List TSweep) (now : Int) (k : Nat) : (dueL o now k).Pairwise (· < ·) := by
  induction k with
  | zero => simp [dueL]
  | succ k ih =>
    rw [dueL_succ]
    refine List.pairwise_append.2 ⟨ih, by split <;> simp, fun a ha b hb => ?_⟩
    have := dueL_mem ha
    split at hb
    · have : b = (k : Int) := by simpa using hb
      omega
    · simp at hb
theorem order_eq {o : List TSweep} (ho : DueOk o) (hl : o.length < 20) (now : Int) : ∃ D, sweep_order o now = some (D, ()) ∧ D.Perm (dueL o now o.length) ∧ D.Pairwise (lexD o) := by
  have hin : ∀ a ∈ dueL o now o.length, inD o a := fun a ha => ⟨(dueL_mem ha).1, (dueL_mem ha).2.1⟩
  obtain ⟨D, d1, d2, d3⟩ := stable_eq ho (dueL o now o.length) (by have := dueL_len o now o.length; omega) hin (dueL_inc _ _ _)
  refine ⟨D, ?_, d2, d3⟩
  unfold sweep_order
  have hloop : sweep_order_l0 (now, o, (o.length : Int), 0, [], o, ()) = some (.inl (o, dueL o now o.length, ())) := by
    unfold sweep_order_l0
    have h0 : ((now, o, (o.length : Int), 0, [], o, ()) : Int × (List TSweep) × Int × Int × (List Int) × (List TSweep) × Unit) = (fun k : Nat => (now, o, (o.length : Int), (k : Int), dueL o now k, o, ())) 0 := rfl
    rw [h0, loopM_steps (n := o.length) (fun k : Nat => (now, o, (o.length : Int), (k : Int), dueL o now k, o, ())) (Nat.zero_le _) fun k _ hk => ?_]
    · refine loopM_last ?_
      show sweep_order_b0 now o (o.length : Int) (o.length : Int) (dueL o now o.length) o = _
      unfold sweep_order_b0
      rw [decide_eq_false (by omega), cnd_false]
    · show sweep_order_b0 now o (o.length : Int) (k : Int) (dueL o now k) o = _
      unfold sweep_order_b0
      rw [decide_eq_true (by omega), cnd_true, chk_pos (by omega)]
      simp only [ltO_def, recD]
      have e : (o[(k : Int).toNat]?.getD zSweep).2.1 = dueD o (k : Int) := by unfold dueD; rw [List.getD_eq_getElem?_getD]
      rw [e, w64 (by omega) (by omega), dueL_succ]
      have hlen := dueL_len o now k
      by_cases h : dueD o (k : Int) ≤ now
      · rw [decide_eq_true h, cnd_true, if_pos h, chk_pos (by show _ * _ ≤ _; simp; omega)]
        rfl
      · rw [decide_eq_false h, cnd_false, if_neg h, List.append_nil]
        rfl
  rw [hloop]
  simp only [bnd_val, sumO_inl]
  rw [d1]
  simp
def addS (t n : Int) : Int := clampS (clampS t + max (-1099511627776) (min n 1099511627776))
theorem clampS_in (n : Int) : 0 ≤ clampS n ∧ clampS n ≤ 1099511627776 := by unfold clampS; split <;> (try split) <;> omega
theorem add_eq' (t n : Int) : clock_Add t n = some (addS t n, ()) := by
  unfold clock_Add addS
  rw [clamp_eq']
  simp only [bnd_val, ltO_def]
  have h := clampS_in t
  have e : (if (if (1099511627776 : Int) < n then (1099511627776 : Int) else n) > (-1099511627776 : Int) then if (1099511627776 : Int) < n then (1099511627776 : Int) else n else (-1099511627776 : Int)) = max (-1099511627776) (min n 1099511627776) := by
    by_cases h1 : (1099511627776 : Int) < n
    · simp only [h1, if_true]
      rw [if_pos (by omega)]; omega
    · simp only [h1, if_false]
      split <;> omega
  rw [e, w64 (by omega) (by omega), clamp_eq']
  simp
def askN (room : Int) (s : TSweep) (asks : List Int) : Nat := (min (szB s.1 - s.2.2) (room - (asks.length : Int))).toNat
def askL (s : TSweep) (m : Nat) : List Int := (List.range m).map fun i : Nat => s.1.1 + s.2.2 + (i : Int)
theorem plan_inner (room t22 t23 c0 c1 c2 c3 c4 c5 c6 c7 c8 : Int) (x : List Int) (k : Nat) : ∀ (m : Nat) (out : List TSweep) (asks : List Int) (s : TSweep), k < out.length → out.getD k zSweep = s → in32 s.1.1 → 0 ≤ s.2.2 → s.2.2 ≤ szB s.1 → m = askN room s asks →
    asks.length + m ≤ 1000000000000 →
    sweep_Plan_l1 (room, k, t22, t23, c0, c1, c2, c3, c4, c5, c6, c7, c8, out, asks, x, ()) = some (.inl (room, k, t22, t23, c0, c1, c2, c3, c4, c5, c6, c7, c8, out.set k (s.1, s.2.1, s.2.2 + (m : Int)), asks ++ askL s m, x, ())) := by
  intro m
  induction m with
  | zero =>
    intro out asks s hk hs h32 h0 h1 hm hb
    have e1 : out.set k (s.1, s.2.1, s.2.2 + ((0 : Nat) : Int)) = out := by
      have : (s.1, s.2.1, s.2.2 + ((0 : Nat) : Int)) = s := by simp
      rw [this, ← hs, List.getD_eq_getElem?_getD, List.getElem?_eq_getElem hk]
      simp
    rw [e1]
    unfold sweep_Plan_l1
    refine loopM_last ?_
    show sweep_Plan_b1 room k t22 t23 c0 c1 c2 c3 c4 c5 c6 c7 c8 out asks x = _
    unfold sweep_Plan_b1
    rw [hs, Size_eq (b := (s.1.1, s.1.2)) h32]
    simp only [chk_same, bndG_val, ltO_def]
    rw [chk_pos (fun _ => hk), chk_pos (fun _ => hk)]
    have hd : (decide ((asks.length : Int) < room) && decide (s.2.2 < szB (s.1.1, s.1.2))) = false := by
      unfold askN at hm
      rw [← Bool.not_eq_true, Bool.and_eq_true, decide_eq_true_eq, decide_eq_true_eq]
      intro h
      have : szB (s.1.1, s.1.2) = szB s.1 := rfl
      rw [this] at h
      omega
    rw [hd, cnd_false]
    simp [askL]
  | succ m ih =>
    intro out asks s hk hs h32 h0 h1 hm hb
    have hsz : szB (s.1.1, s.1.2) = szB s.1 := rfl
    have hm' : s.2.2 < szB s.1 ∧ (asks.length : Int) < room := by unfold askN at hm; omega
    have hle := szB_le h32
    have hbody : sweep_Plan_b1 room k t22 t23 c0 c1 c2 c3 c4 c5 c6 c7 c8 out asks x = some (.inl (room, k, t22, t23, c0, c1, c2, c3, c4, c5, c6, c7, c8, out.set k (s.1, s.2.1, s.2.2 + 1), asks ++ [s.1.1 + s.2.2], x, ())) := by
      unfold sweep_Plan_b1
      rw [hs, Size_eq (b := (s.1.1, s.1.2)) h32, At_eq (b := (s.1.1, s.1.2)) h32]
      simp only [chk_same, bndG_val, ltO_def]
      rw [chk_pos (fun _ => hk), chk_pos (fun _ => hk), hsz, decide_eq_true hm'.1, decide_eq_true hm'.2, if_pos ⟨h0, hm'.1⟩]
      simp only [Bool.and_self, cnd_true, bnd_val]
      simp only [chk_pos hk]
      have h320 : 0 ≤ s.1.1 := h32.1
      rw [chk_pos (by show _ * _ ≤ _; simp; omega), w64 (by omega) (by omega)]
    have hs' : (out.set k (s.1, s.2.1, s.2.2 + 1)).getD k zSweep = (s.1, s.2.1, s.2.2 + 1) := by
      rw [List.getD_eq_getElem?_getD, List.getElem?_set_self hk]; rfl
    have := ih (out.set k (s.1, s.2.1, s.2.2 + 1)) (asks ++ [s.1.1 + s.2.2]) _ (by simpa using hk) hs' h32 (by show 0 ≤ s.2.2 + 1; omega) (by show s.2.2 + 1 ≤ szB s.1; omega)
      (by unfold askN at hm ⊢; simp only [List.length_append, List.length_singleton]; omega) (by simp; omega)
    unfold sweep_Plan_l1 at this ⊢
    rw [loopM_next hbody, this, List.set_set]
    have e2 : s.2.2 + 1 + (m : Int) = s.2.2 + ((m + 1 : Nat) : Int) := by omega
    simp only [e2]
    have e3 : asks ++ [s.1.1 + s.2.2] ++ askL (s.1, s.2.1, s.2.2 + 1) m = asks ++ askL s (m + 1) := by
      unfold askL
      rw [List.append_assoc, List.range_succ_eq_map]
      simp only [List.map_cons, List.map_map, List.singleton_append]
      congr 2
      · simp
      · apply List.map_congr_left
        intro i _
        simp only [Function.comp]
        omega
    rw [e3]
end Go.Tr
namespace Go.Tr
open Go
set_option linter.unusedVariables false
set_option linter.unusedSimpArgs false
set_option maxRecDepth 100000
set_option maxHeartbeats 4000000
def nextS (every : Int) (s : TSweep) (m : Nat) : TSweep := if szB s.1 ≤ s.2.2 + (m : Int) then (s.1, addS s.2.1 every, 0) else (s.1, s.2.1, s.2.2 + (m : Int))
def stepS (room every : Int) (p : List TSweep × List Int) (k : Int) : List TSweep × List Int :=
  (p.1.set k.toNat (nextS every (p.1.getD k.toNat zSweep) (askN room (p.1.getD k.toNat zSweep) p.2)), p.2 ++ askL (p.1.getD k.toNat zSweep) (askN room (p.1.getD k.toNat zSweep) p.2))
def swI (s : TSweep) : Prop := in32 s.1.1 ∧ 0 ≤ s.2.2 ∧ s.2.2 ≤ szB s.1 ∧ szB s.1 ≤ 256
theorem askN_le {room : Int} {s : TSweep} {asks : List Int} (h : swI s) : askN room s asks ≤ 256 ∧ s.2.2 + (askN room s asks : Int) ≤ szB s.1 := by
  obtain ⟨h1, h2, h3, h4⟩ := h
  unfold askN
  omega
theorem nextS_I {every : Int} {s : TSweep} {m : Nat} (h : swI s) (hm : s.2.2 + (m : Int) ≤ szB s.1) : swI (nextS every s m) := by
  obtain ⟨h1, h2, h3, h4⟩ := h
  unfold nextS
  split
  · exact ⟨h1, by simp, by show (0 : Int) ≤ szB s.1; omega, h4⟩
  · exact ⟨h1, by show 0 ≤ s.2.2 + (m : Int); omega, hm, h4⟩
theorem set_all {α : Type} {p : α → Prop} {l : List α} {k : Nat} {x : α} (h : ∀ y ∈ l, p y) (hx : p x) : ∀ y ∈ l.set k x, p y := fun y hy => by
  rcases List.mem_or_eq_of_mem_set hy with h1 | h1
  · exact h y h1
  · rw [h1]; exact hx
theorem plan_body (room t22 i c0 c1 c2 c3 c4 c5 c6 c7 c8 : Int) (x asks : List Int) (out : List TSweep) (hi : 0 ≤ i) (hi2 : i < (x.length : Int)) (ht : t22 = (x.length : Int)) (hx : x.length ≤ 1000) (hk : inD out (x.getD i.toNat 0)) (hI : ∀ s ∈ out, swI s) (ha : asks.length ≤ 1000000) :
    sweep_Plan_b0 room t22 i asks c0 c1 c2 c3 c4 c5 c6 c7 c8 out x = some (.inl (room, t22, i + 1, (stepS room c3 (out, asks) (x.getD i.toNat 0)).2, c0, c1, c2, c3, c4, c5, c6, c7, c8, (stepS room c3 (out, asks) (x.getD i.toNat 0)).1, x, ())) := by
  unfold sweep_Plan_b0
  rw [decide_eq_true (by omega), cnd_true, chk_pos (by omega), chk_pos (by omega), chk_pos (show 0 ≤ x.getD i.toNat 0 ∧ x.getD i.toNat 0 < (out.length : Int) from hk)]
  generalize hke : x.getD i.toNat 0 = kk at hk ⊢
  have hkl : kk.toNat < out.length := by have := hk.1; have := hk.2; omega
  generalize hs : out.getD kk.toNat zSweep = s
  have hsm : s ∈ out := by
    rw [← hs, List.getD_eq_getElem?_getD, List.getElem?_eq_getElem hkl]; exact List.getElem_mem hkl
  have hsI := hI s hsm
  have hn := askN_le (room := room) (asks := asks) hsI
  rw [plan_inner room t22 i c0 c1 c2 c3 c4 c5 c6 c7 c8 x kk.toNat (askN room s asks) out asks s hkl hs hsI.1 hsI.2.1 hsI.2.2.1 rfl (by omega)]
  simp only [bnd_val, sumO_inl]
  have hl2 : kk.toNat < (out.set kk.toNat (s.1, s.2.1, s.2.2 + (askN room s asks : Int))).length := by simpa using hkl
  have hg : (out.set kk.toNat (s.1, s.2.1, s.2.2 + (askN room s asks : Int))).getD kk.toNat zSweep = (s.1, s.2.1, s.2.2 + (askN room s asks : Int)) := by
    rw [List.getD_eq_getElem?_getD, List.getElem?_set_self hkl]; rfl
  simp only [chk_pos hl2, hg]
  rw [Size_eq (b := (s.1.1, s.1.2)) hsI.1]
  have hsz : szB (s.1.1, s.1.2) = szB s.1 := rfl
  simp only [bnd_val, hsz]
  unfold stepS nextS
  simp only [hs]
  by_cases hc : szB s.1 ≤ s.2.2 + (askN room s asks : Int)
  · rw [decide_eq_true hc, cnd_true, add_eq']
    simp only [bnd_val, ltO_def]
    rw [if_pos hc, chk_pos (by simpa using hkl), w64 (by omega) (by omega)]
    have hg2 : (out.set kk.toNat ((s.1.1, s.1.2), s.2.1, (0 : Int))).getD kk.toNat zSweep = (s.1, s.2.1, 0) := by
      rw [List.getD_eq_getElem?_getD, List.getElem?_set_self hkl]; rfl
    simp only [List.set_set, hg2]
  · rw [decide_eq_false hc, cnd_false, if_neg hc]
    simp only [ltO_def]
    rw [w64 (by omega) (by omega)]
theorem step_len (room every : Int) (p : List TSweep × List Int) (k : Int) : (stepS room every p k).1.length = p.1.length := by simp [stepS]
theorem step_I {room every : Int} {p : List TSweep × List Int} {k : Int} (h : ∀ s ∈ p.1, swI s) (hk : inD p.1 k) : (∀ s ∈ (stepS room every p k).1, swI s) ∧ (stepS room every p k).2.length ≤ p.2.length + 256 := by
  have hkl : k.toNat < p.1.length := by have := hk.1; have := hk.2; omega
  have hsm : p.1.getD k.toNat zSweep ∈ p.1 := by
    rw [List.getD_eq_getElem?_getD, List.getElem?_eq_getElem hkl]; exact List.getElem_mem hkl
  have hn := askN_le (room := room) (asks := p.2) (h _ hsm)
  refine ⟨set_all h (nextS_I (h _ hsm) hn.2), ?_⟩
  simp only [stepS, askL, List.length_append, List.length_map, List.length_range]
  omega
theorem plan_loop (room c0 c1 c2 c3 c4 c5 c6 c7 c8 : Int) : ∀ (rest done : List Int) (out : List TSweep) (asks : List Int), done.length + rest.length ≤ 1000 → (∀ k ∈ rest, inD out k) → (∀ s ∈ out, swI s) → asks.length + 256 * rest.length ≤ 1000000 →
    sweep_Plan_l0 (room, ((done.length + rest.length : Nat) : Int), (done.length : Int), asks, c0, c1, c2, c3, c4, c5, c6, c7, c8, out, done ++ rest, ()) =
      some (.inl ((rest.foldl (stepS room c3) (out, asks)).1, (rest.foldl (stepS room c3) (out, asks)).2, ())) := by
  intro rest
  induction rest with
  | nil =>
    intro done out asks h1 h2 h3 h4
    unfold sweep_Plan_l0
    refine loopM_last ?_
    unfold sweep_Plan_b0
    rw [decide_eq_false (by simp), cnd_false]
    rfl
  | cons k rest ih =>
    intro done out asks h1 h2 h3 h4
    have hg : (done ++ k :: rest).getD ((done.length : Int)).toNat 0 = k := by rw [Int.toNat_natCast]; exact getD_app rfl _ _
    have hb := plan_body room ((done.length + (k :: rest).length : Nat) : Int) (done.length : Int) c0 c1 c2 c3 c4 c5 c6 c7 c8 (done ++ k :: rest) asks out (by omega) (by simp; omega) (by simp) (by simp at h1 ⊢; omega)
      (by rw [hg]; exact h2 k (by simp)) h3 (by omega)
    rw [hg] at hb
    have hst := step_I (room := room) (every := c3) (p := (out, asks)) h3 (h2 k (by simp))
    have := ih (done ++ [k]) (stepS room c3 (out, asks) k).1 (stepS room c3 (out, asks) k).2 (by simp at h1 ⊢; omega) (fun j hj => by
      have := h2 j (by simp [hj])
      unfold inD at this ⊢
      rw [step_len]; exact this) hst.1 (by have := hst.2; simp at h4 this ⊢; omega)
    unfold sweep_Plan_l0 at this ⊢
    rw [loopM_next hb]
    have e1 : (((done ++ [k]).length + rest.length : Nat) : Int) = ((done.length + (k :: rest).length : Nat) : Int) := by simp; omega
    have e2 : (((done ++ [k]).length : Nat) : Int) = (done.length : Int) + 1 := by simp
    have e3 : done ++ [k] ++ rest = done ++ k :: rest := by simp
    rw [e1, e2, e3] at this
    rw [this]
    rfl
theorem Plan_eq {o : List TSweep} (ho : DueOk o) (hI : ∀ s ∈ o, swI s) (hl : o.length < 20) (c : TCfg) (now room : Int) :
    ∃ D : List Int, D.Perm (dueL o now o.length) ∧ D.Pairwise (lexD o) ∧ sweep_Plan c o now room = some ((D.foldl (stepS room c.2.2.2.1) (o, [])).2, (D.foldl (stepS room c.2.2.2.1) (o, [])).1, ()) := by
  obtain ⟨D, d1, d2, d3⟩ := order_eq ho hl now
  refine ⟨D, d2, d3, ?_⟩
  unfold sweep_Plan slices_Clone_Sweep clone
  rw [chk_pos (by omega)]
  simp only [bnd_val]
  rw [d1]
  simp only [bnd_val]
  have hDl : D.length ≤ o.length := by rw [d2.length_eq]; exact dueL_len _ _ _
  have := plan_loop room c.1 c.2.1 c.2.2.1 c.2.2.2.1 c.2.2.2.2.1 c.2.2.2.2.2.1 c.2.2.2.2.2.2.1 c.2.2.2.2.2.2.2.1 c.2.2.2.2.2.2.2.2 D [] o [] (by simp; omega) (fun k hk => by
    have := dueL_mem (d2.mem_iff.1 hk)
    exact ⟨this.1, this.2.1⟩) hI (by simp; omega)
  simp only [List.nil_append, List.length_nil, Nat.zero_add] at this
  have e0 : ((0 : Nat) : Int) = 0 := rfl
  rw [e0] at this
  rw [this]
  simp
end Go.Tr
