/- Two states are told the same just if they are. Conditions: none but the rows' bounds. -/
import Derived.Test.YtklmhllelgjglaaGreatOpsW
namespace Go.Tr
open Go
set_option linter.unusedVariables false
set_option linter.unusedSimpArgs false
set_option maxRecDepth 100000
set_option maxHeartbeats 4000000
theorem eq_loop {α : Type} [BEq α] {S Y : Type} {f : S → Option (S ⊕ Y)} (la lb : List α) (mk : Bool → Nat → S) (out : Bool → Y) (hl : la.length = lb.length)
    (hb : ∀ ok k (h : k < la.length) (h' : k < lb.length), f (mk ok k) = some (.inl (mk (ok && (la[k] == lb[k])) (k + 1)))) (he : ∀ ok, f (mk ok la.length) = some (.inr (out ok))) :
    ∀ (m k : Nat) (ok : Bool), k + m = la.length → loopM f (mk ok k) = some (out (ok && (la.drop k == lb.drop k)))
  | 0, k, ok, hk => by
    have : k = la.length := by omega
    subst this
    rw [loopM_last (he ok), List.drop_length, hl, List.drop_length]
    have : (([] : List α) == []) = true := rfl
    rw [this, Bool.and_true]
  | m + 1, k, ok, hk => by
    have h1 : k < la.length := by omega
    have h2 : k < lb.length := by omega
    rw [loopM_next (hb ok k h1 h2), eq_loop la lb mk out hl hb he m (k + 1) _ (by omega), List.drop_eq_getElem_cons h1, List.drop_eq_getElem_cons h2, List.cons_beq_cons, Bool.and_assoc]
theorem same0 (s t : TState) (hl : s.2.2.1.length = t.2.2.1.length) (hm : s.2.2.1.length ≤ 1000000) : terrierlaw18_Same_l0 (true, (s.2.2.1.length : Int), 0, s, t, ()) = some (.inl (s.2.2.1 == t.2.2.1, s, t, ())) := by
  unfold terrierlaw18_Same_l0
  have h := eq_loop (f := fun s : Bool × Int × Int × TState × TState × Unit => terrierlaw18_Same_b0 s.1 s.2.1 s.2.2.1 s.2.2.2.1 s.2.2.2.2.1) s.2.2.1 t.2.2.1 (fun ok k => (ok, (s.2.2.1.length : Int), (k : Int), s, t, ())) (fun ok => (.inl (ok, s, t, ()) : (Bool × TState × TState × Unit) ⊕ (Bool × Unit))) hl (fun ok k h h' => by
    show terrierlaw18_Same_b0 ok (s.2.2.1.length : Int) (k : Int) s t = _
    unfold terrierlaw18_Same_b0
    have hc1 : ok = true → 0 ≤ (k : Int) ∧ (k : Int) < (s.2.2.1.length : Int) := fun _ => by omega
    have hc2 : ok = true → 0 ≤ (k : Int) ∧ (k : Int) < (t.2.2.1.length : Int) := fun _ => by omega
    rw [decide_eq_true (by omega), cnd_true]
    simp only [ltO_def, chk_same, chk_pos hc1, chk_pos hc2, recD, getD_toNat, getD_hit s.2.2.1 k _ h, getD_hit t.2.2.1 k _ h']
    rw [w64 (by omega) (by omega)]; rfl) (fun ok => by
    show terrierlaw18_Same_b0 ok (s.2.2.1.length : Int) (s.2.2.1.length : Int) s t = _
    unfold terrierlaw18_Same_b0
    rw [decide_eq_false (by omega)]; rfl) s.2.2.1.length 0 true (by omega)
  rw [List.drop_zero, List.drop_zero, Bool.true_and] at h
  exact h
theorem same1 (ok : Bool) (s t : TState) (hl : s.2.2.2.1.length = t.2.2.2.1.length) (hm : s.2.2.2.1.length ≤ 1000000) : terrierlaw18_Same_l1 (ok, (s.2.2.2.1.length : Int), 0, s, t, ()) = some (.inl (ok && (s.2.2.2.1 == t.2.2.2.1), s, t, ())) := by
  unfold terrierlaw18_Same_l1
  have h := eq_loop (f := fun s : Bool × Int × Int × TState × TState × Unit => terrierlaw18_Same_b1 s.1 s.2.1 s.2.2.1 s.2.2.2.1 s.2.2.2.2.1) s.2.2.2.1 t.2.2.2.1 (fun ok k => (ok, (s.2.2.2.1.length : Int), (k : Int), s, t, ())) (fun ok => (.inl (ok, s, t, ()) : (Bool × TState × TState × Unit) ⊕ (Bool × Unit))) hl (fun ok k h h' => by
    show terrierlaw18_Same_b1 ok (s.2.2.2.1.length : Int) (k : Int) s t = _
    unfold terrierlaw18_Same_b1
    have hc1 : ok = true → 0 ≤ (k : Int) ∧ (k : Int) < (s.2.2.2.1.length : Int) := fun _ => by omega
    have hc2 : ok = true → 0 ≤ (k : Int) ∧ (k : Int) < (t.2.2.2.1.length : Int) := fun _ => by omega
    rw [decide_eq_true (by omega), cnd_true]
    simp only [ltO_def, chk_same, chk_pos hc1, chk_pos hc2, recD, getD_toNat, getD_hit s.2.2.2.1 k _ h, getD_hit t.2.2.2.1 k _ h']
    rw [w64 (by omega) (by omega)]; rfl) (fun ok => by
    show terrierlaw18_Same_b1 ok (s.2.2.2.1.length : Int) (s.2.2.2.1.length : Int) s t = _
    unfold terrierlaw18_Same_b1
    rw [decide_eq_false (by omega)]; rfl) s.2.2.2.1.length 0 ok (by omega)
  rw [List.drop_zero, List.drop_zero] at h
  exact h
theorem same2 (ok : Bool) (s t : TState) (hl : s.2.2.2.2.2.1.length = t.2.2.2.2.2.1.length) (hm : s.2.2.2.2.2.1.length ≤ 1000000) : terrierlaw18_Same_l2 (ok, (s.2.2.2.2.2.1.length : Int), 0, s, t, ()) = some (.inl (ok && (s.2.2.2.2.2.1 == t.2.2.2.2.2.1), s, t, ())) := by
  unfold terrierlaw18_Same_l2
  have h := eq_loop (f := fun s : Bool × Int × Int × TState × TState × Unit => terrierlaw18_Same_b2 s.1 s.2.1 s.2.2.1 s.2.2.2.1 s.2.2.2.2.1) s.2.2.2.2.2.1 t.2.2.2.2.2.1 (fun ok k => (ok, (s.2.2.2.2.2.1.length : Int), (k : Int), s, t, ())) (fun ok => (.inl (ok, s, t, ()) : (Bool × TState × TState × Unit) ⊕ (Bool × Unit))) hl (fun ok k h h' => by
    show terrierlaw18_Same_b2 ok (s.2.2.2.2.2.1.length : Int) (k : Int) s t = _
    unfold terrierlaw18_Same_b2
    have hc1 : ok = true → 0 ≤ (k : Int) ∧ (k : Int) < (s.2.2.2.2.2.1.length : Int) := fun _ => by omega
    have hc2 : ok = true → 0 ≤ (k : Int) ∧ (k : Int) < (t.2.2.2.2.2.1.length : Int) := fun _ => by omega
    rw [decide_eq_true (by omega), cnd_true]
    simp only [ltO_def, chk_same, chk_pos hc1, chk_pos hc2, recD, getD_toNat, getD_hit s.2.2.2.2.2.1 k _ h, getD_hit t.2.2.2.2.2.1 k _ h']
    rw [w64 (by omega) (by omega)]; rfl) (fun ok => by
    show terrierlaw18_Same_b2 ok (s.2.2.2.2.2.1.length : Int) (s.2.2.2.2.2.1.length : Int) s t = _
    unfold terrierlaw18_Same_b2
    rw [decide_eq_false (by omega)]; rfl) s.2.2.2.2.2.1.length 0 ok (by omega)
  rw [List.drop_zero, List.drop_zero] at h
  exact h
theorem same3 (ok : Bool) (s t : TState) (hl : s.2.2.2.2.2.2.length = t.2.2.2.2.2.2.length) (hm : s.2.2.2.2.2.2.length ≤ 1000000) : terrierlaw18_Same_l3 (ok, (s.2.2.2.2.2.2.length : Int), 0, s, t, ()) = some (.inl (ok && (s.2.2.2.2.2.2 == t.2.2.2.2.2.2), s, t, ())) := by
  unfold terrierlaw18_Same_l3
  have h := eq_loop (f := fun s : Bool × Int × Int × TState × TState × Unit => terrierlaw18_Same_b3 s.1 s.2.1 s.2.2.1 s.2.2.2.1 s.2.2.2.2.1) s.2.2.2.2.2.2 t.2.2.2.2.2.2 (fun ok k => (ok, (s.2.2.2.2.2.2.length : Int), (k : Int), s, t, ())) (fun ok => (.inl (ok, s, t, ()) : (Bool × TState × TState × Unit) ⊕ (Bool × Unit))) hl (fun ok k h h' => by
    show terrierlaw18_Same_b3 ok (s.2.2.2.2.2.2.length : Int) (k : Int) s t = _
    unfold terrierlaw18_Same_b3
    have hc1 : ok = true → 0 ≤ (k : Int) ∧ (k : Int) < (s.2.2.2.2.2.2.length : Int) := fun _ => by omega
    have hc2 : ok = true → 0 ≤ (k : Int) ∧ (k : Int) < (t.2.2.2.2.2.2.length : Int) := fun _ => by omega
    rw [decide_eq_true (by omega), cnd_true]
    simp only [ltO_def, chk_same, chk_pos hc1, chk_pos hc2, recD, getD_toNat, getD_hit s.2.2.2.2.2.2 k _ h, getD_hit t.2.2.2.2.2.2 k _ h']
    rw [w64 (by omega) (by omega)]; rfl) (fun ok => by
    show terrierlaw18_Same_b3 ok (s.2.2.2.2.2.2.length : Int) (s.2.2.2.2.2.2.length : Int) s t = _
    unfold terrierlaw18_Same_b3
    rw [decide_eq_false (by omega)]; rfl) s.2.2.2.2.2.2.length 0 ok (by omega)
  rw [List.drop_zero, List.drop_zero] at h
  exact h
theorem same5 (s t : TState) (t155 t156 : Int) (k : Nat) (hk : k < s.2.2.2.2.1.length) (hk' : k < t.2.2.2.2.1.length) (hs : (s.2.2.2.2.1[k]).2.length ≤ 1000000) : ∀ (m i : Nat) (ok : Bool), i + m = (s.2.2.2.2.1[k]).2.length → (ok = true → (s.2.2.2.2.1[k]).2.length = (t.2.2.2.2.1[k]).2.length) →
    terrierlaw18_Same_l5 (ok, (k : Int), (i : Int), t155, t156, s, t, ()) = some (.inl (ok && ((s.2.2.2.2.1[k]).2.drop i == (t.2.2.2.2.1[k]).2.drop i), t155, t156, s, t, ())) := by
  have hc : ∀ ok : Bool, ok = true → 0 ≤ (k : Int) ∧ (k : Int) < (s.2.2.2.2.1.length : Int) := fun _ _ => by omega
  have hc1 : 0 ≤ (k : Int) ∧ (k : Int) < (s.2.2.2.2.1.length : Int) := by omega
  have hc2 : 0 ≤ (k : Int) ∧ (k : Int) < (t.2.2.2.2.1.length : Int) := by omega
  have hcT : True → 0 ≤ (k : Int) ∧ (k : Int) < (s.2.2.2.2.1.length : Int) := fun _ => hc1
  have hfalse : ∀ i : Nat, terrierlaw18_Same_l5 (false, (k : Int), (i : Int), t155, t156, s, t, ()) = some (.inl (false, t155, t156, s, t, ())) := fun i => by
    unfold terrierlaw18_Same_l5
    refine loopM_last ?_
    show terrierlaw18_Same_b5 false (k : Int) (i : Int) t155 t156 s t = _
    unfold terrierlaw18_Same_b5
    simp only [ltO_def, chk_same, chk_pos (hc false), Bool.false_and, cnd_false]
  intro m
  induction m with
  | zero =>
    intro i ok hi hok
    cases ok with
    | false => rw [hfalse, Bool.false_and]
    | true =>
      have hl := hok rfl
      have hi' : i = (s.2.2.2.2.1[k]).2.length := by omega
      have e1 : (s.2.2.2.2.1[k]).2.drop i = [] := List.drop_of_length_le (by omega)
      have e2 : (t.2.2.2.2.1[k]).2.drop i = [] := List.drop_of_length_le (by omega)
      rw [e1, e2]
      unfold terrierlaw18_Same_l5
      refine loopM_last ?_
      show terrierlaw18_Same_b5 true (k : Int) (i : Int) t155 t156 s t = _
      unfold terrierlaw18_Same_b5
      simp only [ltO_def, chk_same, chk_pos (hc true), chk_pos hcT, recD, getD_toNat, getD_hit s.2.2.2.2.1 k _ hk, Bool.true_and]
      rw [decide_eq_false (by omega)]; rfl
  | succ m ih =>
    intro i ok hi hok
    cases ok with
    | false => rw [hfalse, Bool.false_and]
    | true =>
      have hl := hok rfl
      have h1 : i < (s.2.2.2.2.1[k]).2.length := by omega
      have h2 : i < (t.2.2.2.2.1[k]).2.length := by omega
      have hb : terrierlaw18_Same_b5 true (k : Int) (i : Int) t155 t156 s t = some (.inl ((s.2.2.2.2.1[k]).2[i] == (t.2.2.2.2.1[k]).2[i], (k : Int), ((i + 1 : Nat) : Int), t155, t156, s, t, ())) := by
        unfold terrierlaw18_Same_b5
        have hi1 : 0 ≤ (i : Int) ∧ (i : Int) < ((s.2.2.2.2.1[k]).2.length : Int) := by omega
        have hi2 : 0 ≤ (i : Int) ∧ (i : Int) < ((t.2.2.2.2.1[k]).2.length : Int) := by omega
        simp only [ltO_def, chk_same, chk_pos (hc true), chk_pos hcT, chk_pos hc1, chk_pos hc2, recD, getD_toNat, getD_hit s.2.2.2.2.1 k _ hk, getD_hit t.2.2.2.2.1 k _ hk', Bool.true_and, chk_pos hi1, chk_pos hi2, getD_hit (s.2.2.2.2.1[k]).2 i _ h1, getD_hit (t.2.2.2.2.1[k]).2 i _ h2]
        rw [decide_eq_true (by omega), cnd_true, w64 (by omega) (by omega)]; rfl
      have hi := ih (i + 1) ((s.2.2.2.2.1[k]).2[i] == (t.2.2.2.2.1[k]).2[i]) (by omega) (fun _ => hl)
      unfold terrierlaw18_Same_l5 at hi ⊢
      rw [loopM_next (s' := ((s.2.2.2.2.1[k]).2[i] == (t.2.2.2.2.1[k]).2[i], (k : Int), ((i + 1 : Nat) : Int), t155, t156, s, t, ())) hb, hi, List.drop_eq_getElem_cons h1, List.drop_eq_getElem_cons h2, List.cons_beq_cons, Bool.true_and]
theorem beq_len {α : Type} [BEq α] : ∀ {l m : List α}, (l == m) = true → l.length = m.length
  | [], [], _ => rfl
  | [], _ :: _, h => by simp at h
  | _ :: _, [], h => by simp at h
  | x :: l, y :: m, h => by
    rw [List.cons_beq_cons, Bool.and_eq_true] at h
    simp only [List.length_cons]
    rw [beq_len h.2]
theorem same4 (ok : Bool) (s t : TState) (hl : s.2.2.2.2.1.length = t.2.2.2.2.1.length) (hm : s.2.2.2.2.1.length ≤ 1000000) (hs : ∀ x ∈ s.2.2.2.2.1, x.2.length ≤ 1000000) : terrierlaw18_Same_l4 (ok, (s.2.2.2.2.1.length : Int), 0, s, t, ()) = some (.inl (ok && (s.2.2.2.2.1 == t.2.2.2.2.1), ())) := by
  unfold terrierlaw18_Same_l4
  have h := eq_loop (f := fun s : Bool × Int × Int × TState × TState × Unit => terrierlaw18_Same_b4 s.1 s.2.1 s.2.2.1 s.2.2.2.1 s.2.2.2.2.1) s.2.2.2.2.1 t.2.2.2.2.1 (fun ok k => (ok, (s.2.2.2.2.1.length : Int), (k : Int), s, t, ())) (fun ok => (.inl (ok, ()) : (Bool × Unit) ⊕ (Bool × Unit))) hl (fun ok k h h' => by
    show terrierlaw18_Same_b4 ok (s.2.2.2.2.1.length : Int) (k : Int) s t = _
    unfold terrierlaw18_Same_b4
    have hc1 : ∀ b : Bool, b = true → 0 ≤ (k : Int) ∧ (k : Int) < (s.2.2.2.2.1.length : Int) := fun _ _ => by omega
    have hc2 : ∀ b : Bool, b = true → 0 ≤ (k : Int) ∧ (k : Int) < (t.2.2.2.2.1.length : Int) := fun _ _ => by omega
    rw [decide_eq_true (by omega), cnd_true]
    simp only [ltO_def, chk_same, chk_pos (hc1 _), chk_pos (hc2 _), recD, getD_toNat, getD_hit s.2.2.2.2.1 k _ h, getD_hit t.2.2.2.2.1 k _ h']
    have h5 := same5 s t (s.2.2.2.2.1.length : Int) (k : Int) k h h' (hs _ (List.getElem_mem h)) (s.2.2.2.2.1[k]).2.length 0 ((ok && (s.2.2.2.2.1[k]).1 == (t.2.2.2.2.1[k]).1) && (((s.2.2.2.2.1[k]).2.length : Int) == ((t.2.2.2.2.1[k]).2.length : Int))) (by omega) (fun hh => by
      rw [Bool.and_eq_true, beq_iff_eq] at hh; omega)
    have h5' : terrierlaw18_Same_l5 ((ok && (s.2.2.2.2.1[k]).1 == (t.2.2.2.2.1[k]).1) && (((s.2.2.2.2.1[k]).2.length : Int) == ((t.2.2.2.2.1[k]).2.length : Int)), (k : Int), 0, (s.2.2.2.2.1.length : Int), (k : Int), s, t, ()) = _ := h5
    rw [h5', bnd_val, sumO_inl]
    simp only [List.drop_zero]
    rw [w64 (by omega) (by omega)]
    have e : (((ok && (s.2.2.2.2.1[k]).1 == (t.2.2.2.2.1[k]).1) && (((s.2.2.2.2.1[k]).2.length : Int) == ((t.2.2.2.2.1[k]).2.length : Int))) && ((s.2.2.2.2.1[k]).2 == (t.2.2.2.2.1[k]).2)) = (ok && (s.2.2.2.2.1[k] == t.2.2.2.2.1[k])) := by
      have e1 : (s.2.2.2.2.1[k] == t.2.2.2.2.1[k]) = ((s.2.2.2.2.1[k]).1 == (t.2.2.2.2.1[k]).1 && (s.2.2.2.2.1[k]).2 == (t.2.2.2.2.1[k]).2) := rfl
      rw [e1]
      cases hq : (s.2.2.2.2.1[k]).2 == (t.2.2.2.2.1[k]).2 with
      | false => simp
      | true =>
        have := beq_len hq
        have h1 : (((s.2.2.2.2.1[k]).2.length : Int) == ((t.2.2.2.2.1[k]).2.length : Int)) = true := by rw [beq_iff_eq]; omega
        rw [h1]; simp
    rw [e]; rfl) (fun ok => by
    show terrierlaw18_Same_b4 ok (s.2.2.2.2.1.length : Int) (s.2.2.2.2.1.length : Int) s t = _
    unfold terrierlaw18_Same_b4
    rw [decide_eq_false (by omega)]; rfl) s.2.2.2.2.1.length 0 ok (by omega)
  rw [List.drop_zero, List.drop_zero] at h
  exact h
structure SmallR (s : TState) : Prop where
  a : s.2.2.1.length ≤ 1000000
  b : s.2.2.2.1.length ≤ 1000000
  c : s.2.2.2.2.1.length ≤ 1000000
  d : s.2.2.2.2.2.1.length ≤ 1000000
  e : s.2.2.2.2.2.2.length ≤ 1000000
  f : ∀ x ∈ s.2.2.2.2.1, x.2.length ≤ 1000000
theorem StR.small {s : TState} (h : StR s) : SmallR s := ⟨by have := h.hl; omega, by have := h.sw.len; omega, by have := h.kl; omega, by have := h.pr.le; omega, by have := h.cr.le; omega, h.ksl⟩
theorem Same_eq {s : TState} (h : SmallR s) (t : TState) : ∃ b, terrierlaw18_Same s t = some (b, ()) ∧ (b = true ↔ s = t) := by
  unfold terrierlaw18_Same
  simp only [ltO_def, chk_same, chk_nn]
  cases hv : s.1 != t.1 || s.2.1 != t.2.1 || (s.2.2.1.length : Int) != (t.2.2.1.length : Int) || (s.2.2.2.1.length : Int) != (t.2.2.2.1.length : Int) || (s.2.2.2.2.1.length : Int) != (t.2.2.2.2.1.length : Int) || (s.2.2.2.2.2.1.length : Int) != (t.2.2.2.2.2.1.length : Int) || (s.2.2.2.2.2.2.length : Int) != (t.2.2.2.2.2.2.length : Int) with
  | true =>
    refine ⟨false, rfl, ?_⟩
    constructor
    · intro h; simp at h
    · rintro rfl; simp at hv
  | false =>
    simp only [Bool.or_eq_false_iff, bne_eq_false_iff_eq] at hv
    obtain ⟨⟨⟨⟨⟨⟨v1, v2⟩, v3⟩, v4⟩, v5⟩, v6⟩, v7⟩ := hv
    rw [cnd_false, same0 s t (by omega) h.a, bnd_val, sumO_inl]
    simp only
    rw [same1 _ s t (by omega) h.b, bnd_val, sumO_inl]
    simp only
    rw [same2 _ s t (by omega) h.d, bnd_val, sumO_inl]
    simp only
    rw [same3 _ s t (by omega) h.e, bnd_val, sumO_inl]
    simp only
    rw [same4 _ s t (by omega) h.c h.f, bnd_val, sumO_inl]
    refine ⟨_, rfl, ?_⟩
    simp only [Bool.and_eq_true, beq_iff_eq]
    constructor
    · rintro ⟨⟨⟨⟨h1, h2⟩, h3⟩, h4⟩, h5⟩
      exact Prod.ext v1 (Prod.ext v2 (Prod.ext h1 (Prod.ext h2 (Prod.ext h5 (Prod.ext h3 h4)))))
    · rintro rfl
      exact ⟨⟨⟨⟨rfl, rfl⟩, rfl⟩, rfl⟩, rfl⟩
end Go.Tr
