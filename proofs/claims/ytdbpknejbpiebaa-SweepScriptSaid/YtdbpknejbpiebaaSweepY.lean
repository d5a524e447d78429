/- The document's plan: whom it picks. The document's plan is the same fold. One round of the document's plan. The document's plan, as a whole. Whom a tick asks is what the document says: the law. Conditions: none but those that each theorem states. -/
import Derived.Test.YtdbpknejbpiebaaSweepT
namespace Go.Tr
open Go
set_option linter.unusedVariables false
set_option linter.unusedSimpArgs false
set_option maxRecDepth 100000
set_option maxHeartbeats 4000000

def candB (o : List TSweep) (now : Int) (dn : List Bool) (i : Nat) : Bool := !dn.getD i false && decide (dueD o (i : Int) ≤ now)
/-- What was picked of the first ones. -/
def pickI (o : List TSweep) (now : Int) (dn : List Bool) (i : Nat) (k : Int) : Prop :=
  (k = -1 ∧ ∀ c : Nat, c < i → candB o now dn c = false) ∨ ∃ j : Nat, k = (j : Int) ∧ j < i ∧ candB o now dn j = true ∧ ∀ c : Nat, c < i → candB o now dn c = true → c = j ∨ lexD o (j : Int) (c : Int)

theorem pick_loop (o : List TSweep) (now room t23 t24 c0 c1 c2 c3 c4 c5 c6 c7 c8 : Int) (out : List TSweep) (dn : List Bool) (asks : List Int) (hl : o.length ≤ 1000) (hd : dn.length = o.length) : ∀ (m i : Nat) (k : Int), i + m = o.length → pickI o now dn i k →
    ∃ k', pickI o now dn o.length k' ∧ terrierlaw14_plan_l1 (o, now, room, k, t23, t24, o, (o.length : Int), (i : Int), c0, c1, c2, c3, c4, c5, c6, c7, c8, out, dn, asks, ()) = some (.inl (o, now, room, k', t23, t24, c0, c1, c2, c3, c4, c5, c6, c7, c8, out, dn, asks, ())) := by
  intro m
  induction m with
  | zero =>
    intro i k hi hk
    have : i = o.length := by omega
    subst this
    refine ⟨k, hk, ?_⟩
    unfold terrierlaw14_plan_l1
    refine loopM_last ?_
    show terrierlaw14_plan_b1 o now room k t23 t24 o (o.length : Int) (o.length : Int) c0 c1 c2 c3 c4 c5 c6 c7 c8 out dn asks = _
    unfold terrierlaw14_plan_b1
    rw [decide_eq_false (by omega), cnd_false]
  | succ m ih =>
    intro i k hi hk
    have hb : ∃ k', pickI o now dn (i + 1) k' ∧ terrierlaw14_plan_b1 o now room k t23 t24 o (o.length : Int) (i : Int) c0 c1 c2 c3 c4 c5 c6 c7 c8 out dn asks = some (.inl (o, now, room, k', t23, t24, o, (o.length : Int), ((i + 1 : Nat) : Int), c0, c1, c2, c3, c4, c5, c6, c7, c8, out, dn, asks, ())) := by
      unfold terrierlaw14_plan_b1
      have hdi : (o[(i : Int).toNat]?.getD zSweep).2.1 = dueD o (i : Int) := by unfold dueD; rw [List.getD_eq_getElem?_getD]
      have hdk : (o[k.toNat]?.getD zSweep).2.1 = dueD o k := by unfold dueD; rw [List.getD_eq_getElem?_getD]
      rw [decide_eq_true (by omega), cnd_true, chk_pos (by omega), ]
      simp only [ltO_def, recD, hdi, hdk, chk_same, chk_and]
      rw [chk_pos (by omega), chk_pos (by omega)]
      have hcb : (!dn.getD (i : Int).toNat false && decide (dueD o (i : Int) ≤ now)) = candB o now dn i := by unfold candB; rw [Int.toNat_natCast]
      rw [hcb, w64 (by omega) (by omega)]
      have e1 : (i : Int) + 1 = ((i + 1 : Nat) : Int) := by omega
      rw [e1]
      rcases hk with ⟨rfl, hk⟩ | ⟨j, rfl, hj, hjc, hk⟩
      · rw [chk_pos (by simp), chk_pos (by simp)]
        have d : decide ((-1 : Int) < 0) = true := by decide
        rw [d]
        cases hc : candB o now dn i with
        | false =>
          refine ⟨-1, .inl ⟨rfl, fun c hcl => ?_⟩, by simp⟩
          rcases Nat.lt_succ_iff_lt_or_eq.1 hcl with h | h
          · exact hk c h
          · rw [h]; exact hc
        | true =>
          refine ⟨(i : Int), .inr ⟨i, rfl, by omega, hc, fun c hcl hcc => ?_⟩, by simp⟩
          rcases Nat.lt_succ_iff_lt_or_eq.1 hcl with h | h
          · rw [hk c h] at hcc; simp at hcc
          · exact .inl h
      · have d : decide ((j : Int) < 0) = false := decide_eq_false (by omega)
        rw [d, chk_pos (by intro _; omega), chk_pos (by intro h _; rw [h]; rfl)]
        cases hc : candB o now dn i with
        | false =>
          refine ⟨(j : Int), .inr ⟨j, rfl, by omega, hjc, fun c hcl hcc => ?_⟩, by simp⟩
          rcases Nat.lt_succ_iff_lt_or_eq.1 hcl with h | h
          · exact hk c h hcc
          · rw [h, hc] at hcc; simp at hcc
        | true =>
          by_cases hlt : dueD o (i : Int) < dueD o (j : Int)
          · rw [decide_eq_true hlt]
            refine ⟨(i : Int), .inr ⟨i, rfl, by omega, hc, fun c hcl hcc => ?_⟩, by simp⟩
            rcases Nat.lt_succ_iff_lt_or_eq.1 hcl with h | h
            · refine .inr (.inl ?_)
              rcases hk c h hcc with h2 | h2
              · rw [h2]; exact hlt
              · have := lexD_le h2
                omega
            · exact .inl h
          · rw [decide_eq_false hlt]
            refine ⟨(j : Int), .inr ⟨j, rfl, by omega, hjc, fun c hcl hcc => ?_⟩, by simp⟩
            rcases Nat.lt_succ_iff_lt_or_eq.1 hcl with h | h
            · exact hk c h hcc
            · refine .inr ?_
              rw [h]
              unfold lexD
              omega
    obtain ⟨k', h1, h2⟩ := hb
    obtain ⟨k2, h3, h4⟩ := ih (i + 1) k' (by omega) h1
    refine ⟨k2, h3, ?_⟩
    unfold terrierlaw14_plan_l1 at h4 ⊢
    rw [loopM_next h2]
    exact h4

end Go.Tr
namespace Go.Tr
open Go
set_option linter.unusedVariables false
set_option linter.unusedSimpArgs false
set_option maxRecDepth 100000
set_option maxHeartbeats 4000000

theorem ref_inner (o : List TSweep) (now room size t23 t24 c0 c1 c2 c3 c4 c5 c6 c7 c8 : Int) (dn : List Bool) (k : Nat) (b : Int × Int) (hk0 : k < o.length) (hob : (o.getD k zSweep).1 = b) (h32 : in32 b.1) (hsz : size = szB b) : ∀ (m : Nat) (out : List TSweep) (asks : List Int) (s : TSweep), k < out.length → out.getD k zSweep = s → s.1 = b → 0 ≤ s.2.2 → s.2.2 ≤ szB s.1 → m = askN room s asks →
    asks.length + m ≤ 1000000000000 →
    terrierlaw14_plan_l2 (o, now, room, (k : Int), size, t23, t24, c0, c1, c2, c3, c4, c5, c6, c7, c8, out, dn, asks, ()) = some (.inl (o, now, room, (k : Int), size, t23, t24, c0, c1, c2, c3, c4, c5, c6, c7, c8, out.set k (s.1, s.2.1, s.2.2 + (m : Int)), dn, asks ++ askL s m, ())) := by
  intro m
  induction m with
  | zero =>
    intro out asks s hk hs hsb h0 h1 hm hb
    have e1 : out.set k (s.1, s.2.1, s.2.2 + ((0 : Nat) : Int)) = out := by
      have : (s.1, s.2.1, s.2.2 + ((0 : Nat) : Int)) = s := by simp
      rw [this, ← hs, List.getD_eq_getElem?_getD, List.getElem?_eq_getElem hk]
      simp
    rw [e1]
    unfold terrierlaw14_plan_l2
    refine loopM_last ?_
    show terrierlaw14_plan_b2 o now room (k : Int) size t23 t24 c0 c1 c2 c3 c4 c5 c6 c7 c8 out dn asks = _
    unfold terrierlaw14_plan_b2
    rw [chk_pos (by omega), chk_pos (by omega), Int.toNat_natCast, hs]
    simp only [chk_same, ltO_def]
    have hd : (decide (s.2.2 < size) && decide ((asks.length : Int) < room)) = false := by
      unfold askN at hm
      rw [← Bool.not_eq_true, Bool.and_eq_true, decide_eq_true_eq, decide_eq_true_eq, hsz, ← hsb]
      omega
    rw [hd, cnd_false]
    simp [askL]
  | succ m ih =>
    intro out asks s hk hs hsb h0 h1 hm hb
    have hm' : s.2.2 < szB s.1 ∧ (asks.length : Int) < room := by unfold askN at hm; omega
    have hle := szB_le h32
    have h320 := h32.1
    have h321 := h32.2
    have hszs : szB s.1 = szB b := by rw [hsb]
    have hbody : terrierlaw14_plan_b2 o now room (k : Int) size t23 t24 c0 c1 c2 c3 c4 c5 c6 c7 c8 out dn asks = some (.inl (o, now, room, (k : Int), size, t23, t24, c0, c1, c2, c3, c4, c5, c6, c7, c8, out.set k (s.1, s.2.1, s.2.2 + 1), dn, asks ++ [s.1.1 + s.2.2], ())) := by
      unfold terrierlaw14_plan_b2
      have hko : (0 : Int) ≤ (k : Int) ∧ (k : Int) < (out.length : Int) := by omega
      rw [chk_pos hko, chk_pos (by omega), Int.toNat_natCast, hs]
      simp only [chk_same, ltO_def]
      rw [decide_eq_true (show s.2.2 < size by omega), decide_eq_true hm'.2]
      simp only [Bool.and_self, cnd_true]
      rw [chk_pos (by omega)]
      simp only [chk_pos hko, chk_pos hk]
      have hu : IntKind.u32.wrap s.2.2 = s.2.2 := by rw [IntKind.wrap_u32]; omega
      have hob1 : (o[k]?.getD zSweep).1.1 = s.1.1 := by
        rw [← List.getD_eq_getElem?_getD, hob, hsb]
      have hs1 : s.1.1 = b.1 := by rw [hsb]
      have hu2 : IntKind.u32.wrap (s.1.1 + s.2.2) = s.1.1 + s.2.2 := by rw [IntKind.wrap_u32]; omega
      simp only [recD, hu, hob1, hu2]
      rw [chk_pos (by show (asks.length + 1) * 4 ≤ 140737488355328; omega), w64 (by omega) (by omega)]
    have hs' : (out.set k (s.1, s.2.1, s.2.2 + 1)).getD k zSweep = (s.1, s.2.1, s.2.2 + 1) := by
      rw [List.getD_eq_getElem?_getD, List.getElem?_set_self hk]; rfl
    have := ih (out.set k (s.1, s.2.1, s.2.2 + 1)) (asks ++ [s.1.1 + s.2.2]) _ (by simpa using hk) hs' hsb (by show 0 ≤ s.2.2 + 1; omega) (by show s.2.2 + 1 ≤ szB s.1; omega)
      (by unfold askN at hm ⊢; simp only [List.length_append, List.length_singleton]; omega) (by simp; omega)
    unfold terrierlaw14_plan_l2 at this ⊢
    rw [loopM_next hbody, this, List.set_set]
    have e2 : s.2.2 + 1 + (m : Int) = s.2.2 + ((m + 1 : Nat) : Int) := by omega
    simp only [e2]
    have e3 : asks ++ [s.1.1 + s.2.2] ++ askL (s.1, s.2.1, s.2.2 + 1) m = asks ++ askL s (m + 1) := by
      unfold askL
      rw [List.append_assoc, List.range_succ_eq_map]
      simp only [List.map_cons, List.map_map, List.singleton_append]
      congr 2
      · simp
      · apply List.map_congr_left
        intro i _
        simp only [Function.comp]
        omega
    rw [e3]

end Go.Tr
namespace Go.Tr
open Go
set_option linter.unusedVariables false
set_option linter.unusedSimpArgs false
set_option maxRecDepth 100000
set_option maxHeartbeats 4000000

theorem clamp_if2 (now : Int) : (if (if (1099511627776 : Int) < now then (1099511627776 : Int) else now) > (0 : Int) then if (1099511627776 : Int) < now then (1099511627776 : Int) else now else (0 : Int)) = clampS now := by
  unfold clampS
  split <;> split <;> (try split) <;> (try split) <;> omega
theorem ref_body (o : List TSweep) (now room t23 t24 c0 c1 c2 c3 c4 c5 c6 c7 c8 : Int) (out : List TSweep) (dn : List Bool) (asks : List Int) (hR : RowR o) (hol : out.length = o.length) (hdn : dn.length = o.length) (h24 : 0 ≤ t24) (ht : t24 < t23) (ht2 : t23 ≤ 1000)
    (k : Nat) (hk : k < o.length) (hog : out.getD k zSweep = o.getD k zSweep) (ha : asks.length ≤ 1000000)
    (hpick : terrierlaw14_plan_l1 (o, now, room, -1, t23, t24, o, (o.length : Int), 0, c0, c1, c2, c3, c4, c5, c6, c7, c8, out, dn, asks, ()) = some (.inl (o, now, room, (k : Int), t23, t24, c0, c1, c2, c3, c4, c5, c6, c7, c8, out, dn, asks, ()))) :
    terrierlaw14_plan_b0 o now room t23 t24 asks c0 c1 c2 c3 c4 c5 c6 c7 c8 out dn = some (.inl (o, now, room, t23, t24 + 1, (stepS room c3 (out, asks) (k : Int)).2, c0, c1, c2, c3, c4, c5, c6, c7, c8, (stepS room c3 (out, asks) (k : Int)).1, dn.set k true, ())) := by
  unfold terrierlaw14_plan_b0
  rw [decide_eq_true ht, cnd_true, hpick]
  simp only [bnd_val, sumO_inl]
  have hg : o.getD k zSweep = o[k] := by rw [List.getD_eq_getElem?_getD, List.getElem?_eq_getElem hk]; rfl
  have hRs := hR.all _ (List.getElem_mem hk)
  rw [← hg] at hRs
  generalize hs : o.getD k zSweep = s at hog hRs
  have hs' : o[k]?.getD zSweep = s := by rw [← List.getD_eq_getElem?_getD]; exact hs
  have hko : k < out.length := by omega
  have hn := askN_le (room := room) (asks := asks) (swR_I hRs)
  obtain ⟨r1, r2, r3, r4, r5, r6⟩ := hRs
  have hbo := (rB_bo r2).1
  have hbo' := hbo
  unfold bo at hbo'
  have hz : szB s.1 = Wd s.1.2 := by unfold szB; rw [if_pos r2]
  rw [decide_eq_false (by omega), cnd_false, chk_pos (by omega), chk_pos (by omega), chk_pos (by omega)]
  simp only [ltO_def, recD, Int.toNat_natCast, hs']
  rw [w64 (n := 32 - s.1.2) (by omega) (by omega), chk_pos (by omega), shl64 (.inl rfl) hbo, ref_inner o now room (Wd s.1.2) t23 t24 c0 c1 c2 c3 c4 c5 c6 c7 c8 (dn.set k true) k s.1 hk (by rw [hs]) r1 hz.symm (askN room s asks) out asks s hko hog rfl r5 (by omega) rfl (by omega)]
  have hgs : ∀ x, (out.set k x).getD k zSweep = x := fun x => by rw [List.getD_eq_getElem?_getD, List.getElem?_set_self hko]; rfl
  simp only [bnd_val, sumO_inl, Int.toNat_natCast, List.length_set, hgs]
  rw [chk_pos (by omega), chk_pos hko, w64 (n := t24 + 1) (by omega) (by omega)]
  unfold stepS nextS
  simp only [Int.toNat_natCast, hog]
  have hzk : (0 : Int) ≤ (k : Int) ∧ (k : Int) < (out.length : Int) := by omega
  have hzo : (0 : Int) ≤ (k : Int) ∧ (k : Int) < (o.length : Int) := by omega
  by_cases hc : szB s.1 ≤ s.2.2 + (askN room s asks : Int)
  · have he : (s.2.2 + (askN room s asks : Int) == Wd s.1.2) = true := by rw [beq_iff_eq]; omega
    rw [he, cnd_true, if_pos hc]
    simp only [chk_pos hzk, chk_pos hko, chk_pos hzo, hs', List.set_set, hgs]
    have hadd : addS s.2.1 c3 = (if (if (1099511627776 : Int) < IntKind.i64.wrap (s.2.1 + if (if (1099511627776 : Int) < c3 then (1099511627776 : Int) else c3) > (-1099511627776 : Int) then if (1099511627776 : Int) < c3 then (1099511627776 : Int) else c3 else (-1099511627776 : Int)) then (1099511627776 : Int) else IntKind.i64.wrap (s.2.1 + if (if (1099511627776 : Int) < c3 then (1099511627776 : Int) else c3) > (-1099511627776 : Int) then if (1099511627776 : Int) < c3 then (1099511627776 : Int) else c3 else (-1099511627776 : Int))) > (0 : Int) then (if (1099511627776 : Int) < IntKind.i64.wrap (s.2.1 + if (if (1099511627776 : Int) < c3 then (1099511627776 : Int) else c3) > (-1099511627776 : Int) then if (1099511627776 : Int) < c3 then (1099511627776 : Int) else c3 else (-1099511627776 : Int)) then (1099511627776 : Int) else IntKind.i64.wrap (s.2.1 + if (if (1099511627776 : Int) < c3 then (1099511627776 : Int) else c3) > (-1099511627776 : Int) then if (1099511627776 : Int) < c3 then (1099511627776 : Int) else c3 else (-1099511627776 : Int))) else (0 : Int)) := by
      have e : (if (if (1099511627776 : Int) < c3 then (1099511627776 : Int) else c3) > (-1099511627776 : Int) then if (1099511627776 : Int) < c3 then (1099511627776 : Int) else c3 else (-1099511627776 : Int)) = max (-1099511627776) (min c3 1099511627776) := by
        by_cases h1 : (1099511627776 : Int) < c3
        · simp only [h1, if_true]
          rw [if_pos (by omega)]; omega
        · simp only [h1, if_false]
          split <;> omega
      rw [e, w64 (n := s.2.1 + _) (by omega) (by omega), clamp_if2]
      unfold addS
      have : clampS s.2.1 = s.2.1 := by unfold clampS; split <;> (try split) <;> omega
      rw [this]
    rw [hadd]
  · have he : (s.2.2 + (askN room s asks : Int) == Wd s.1.2) = false := by rw [beq_eq_false_iff_ne]; omega
    rw [he, cnd_false, if_neg hc]

end Go.Tr
namespace Go.Tr
open Go
set_option linter.unusedVariables false
set_option linter.unusedSimpArgs false
set_option maxRecDepth 100000
set_option maxHeartbeats 4000000

theorem dueL_iff {o : List TSweep} {now : Int} {n : Nat} {a : Int} : a ∈ dueL o now n ↔ ∃ i : Nat, i < n ∧ a = (i : Int) ∧ dueD o (i : Int) ≤ now := by
  unfold dueL
  rw [List.mem_map]
  constructor
  · rintro ⟨i, hi, rfl⟩
    obtain ⟨h1, h2⟩ := List.mem_filter.1 hi
    exact ⟨i, List.mem_range.1 h1, rfl, of_decide_eq_true h2⟩
  · rintro ⟨i, h1, rfl, h2⟩
    exact ⟨i, List.mem_filter.2 ⟨List.mem_range.2 h1, decide_eq_true h2⟩, rfl⟩
theorem lexD_asymm {o : List TSweep} {a b : Int} (h : lexD o a b) (h2 : lexD o b a) : False := by
  unfold lexD at h h2; omega

theorem ref_loop {o : List TSweep} (hR : RowR o) (now room c0 c1 c2 c3 c4 c5 c6 c7 c8 : Int) {D : List Int} (hD : D.Perm (dueL o now o.length)) (hp : D.Pairwise (lexD o)) : ∀ (B A : List Int) (out : List TSweep) (asks : List Int) (dn : List Bool), D = A ++ B →
    out.length = o.length → dn.length = o.length → (∀ i : Nat, i < o.length → (i : Int) ∉ A → out.getD i zSweep = o.getD i zSweep) → (∀ i : Nat, i < o.length → (dn.getD i false = true ↔ (i : Int) ∈ A)) → asks.length ≤ 256 * A.length →
    terrierlaw14_plan_l0 (o, now, room, (o.length : Int), (A.length : Int), asks, c0, c1, c2, c3, c4, c5, c6, c7, c8, out, dn, ()) = some (.inl ((B.foldl (stepS room c3) (out, asks)).1, (B.foldl (stepS room c3) (out, asks)).2, ())) := by
  have hl16 := hR.len
  have hDn : D.length ≤ o.length := by rw [hD.length_eq]; exact dueL_len _ _ _
  have hmem : ∀ a, a ∈ D ↔ ∃ i : Nat, i < o.length ∧ a = (i : Int) ∧ dueD o (i : Int) ≤ now := fun a => by rw [hD.mem_iff]; exact dueL_iff
  intro B
  induction B with
  | nil =>
    intro A out asks dn hAB h1 h2 h3 h4 h5
    rw [List.append_nil] at hAB
    unfold terrierlaw14_plan_l0
    refine loopM_last ?_
    show terrierlaw14_plan_b0 o now room (o.length : Int) (A.length : Int) asks c0 c1 c2 c3 c4 c5 c6 c7 c8 out dn = _
    by_cases hlt : (A.length : Int) < (o.length : Int)
    · obtain ⟨k', k1, k2⟩ := pick_loop o now room (o.length : Int) (A.length : Int) c0 c1 c2 c3 c4 c5 c6 c7 c8 out dn asks (by omega) h2 o.length 0 (-1) (by omega) (.inl ⟨rfl, fun c hc => by omega⟩)
      have e0 : ((0 : Nat) : Int) = 0 := rfl
      rw [e0] at k2
      have hk : k' = -1 := by
        rcases k1 with ⟨h, _⟩ | ⟨j, rfl, hj, hc, _⟩
        · exact h
        · exfalso
          unfold candB at hc
          simp only [Bool.and_eq_true, Bool.not_eq_true', decide_eq_true_eq] at hc
          have : (j : Int) ∈ A := by rw [← hAB, hmem]; exact ⟨j, hj, rfl, hc.2⟩
          rw [(h4 j hj).2 this] at hc
          simp at hc
      subst hk
      unfold terrierlaw14_plan_b0
      rw [decide_eq_true hlt, cnd_true, k2]
      simp
    · unfold terrierlaw14_plan_b0
      rw [decide_eq_false hlt, cnd_false]
      rfl
  | cons k B ih =>
    intro A out asks dn hAB h1 h2 h3 h4 h5
    have hkD : k ∈ D := by rw [hAB]; simp
    obtain ⟨kn, hkn, rfl, hkd⟩ := (hmem k).1 hkD
    rw [hAB] at hp
    obtain ⟨pA, pB, pAB⟩ := List.pairwise_append.1 hp
    have hkA : (kn : Int) ∉ A := fun h => lexD_asymm (pAB _ h _ (by simp)) (pAB _ h _ (by simp))
    have hAl : A.length < o.length := by
      have : D.length = A.length + (B.length + 1) := by rw [hAB]; simp
      omega
    obtain ⟨k', k1, k2⟩ := pick_loop o now room (o.length : Int) (A.length : Int) c0 c1 c2 c3 c4 c5 c6 c7 c8 out dn asks (by omega) h2 o.length 0 (-1) (by omega) (.inl ⟨rfl, fun c hc => by omega⟩)
    have e0 : ((0 : Nat) : Int) = 0 := rfl
    rw [e0] at k2
    have hcand : candB o now dn kn = true := by
      unfold candB
      have : dn.getD kn false = false := by
        rw [← Bool.not_eq_true, h4 kn hkn]; exact hkA
      rw [this, decide_eq_true hkd]; rfl
    have hk : k' = (kn : Int) := by
      rcases k1 with ⟨_, h⟩ | ⟨j, rfl, hj, hc, hall⟩
      · rw [h kn hkn] at hcand; simp at hcand
      · have hj2 : (j : Int) ∈ D ∧ (j : Int) ∉ A := by
          unfold candB at hc
          simp only [Bool.and_eq_true, Bool.not_eq_true', decide_eq_true_eq] at hc
          refine ⟨(hmem _).2 ⟨j, hj, rfl, hc.2⟩, fun h => ?_⟩
          rw [(h4 j hj).2 h] at hc
          simp at hc
        have hjB : (j : Int) ∈ (kn : Int) :: B := by
          rw [hAB] at hj2
          exact (List.mem_append.1 hj2.1).resolve_left hj2.2
        rcases hall kn hkn hcand with h | h
        · rw [h]
        · rcases List.mem_cons.1 hjB with h2 | h2
          · exact h2
          · exact (lexD_asymm h ((List.pairwise_cons.1 pB).1 _ h2)).elim
    subst hk
    have hb := ref_body o now room (o.length : Int) (A.length : Int) c0 c1 c2 c3 c4 c5 c6 c7 c8 out dn asks hR h1 h2 (by omega) (by omega) (by omega) kn hkn (h3 kn hkn hkA) (by omega) k2
    have hst : (stepS room c3 (out, asks) (kn : Int)).1 = out.set kn (nextS c3 (out.getD kn zSweep) (askN room (out.getD kn zSweep) asks)) := by unfold stepS; simp
    have hsI := askN_le (room := room) (asks := asks) (swR_I (hR.all (o.getD kn zSweep) (by rw [List.getD_eq_getElem?_getD, List.getElem?_eq_getElem hkn]; exact List.getElem_mem hkn)))
    have := ih (A ++ [(kn : Int)]) (stepS room c3 (out, asks) (kn : Int)).1 (stepS room c3 (out, asks) (kn : Int)).2 (dn.set kn true) (by rw [hAB]; simp) (by rw [step_len]; exact h1) (by rw [List.length_set]; exact h2) (fun i hi hni => by
      have hne : kn ≠ i := fun h => hni (by rw [h]; simp)
      rw [hst, List.getD_eq_getElem?_getD, List.getElem?_set_ne hne, ← List.getD_eq_getElem?_getD]
      exact h3 i hi (fun h => hni (by simp [h]))) (fun i hi => by
      rw [List.getD_eq_getElem?_getD, List.getElem?_set]
      by_cases h : kn = i
      · subst h
        rw [if_pos rfl, if_pos (by omega)]; simp
      · rw [if_neg h, ← List.getD_eq_getElem?_getD, h4 i hi]
        simp
        omega) (by
      unfold stepS askL
      simp only [List.length_append, List.length_map, List.length_range, List.length_singleton, Int.toNat_natCast]
      rw [h3 kn hkn hkA]
      omega)
    unfold terrierlaw14_plan_l0 at this ⊢
    rw [loopM_next hb]
    have e2 : (((A ++ [(kn : Int)]).length : Nat) : Int) = (A.length : Int) + 1 := by simp
    rw [e2] at this
    rw [this]
    rfl

theorem refPlan_eq {o : List TSweep} (hR : RowR o) (c : TCfg) (now room : Int) {D : List Int} (hD : D.Perm (dueL o now o.length)) (hp : D.Pairwise (lexD o)) :
    terrierlaw14_plan c o now room = some ((D.foldl (stepS room c.2.2.2.1) (o, [])).2, (D.foldl (stepS room c.2.2.2.1) (o, [])).1, ()) := by
  have hl16 := hR.len
  unfold terrierlaw14_plan
  rw [chk_pos (by show o.length * 32 ≤ 140737488355328; omega), chk_pos ⟨by omega, by omega, by omega, by show o.length * 1 ≤ 140737488355328; omega⟩]
  have := ref_loop hR now room c.1 c.2.1 c.2.2.1 c.2.2.2.1 c.2.2.2.2.1 c.2.2.2.2.2.1 c.2.2.2.2.2.2.1 c.2.2.2.2.2.2.2.1 c.2.2.2.2.2.2.2.2 hD hp D [] o [] (List.replicate o.length false) rfl rfl (by simp) (fun _ _ _ => rfl) (fun i hi => by simp [List.getD_eq_getElem?_getD, List.getElem?_replicate, hi]) (by simp)
  have e0 : ((([] : List Int).length : Nat) : Int) = 0 := rfl
  rw [e0] at this
  rw [Int.toNat_natCast, this]
  simp

end Go.Tr
namespace Go.Tr
open Go
set_option linter.unusedVariables false
set_option linter.unusedSimpArgs false
set_option maxRecDepth 100000
set_option maxHeartbeats 4000000

theorem fold_room {room every : Int} : ∀ (D : List Int) (p : List TSweep × List Int), (p.2.length : Int) ≤ max 0 room → ((D.foldl (stepS room every) p).2.length : Int) ≤ max 0 room
  | [], p, h => h
  | k :: D, p, h => by
    refine fold_room D (stepS room every p k) ?_
    unfold stepS askL askN
    simp only [List.length_append, List.length_map, List.length_range]
    omega
theorem fold_256 {room every : Int} : ∀ (D : List Int) (p : List TSweep × List Int), RowR p.1 → (∀ k ∈ D, inD p.1 k) → (D.foldl (stepS room every) p).2.length ≤ p.2.length + 256 * D.length
  | [], p, h, _ => by simp
  | k :: D, p, h, hk => by
    have h1 := step_R (room := room) (every := every) h (hk k (by simp))
    have h0 := step_I (room := room) (every := every) (p := p) (fun s hs => swR_I (h.all s hs)) (hk k (by simp))
    have h2 := fold_256 (room := room) (every := every) D (stepS room every p k) h1.1 (fun j hj => by
      have := hk j (by simp [hj])
      unfold inD at this ⊢
      rw [step_len]; exact this)
    have h3 := h0.2
    simp only [List.foldl_cons, List.length_cons]
    omega

theorem same_self (l : List TSweep) (hl : l.length ≤ 1000) : terrierlaw14_same l l = some (true, ()) := by
  unfold terrierlaw14_same
  have hloop : terrierlaw14_same_l0 (l, l, (l.length : Int), 0, ()) = some (.inl ()) := by
    unfold terrierlaw14_same_l0
    refine (loopM_steps (n := l.length) (fun k : Nat => (l, l, (l.length : Int), (k : Int), ())) (Nat.zero_le _) fun k _ hk => ?_).trans ?_
    · show terrierlaw14_same_b0 l l (l.length : Int) (k : Int) = _
      unfold terrierlaw14_same_b0
      rw [decide_eq_true (by omega), cnd_true, chk_pos (by omega)]
      simp only [ltO_def]
      rw [chk_pos (by omega), w64 (by omega) (by omega)]
      simp
    · refine loopM_last ?_
      show terrierlaw14_same_b0 l l (l.length : Int) (l.length : Int) = _
      unfold terrierlaw14_same_b0
      rw [decide_eq_false (by omega), cnd_false]
  rw [hloop]
  simp [ltO_def]
theorem asks_self (l : List Int) (hl : l.length ≤ 100000) : terrierlaw14_SweepPlan_l0 (l, l, (l.length : Int), 0, ()) = some (.inl ()) := by
  unfold terrierlaw14_SweepPlan_l0
  refine (loopM_steps (n := l.length) (fun k : Nat => (l, l, (l.length : Int), (k : Int), ())) (Nat.zero_le _) fun k _ hk => ?_).trans ?_
  · show terrierlaw14_SweepPlan_b0 l l (l.length : Int) (k : Int) = _
    unfold terrierlaw14_SweepPlan_b0
    rw [decide_eq_true (by omega), cnd_true, chk_pos (by omega)]
    simp only [ltO_def]
    rw [chk_pos (by omega), w64 (by omega) (by omega)]
    simp
  · refine loopM_last ?_
    show terrierlaw14_SweepPlan_b0 l l (l.length : Int) (l.length : Int) = _
    unfold terrierlaw14_SweepPlan_b0
    rw [decide_eq_false (by omega), cnd_false]

theorem sweepPlan_law {x : Int × Int × Int × Int × Int × Int × Int × Int × Int} {acts : List (Int × Int × Int)} {later room : Int} (hr : -128 ≤ room ∧ room ≤ 127) : terrierlaw14_SweepPlan x acts later room = some (true, ()) := by
  unfold terrierlaw14_SweepPlan
  rw [sawake_eq]
  simp only [bnd_val, Bool.not_true, cnd_false]
  obtain ⟨c, hc⟩ := sconfig_eq x
  obtain ⟨t, ss, s1, s2, _⟩ := Some_R c acts
  have hl := s2.len
  rw [hc]
  simp only [bnd_val]
  rw [s1]
  simp only [bnd_val, ltO_def]
  have hw : IntKind.i64.wrap room = room := w64 (by omega) (by omega)
  rw [hw]
  generalize IntKind.i64.wrap (t + IntKind.i64.wrap later) = now
  obtain ⟨D, d1, d2, d3, d4, _⟩ := Plan_R s2 c now room
  rw [d3, refPlan_eq s2 c now room d1 d2]
  have h1 := fold_room (room := room) (every := c.2.2.2.1) D (ss, []) (by simp; omega)
  have h2 := fold_256 (room := room) (every := c.2.2.2.1) D (ss, []) s2 (fun k hk => by
    have := dueL_mem (d1.mem_iff.1 hk)
    exact ⟨this.1, this.2.1⟩)
  have hDl : D.length ≤ ss.length := by rw [d1.length_eq]; exact dueL_len _ _ _
  generalize D.foldl (stepS room c.2.2.2.1) (ss, []) = p at d4 h1 h2 ⊢
  have hpl := d4.len
  simp only [bnd_val]
  rw [same_self p.1 (by omega), sweeps_eq d4.in32 (by omega), RowR_right d4]
  simp only [bnd_val]
  have hm : ¬ (p.2.length : Int) > if room > (0 : Int) then room else (0 : Int) := by split <;> omega
  rw [decide_eq_false hm, asks_self p.2 (by simp at h2; omega)]
  simp [chk]

end Go.Tr
