/- Rules for loops that look for the first one, and the like. Deed by deed: whom ticks ask, what is taken, what is put. Deed by deed: the law. Conditions: none but those that each theorem states. -/
import Derived.Test.YtklmhllelgjglaaGreatRightS
import Derived.Test.YtklmhllelgjglaaGreatSweep2D
import Derived.Test.YtklmhllelgjglaaGreatSweepY
namespace Go.Tr
open Go
set_option linter.unusedVariables false
set_option linter.unusedSimpArgs false
theorem index_gen {α S : Type} {f : S → Option (S ⊕ (Unit ⊕ (Int × Unit)))} (St : Nat → S) (l : List α) (p : α → Bool)
    (hb : ∀ k (h : k < l.length), f (St k) = if p l[k] = true then some (.inr (.inr ((k : Int), ()))) else some (.inl (St (k + 1)))) (he : f (St l.length) = some (.inr (.inl ()))) : ∀ (m k : Nat), k + m = l.length →
    loopM f (St k) = some (idxR (idxS p (l.drop k) k))
  | 0, k, hk => by
    rw [show k = l.length from by omega, List.drop_length, loopM_last he]; rfl
  | m + 1, k, hk => by
    have hkl : k < l.length := by omega
    rw [List.drop_eq_getElem_cons hkl]
    have h1 := hb k hkl
    by_cases h : p l[k] = true
    · rw [if_pos h] at h1
      rw [loopM_last h1, idxS_pos h]
      unfold idxR; rw [if_neg (by omega)]
    · rw [if_neg h] at h1
      rw [loopM_next h1, index_gen St l p hb he m (k + 1) (by omega), idxS_next h]
theorem sumIdx (v : Int) : (sumO (idxR v) (fun _ => some ((-1 : Int), ())) fun r => some r) = some (v, ()) := by
  unfold idxR; split
  · rename_i h; subst h; rfl
  · rfl
theorem idxS_lt {α : Type} {p : α → Bool} : ∀ {l : List α} {k : Nat}, 0 ≤ idxS p l k → ∃ j, ∃ h : j < l.length, idxS p l k = ((k + j : Nat) : Int) ∧ p l[j] = true ∧ ∀ i (h : i < j), p (l[i]'(by omega)) = false
  | [], k, h => by simp [idxS] at h
  | x :: l, k, h => by
    by_cases hx : p x = true
    · exact ⟨0, by simp, by rw [idxS_pos hx]; simp, hx, fun i h => by omega⟩
    · rw [idxS_next hx] at h ⊢
      obtain ⟨j, hj, h1, h2, h3⟩ := idxS_lt h
      refine ⟨j + 1, by simp; omega, by rw [h1]; omega, by simpa using h2, fun i hi => ?_⟩
      cases i with
      | zero => simpa using hx
      | succ i => simpa using h3 i (by omega)
theorem idxS_low {α : Type} {p : α → Bool} : ∀ {l : List α} {k : Nat}, -1 ≤ idxS p l k
  | [], k => by simp [idxS]
  | x :: l, k => by
    by_cases hx : p x = true
    · rw [idxS_pos hx]; omega
    · rw [idxS_next hx]; exact idxS_low
theorem idxS_none {α : Type} {p : α → Bool} {l : List α} {k : Nat} (h : l.any p = false) : idxS p l k = -1 := by
  have h1 := idxS_low (p := p) (l := l) (k := k)
  have h2 : ¬ 0 ≤ idxS p l k := by rw [idxS_iff, h]; simp
  omega
theorem getD_hit {α : Type} (l : List α) (k : Nat) (z : α) (h : k < l.length) : l.getD k z = l[k] := by
  rw [List.getD_eq_getElem?_getD, List.getElem?_eq_getElem h]; rfl
end Go.Tr
namespace Go.Tr
open Go
set_option linter.unusedVariables false
set_option linter.unusedSimpArgs false
set_option maxRecDepth 100000
set_option maxHeartbeats 4000000
def sameB (b : Int × Int) (s : TSweep) : Bool := s.1.1 == b.1 && s.1.2 == b.2
theorem take1_eq (s : TSweep) (b : Int × Int) : sweep_Take_1 s b = some (sameB b s, ()) := rfl
theorem indexT_eq (l : List TSweep) (b : Int × Int) (hn : l.length ≤ 140737488355328) : slices_IndexFunc_v1_w1 l b = some (idxS (sameB b) l 0, ()) := by
  unfold slices_IndexFunc_v1_w1 slices_IndexFunc_v1_w1_l0
  have h := index_gen (f := fun s : (List TSweep) × (Int × Int) × Int × Int × Unit => slices_IndexFunc_v1_w1_b0 s.1 s.2.1 s.2.2.1 s.2.2.2.1) (fun k : Nat => (l, b, (l.length : Int), (k : Int), ())) l (sameB b) (fun k hk => by
    show slices_IndexFunc_v1_w1_b0 l b (l.length : Int) (k : Int) = _
    unfold slices_IndexFunc_v1_w1_b0
    rw [decide_eq_true (by omega), cnd_true, chk_pos (by omega)]
    simp only [ltO_def, recD, getD_toNat, getD_hit l k _ hk, take1_eq, bnd_val, cnd_ite]
    rw [w64 (by omega) (by omega)]; rfl) (by
    show slices_IndexFunc_v1_w1_b0 l b (l.length : Int) (l.length : Int) = _
    unfold slices_IndexFunc_v1_w1_b0
    rw [decide_eq_false (by omega)]; rfl) l.length 0 (by omega)
  rw [List.drop_zero] at h
  have h' : loopM (fun s : (List TSweep) × (Int × Int) × Int × Int × Unit => slices_IndexFunc_v1_w1_b0 s.1 s.2.1 s.2.2.1 s.2.2.2.1) (l, b, (l.length : Int), (0 : Int), ()) = _ := h
  rw [h', bnd_val]
  exact sumIdx _
theorem delete_eq {α : Type} (l : List α) (k : Nat) (h : k < l.length) (hn : l.length ≤ 140737488355328) : deleteF l (k : Int) (IntKind.i64.wrap ((k : Int) + 1)) = some (l.take k ++ l.drop (k + 1), ()) := by
  unfold deleteF
  rw [w64 (by omega) (by omega), chk_pos (by omega)]
  have e1 : ((k : Int)).toNat = k := by omega
  have e2 : ((k : Int) + 1).toNat = k + 1 := by omega
  rw [e1, e2]
theorem RowR.sub {l m : List TSweep} (h : RowR l) (hs : m.Sublist l) : RowR m := ⟨Nat.le_trans hs.length_le h.len, fun s hm => h.all s (hs.mem hm), h.ap.sublist hs⟩
theorem dropk_sub {α : Type} (l : List α) (k : Nat) : (l.take k ++ l.drop (k + 1)).Sublist l := by
  have h : (l.take k ++ l.drop (k + 1)).Sublist (l.take k ++ l.drop k) := List.Sublist.append (List.Sublist.refl _) (by
    rw [← List.drop_drop]; exact List.drop_sublist _ _)
  rwa [List.take_append_drop] at h
theorem Take_eq {ss : List TSweep} (h : RowR ss) (b : Int × Int) :
    (ss.any (sameB b) = false ∧ sweep_Take ss b = some (7, [], ())) ∨ (ss.any (sameB b) = true ∧ ∃ l, sweep_Take ss b = some (0, l, ()) ∧ RowR l ∧ l.length + 1 = ss.length) := by
  have hl := h.len
  unfold sweep_Take
  rw [indexT_eq ss b (by omega), bnd_val]
  cases ha : ss.any (sameB b) with
  | false =>
    left
    rw [idxS_none ha]
    exact ⟨rfl, rfl⟩
  | true =>
    right
    obtain ⟨k, hk, h1, h2, _⟩ := idxS_lt (idxS_iff (k := 0).2 ha)
    rw [h1, Nat.zero_add]
    refine ⟨rfl, _, ?_, h.sub (dropk_sub ss k), ?_⟩
    · rw [decide_eq_false (by omega), cnd_false]
      unfold slices_Clone_Sweep clone slices_Delete_Sweep
      rw [chk_pos (by omega), bnd_val, ltO_def, delete_eq ss k hk (by omega), bnd_val]
    · rw [List.length_append, List.length_take, List.length_drop]; omega
end Go.Tr
namespace Go.Tr
open Go
set_option linter.unusedVariables false
set_option linter.unusedSimpArgs false
set_option maxRecDepth 100000
set_option maxHeartbeats 4000000
end Go.Tr
