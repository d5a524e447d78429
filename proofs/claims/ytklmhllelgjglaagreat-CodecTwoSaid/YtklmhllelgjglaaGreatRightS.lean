/- Rows of a state: when they are right. Rows of a state: when they are right: prefixes that are swept, sightings, cases. Rows of a state: sightings; a state that is right. Conditions: none but those that each theorem states. -/
import Derived.Test.YtklmhllelgjglaaGreatCodecS
import Derived.Test.YtklmhllelgjglaaGreatCodec2D
namespace Go.Tr
open Go
set_option linter.unusedVariables false
set_option linter.unusedSimpArgs false
set_option maxRecDepth 100000
set_option maxHeartbeats 4000000
theorem recD {α : Type} (z : α) (o : Option α) : Option.rec (motive := fun _ => α) z (fun v => v) o = o.getD z := by cases o <;> rfl
theorem getD_toNat {α : Type} (l : List α) (i : Nat) (z : α) : (l[(i : Int).toNat]?).getD z = l.getD i z := by simp [List.getD_eq_getElem?_getD]
def clampS (n : Int) : Int := if n < 0 then 0 else if n > 1099511627776 then 1099511627776 else n
theorem clamp_eq' (n : Int) : clock_Clamp n = some (clampS n, ()) := clamp_eq
def heldP (l : List THold) (i : Nat) : Bool := mayS (l.getD i zHold).2.1 && (decide (i = 0) || decide ((l.getD (i - 1) zHold).1 < (l.getD i zHold).1))
def heldS (l : List THold) : Bool := (List.range' 0 l.length).all (heldP l) && decide (l.length ≤ 48)
def probeP (l : List TProbe) (i : Nat) : Bool :=
  let p := l.getD i (0, 0, 0, 0, 0)
  decide (p.2.1 = p.1 % 65536) && (decide (0 ≤ p.2.2.1) && decide (p.2.2.1 ≤ 65535) && (decide (p.2.2.2.1 = clampS p.2.2.2.1) && (decide (0 ≤ p.2.2.2.2) && decide (p.2.2.2.2 ≤ 8)))) && !((l.take i).any fun x => x.1 == p.1)
def probesS (l : List TProbe) : Bool := (List.range' 0 l.length).all (probeP l) && decide (l.length ≤ 16)
def idxS {α : Type} (p : α → Bool) : List α → Nat → Int
  | [], _ => -1
  | x :: l, k => if p x = true then (k : Int) else idxS p l (k + 1)
theorem idxS_pos {α : Type} {p : α → Bool} {x : α} {l : List α} {k : Nat} (h : p x = true) : idxS p (x :: l) k = (k : Int) := by
  unfold idxS; rw [if_pos h]
theorem idxS_next {α : Type} {p : α → Bool} {x : α} {l : List α} {k : Nat} (h : ¬ p x = true) : idxS p (x :: l) k = idxS p l (k + 1) := by
  conv => lhs; unfold idxS
  rw [if_neg h]
theorem idxS_iff {α : Type} {p : α → Bool} : ∀ {l : List α} {k : Nat}, 0 ≤ idxS p l k ↔ l.any p = true
  | [], k => by simp [idxS]
  | x :: l, k => by
    have ih := idxS_iff (p := p) (l := l) (k := k + 1)
    simp only [List.any_cons, Bool.or_eq_true]
    by_cases h : p x = true
    · rw [idxS_pos h]; simp [h]
    · rw [idxS_next h, ih]; simp [h]
def idxR (v : Int) : Unit ⊕ (Int × Unit) := if v = -1 then .inl () else .inr (v, ())
theorem idxS_neg {α : Type} {p : α → Bool} {l : List α} {k : Nat} : (decide (idxS p l k ≥ 0)) = l.any p := by
  rw [Bool.eq_iff_iff, decide_eq_true_eq]
  exact idxS_iff
end Go.Tr
namespace Go.Tr
open Go
set_option linter.unusedVariables false
set_option linter.unusedSimpArgs false
set_option maxRecDepth 100000
set_option maxHeartbeats 4000000
def sweep1 (s : TSweep) : Bool := rB s.1 && (decide (szB s.1 ≤ 256) && (decide (s.2.1 = clampS s.2.1) && (decide (0 ≤ s.2.2) && decide (s.2.2 < szB s.1))))
def sweep2 (t s : TSweep) : Bool := decide (t.1.1 < s.1.1) && !(wiB t.1 s.1 || wiB s.1 t.1)
def sweepP (l : List TSweep) (i : Nat) : Bool := sweep1 (l.getD i zSweep) && (decide (i = 0) || sweep2 (l.getD (i - 1) zSweep) (l.getD i zSweep))
def sweepsS (l : List TSweep) : Bool := (List.range' 0 l.length).all (sweepP l) && decide (l.length ≤ 16)
def openS (c : TCase) : Bool := c.2.2.2 == 0 || c.2.2.2 == 1
theorem open_eq (c : TCase) : cases_Open c = some (openS c, ()) := by
  unfold cases_Open
  simp only [ltO_def, chk_same, chk_nn]; rfl
theorem indexC_loop (l : List TCase) (a : Int) (hn : l.length ≤ 140737488355328) : ∀ (m k : Nat), k + m = l.length →
    slices_IndexFunc_v1_l0 (l, a, (l.length : Int), (k : Int), ()) = some (idxR (idxS (fun c : TCase => c.1 == a && openS c) (l.drop k) k))
  | 0, k, hk => by
    unfold slices_IndexFunc_v1_l0
    rw [List.drop_of_length_le (by omega)]
    rw [loopM_last (y := .inl ())]
    · rfl
    · show slices_IndexFunc_v1_b0 l a (l.length : Int) (k : Int) = _
      unfold slices_IndexFunc_v1_b0
      rw [decide_eq_false (by omega)]; rfl
  | m + 1, k, hk => by
    have hkl : k < l.length := by omega
    have ih := indexC_loop l a hn m (k + 1) (by omega)
    rw [List.drop_eq_getElem_cons hkl]
    unfold slices_IndexFunc_v1_l0 at ih ⊢
    have hb : slices_IndexFunc_v1_b0 l a (l.length : Int) (k : Int) = cnd (l[k].1 == a && openS l[k]) (some (.inr (.inr ((k : Int), ())))) (some (.inl (l, a, (l.length : Int), ((k + 1 : Nat) : Int), ()))) := by
      unfold slices_IndexFunc_v1_b0
      rw [decide_eq_true (by omega), cnd_true, chk_pos (by omega)]
      simp only [ltO_def, recD, getD_toNat]
      have : l.getD k (0, 0, 0, 0) = l[k] := by rw [List.getD_eq_getElem?_getD, List.getElem?_eq_getElem hkl]; rfl
      rw [this]
      unfold cases_Find_1
      rw [open_eq]
      simp only [ltO_def, bnd_val, bndG_val, chk_same]
      rw [w64 (by omega) (by omega)]; rfl
    by_cases h : (l[k].1 == a && openS l[k]) = true
    · rw [h, cnd_true] at hb
      rw [loopM_last (y := .inr ((k : Int), ())) hb, idxS_pos (p := fun c : TCase => c.1 == a && openS c) h]
      unfold idxR; rw [if_neg (by omega)]
    · rw [Bool.not_eq_true] at h
      rw [h, cnd_false] at hb
      rw [loopM_next (s' := (l, a, (l.length : Int), ((k + 1 : Nat) : Int), ())) hb, ih, idxS_next (p := fun c : TCase => c.1 == a && openS c) (by simp [h])]
def findC (l : List TCase) (a : Int) : Int := idxS (fun c : TCase => c.1 == a && openS c) l 0
theorem find_eq (l : List TCase) (a : Int) (hn : l.length ≤ 140737488355328) : cases_Find l a = some (findC l a, ()) := by
  unfold cases_Find slices_IndexFunc_v1
  have L := indexC_loop l a hn l.length 0 (by omega)
  have L' : slices_IndexFunc_v1_l0 (l, a, (l.length : Int), 0, ()) = _ := L
  rw [L', List.drop_zero]
  unfold findC
  generalize idxS (fun c : TCase => c.1 == a && openS c) l 0 = v
  unfold idxR
  by_cases h : v = -1
  · subst h; rfl
  · rw [if_neg h]; rfl
def case1 (l : List TCase) (i : Nat) (c : TCase) : Bool :=
  decide (0 ≤ c.2.2.2) && (decide (c.2.2.2 ≤ 5) && (decide (c.2.1 = clampS c.2.1) && (decide (c.2.2.1 = clampS c.2.2.1) && (if openS c = true then decide (c.2.2.1 = 0) && decide (findC l c.1 = (i : Int)) else decide (c.2.1 ≤ c.2.2.1)))))
def caseP (l : List TCase) (i : Nat) : Bool := case1 l i (l.getD i (0, 0, 0, 0))
def casesS (l : List TCase) : Bool := (List.range' 0 l.length).all (caseP l) && decide (l.length ≤ 16)
end Go.Tr
namespace Go.Tr
open Go
set_option linter.unusedVariables false
set_option linter.unusedSimpArgs false
set_option maxRecDepth 100000
set_option maxHeartbeats 4000000
def sight1 (s : List TSight) (j : Nat) : Bool :=
  decide (0 ≤ (s.getD j zSight).1) && (decide ((s.getD j zSight).1 < 4) && (decide (0 ≤ (s.getD j zSight).2.2) && (decide (j = 0) || decide ((s.getD (j - 1) zSight).2.2 ≤ (s.getD j zSight).2.2))))
def sightsS (s : List TSight) : Bool := (List.range' 0 s.length).all (sight1 s)
def knownP (l : List TKnown) (i : Nat) : Bool :=
  (decide (i = 0) || decide ((l.getD (i - 1) (0, [])).1 < (l.getD i (0, [])).1)) && (decide ((l.getD i (0, [])).2.length ≠ 0) && (decide ((l.getD i (0, [])).2.length ≤ 8) && sightsS (l.getD i (0, [])).2))
def knownS (l : List TKnown) : Bool := (List.range' 0 l.length).all (knownP l) && decide (l.length ≤ 96)
structure StWf (s : TState) : Prop where
  h : ∀ x ∈ s.2.2.1, in32 x.1 ∧ x.2.1.length ≤ 140737488355328 ∧ M6ok x.2.2
  hn : s.2.2.1.length ≤ 140737488355328
  w : ∀ x ∈ s.2.2.2.1, in32 x.1.1
  wn : s.2.2.2.1.length ≤ 140737488355328
  k : ∀ x ∈ s.2.2.2.2.1, in32 x.1 ∧ ∀ y ∈ x.2, M6ok y.2.1
  kn : s.2.2.2.2.1.length ≤ 140737488355328
  p : ∀ x ∈ s.2.2.2.2.2.1, in32 x.1
  pn : s.2.2.2.2.2.1.length ≤ 140737488355328
  c : ∀ x ∈ s.2.2.2.2.2.2, in32 x.1
  cn : s.2.2.2.2.2.2.length ≤ 140737488355328
def rightS (s : TState) : Bool :=
  decide (0 ≤ s.1) && (decide (s.1 ≤ 1099511627776) && (decide (0 ≤ s.2.1) && (decide (s.2.1 ≤ 65535) && (heldS s.2.2.1 && (sweepsS s.2.2.2.1 && (knownS s.2.2.2.2.1 && (probesS s.2.2.2.2.2.1 && casesS s.2.2.2.2.2.2)))))))
end Go.Tr
