/- Literals of arrays, structs and slices; made slices; texts as bytes.
   Conditions: none. -/
import Derived.Test.YtbdgfpfafcjmgaaDoorTrG
namespace Go.Tr
open Go
set_option linter.unusedVariables false
set_option linter.unusedSimpArgs false

section
variable {W0 : WX} {okIn B us : Nat → Prop} {tm : Nat → Option AV} {ob : Nat → Option AO} {nt : Nat} {E : Env} {a : Act}

theorem LRs.length {w : World} {ok : Nat → Prop} : ∀ (s : Sh) (x : s.T) (vs : List Value), LRs w ok s x vs → vs.length = s.size
  | .int k, x, vs, h => by simp only [LRs] at h; simp [h, Sh.size]
  | .bool, x, vs, h => by simp only [LRs] at h; simp [h, Sh.size]
  | .str, x, vs, h => by simp only [LRs] at h; simp [h, Sh.size]
  | .unit, x, vs, h => by simp only [LRs] at h; simp [h, Sh.size]
  | .sl e, x, vs, h => by simp only [LRs] at h; obtain ⟨_, _, rfl, _⟩ := h; simp [Sh.size]
  | .arr n e, x, vs, h => by simp only [LRs] at h; simp [Sh.size, h.2.1]
  | .pair p q, x, vs, h => by
    simp only [LRs] at h
    obtain ⟨v1, v2, rfl, h1, h2⟩ := h
    simp [Sh.size, LRs.length p _ _ h1, LRs.length q _ _ h2]

theorem decS_sound : ∀ (s : Sh) {l r : List AV} {t : s.T} {vs : List Value}, decS s l = some (t, r) → VRL E l vs → ∃ v1 v2, vs = v1 ++ v2 ∧ LRs E.w E.ok s t v1 ∧ VRL E r v2
  | .int k, [], r, t, vs, h, hv => by simp [decS] at h
  | .int k, x :: l, r, t, vs, h, hv => by
    simp only [VRL] at hv
    obtain ⟨v, r', rfl, hv1, hr⟩ := hv
    cases x <;> simp only [decS, reduceCtorEq] at h
    split at h
    · rename_i hk
      subst hk
      simp only [Option.some.injEq, Prod.mk.injEq] at h
      obtain ⟨rfl, rfl⟩ := h
      simp only [VR] at hv1
      subst hv1
      exact ⟨[_], r', rfl, by simp [LRs], hr⟩
    · simp at h
  | .bool, [], r, t, vs, h, hv => by simp [decS] at h
  | .bool, x :: l, r, t, vs, h, hv => by
    simp only [VRL] at hv
    obtain ⟨v, r', rfl, hv1, hr⟩ := hv
    cases x <;> simp only [decS, reduceCtorEq] at h
    simp only [Option.some.injEq, Prod.mk.injEq] at h
    obtain ⟨rfl, rfl⟩ := h
    simp only [VR] at hv1
    subst hv1
    exact ⟨[_], r', rfl, by simp [LRs], hr⟩
  | .str, [], r, t, vs, h, hv => by simp [decS] at h
  | .str, x :: l, r, t, vs, h, hv => by
    simp only [VRL] at hv
    obtain ⟨v, r', rfl, hv1, hr⟩ := hv
    cases x <;> simp only [decS, reduceCtorEq] at h
    simp only [Option.some.injEq, Prod.mk.injEq] at h
    obtain ⟨rfl, rfl⟩ := h
    simp only [VR] at hv1
    subst hv1
    exact ⟨[_], r', rfl, by simp [LRs], hr⟩
  | .unit, l, r, t, vs, h, hv => by
    have h' : l = r := by
      have : decS Sh.unit l = some ((), l) := by simp [decS]
      rw [this] at h
      exact (Prod.mk.inj (Option.some.inj h)).2
    subst h'
    exact ⟨[], vs, rfl, by simp [LRs], hv⟩
  | .sl e, [], r, t, vs, h, hv => by simp [decS] at h
  | .sl e, x :: l, r, t, vs, h, hv => by
    simp only [VRL] at hv
    obtain ⟨v, r', rfl, hv1, hr⟩ := hv
    cases x <;> simp only [decS, reduceCtorEq] at h
    case nilsl =>
      simp only [Option.some.injEq, Prod.mk.injEq] at h
      obtain ⟨rfl, rfl⟩ := h
      simp only [VR] at hv1
      subst hv1
      exact ⟨[_], r', rfl, ⟨none, 0, rfl, Nat.le_refl _, .inl rfl⟩, hr⟩
    case fsl e' xs =>
      split at h
      · rename_i he
        subst he
        simp only [Option.some.injEq, Prod.mk.injEq] at h
        obtain ⟨rfl, rfl⟩ := h
        simp only [VR] at hv1
        exact ⟨[_], r', rfl, hv1, hr⟩
      · simp at h
  | .arr n e, l, r, t, vs, h, hv => by cases l <;> simp [decS] at h
  | .pair p q, l, r, t, vs, h, hv => by
    have h' : (match decS p l with
      | some (x, r) => match decS q r with
        | some (y, r') => some (((x, y) : p.T × q.T), r')
        | none => none
      | none => none) = some (t, r) := by
      rw [← h]; cases l <;> simp only [decS] <;> rfl
    split at h'
    · rename_i x1 r1 h1
      split at h'
      · rename_i y1 r2 h2
        simp only [Option.some.injEq, Prod.mk.injEq] at h'
        obtain ⟨rfl, rfl⟩ := h'
        obtain ⟨v1, v2, rfl, g1, g2⟩ := decS_sound p h1 hv
        obtain ⟨v3, v4, rfl, g3, g4⟩ := decS_sound q h2 g2
        exact ⟨v1 ++ v3, v4, by simp, ⟨v1, v3, rfl, g1, g3⟩, g4⟩
      · simp at h'
    · simp at h'

theorem decS_all {s : Sh} {l : List AV} {t : s.T} {vs : List Value} (h : decS s l = some (t, [])) (hv : VRL E l vs) : LRs E.w E.ok s t vs := by
  obtain ⟨v1, v2, rfl, h1, h2⟩ := decS_sound s h hv
  simp only [VRL] at h2
  subst h2
  simpa using h1

/-! ### Cells laid over others -/

theorem foldl_set (off : Nat) : ∀ (vs : List Value) (k : Nat) (cs : Array Value), off + k + vs.length ≤ cs.size →
    ((vs.zipIdx k).foldl (fun cs (p : Value × Nat) => cs.setIfInBounds (off + p.2) p.1) cs).toList = cs.toList.take (off + k) ++ vs ++ cs.toList.drop (off + k + vs.length)
  | [], k, cs, h => by simp
  | v :: r, k, cs, h => by
    simp only [List.length_cons] at h
    have ih := foldl_set off r (k + 1) (cs.setIfInBounds (off + k) v) (by simp; omega)
    simp only [List.zipIdx_cons, List.foldl_cons, ih, Array.toList_setIfInBounds, List.length_cons]
    have e := list_seg_step cs.toList (off + k) v r (by simp; omega)
    simpa [Nat.add_assoc, Nat.add_comm, Nat.add_left_comm] using e

theorem laid_eq (off : Nat) (x : Value) (cs : Array Value) (h : off + x.cells.size ≤ cs.size) :
    (x.cells.zipIdx.foldl (fun cs (p : Value × Nat) => cs.setIfInBounds (off + p.2) p.1) cs).toList = cs.toList.take off ++ x.cells.toList ++ cs.toList.drop (off + x.cells.size) := by
  have := foldl_set off x.cells.toList 0 cs (by simpa using h)
  simp only [Nat.add_zero, Array.length_toList] at this
  rw [← this]
  congr 1
  rw [← Array.foldl_toList, Array.toList_zipIdx]

theorem setAtA_eq {off : Nat} {vs cells l : List AV} (h : setAtA off vs cells = some l) : off + vs.length ≤ cells.length ∧ l = cells.take off ++ vs ++ cells.drop (off + vs.length) := by
  unfold setAtA at h
  split at h
  · rename_i hb
    simp only [lenA_eq] at hb
    simp only [Option.some.injEq, appA_eq, takeA_eq, dropA_eq, lenA_eq] at h
    exact ⟨Nat.le_of_ble_eq_true hb, by rw [← h]; simp⟩
  · simp at h

theorem setAtA_sound {off : Nat} {vs cells l : List AV} (h : setAtA off vs cells = some l) {xs cs : List Value} (hv : VRL E vs xs) (hc : VRL E cells cs) :
    VRL E l (cs.take off ++ xs ++ cs.drop (off + xs.length)) := by
  obtain ⟨h1, rfl⟩ := setAtA_eq h
  rw [hv.length]
  exact ((hc.take off).append hv).append (hc.drop _)

theorem setAtA_nms {off : Nat} {vs cells l : List AV} (h : setAtA off vs cells = some l) {p : Nat → Prop} (hv : AV.nms p vs) (hc : AV.nms p cells) : AV.nms p l := by
  obtain ⟨h1, rfl⟩ := setAtA_eq h
  exact nms_append (nms_append (nms_take _ hc) hv) (nms_drop _ hc)

/-- The values of parts. -/
def VRP (E : Env) : List (Nat × AV) → List (Nat × Value) → Prop
  | [], vs => vs = []
  | (i, a) :: l, vs => ∃ v r, vs = (i, v) :: r ∧ VR E a v ∧ VRP E l r

def nmp (p : Nat → Prop) : List (Nat × AV) → Prop
  | [] => True
  | (_, a) :: l => a.nm p ∧ nmp p l

theorem fep_sound {α : Type} (hs : SimE W0 okIn B us tm ob nt E a) : ∀ {xs : List (Nat × Operand)} {k : List Prop → List (Nat × AV) → Option α} {r : α}, fep tm xs k = some r →
    ∃ p vs, k p vs = some r ∧ ((∀ q ∈ p, q) → VRP E vs (xs.map fun x => (x.1, a.eval x.2))) ∧ ((∀ q ∈ p, q) → nmp us vs)
  | [], k, r, h => ⟨[], [], h, fun _ => by simp [VRP], fun _ => by simp [nmp]⟩
  | (i, x) :: xs, k, r, h => by
    simp only [fep] at h
    obtain ⟨p, v, h1, h2, h3⟩ := fe_sound hs h
    obtain ⟨q, vs, g1, g2, g3⟩ := fep_sound hs h1
    refine ⟨p ++ q, (i, v) :: vs, g1, fun hq => ?_, fun hq => ⟨h3 fun r hr => hq r (by simp [hr]), g3 fun r hr => hq r (by simp [hr])⟩⟩
    simp only [List.map_cons, VRP]
    exact ⟨_, _, rfl, h2 fun r hr => hq r (by simp [hr]), g2 fun r hr => hq r (by simp [hr])⟩

theorem fillA_sound {place placeM : Nat → Option (Nat × Nat)} (hp : ∀ i x, place i = some x → placeM i = some x) : ∀ {l : List (Nat × AV)} {vs : List (Nat × Value)} {cells l' : List AV} {cs : Array Value},
    fillA place cells l = some l' → VRP E l vs → VRL E cells cs.toList → ∃ cs', Instr.fill placeM cs vs = some cs' ∧ VRL E l' cs'.toList
  | [], vs, cells, l', cs, h, hv, hc => by
    simp only [VRP] at hv
    simp only [fillA, Option.some.injEq] at h
    subst hv; subst h
    exact ⟨cs, by simp [Instr.fill], hc⟩
  | (i, x) :: l, vs, cells, l', cs, h, hv, hc => by
    simp only [VRP] at hv
    obtain ⟨v, r, rfl, hv1, hr⟩ := hv
    unfold fillA at h
    split at h
    · rename_i off size cs1 hpl hcs1
      split at h
      · rename_i cells' hb hset
        obtain ⟨g1, g2, g3⟩ := cellsA_sound hcs1 hv1
        have hlen := g1.length
        have hsz : v.cells.size = size := by
          have := beq_true hb
          rw [lenA_eq] at this
          simp at hlen
          omega
        have hle := (setAtA_eq hset).1
        have hcl := hc.length
        have hsound := setAtA_sound hset g1 hc
        have hbound : off + v.cells.size ≤ cs.size := by simp at hcl hlen; omega
        have heq := laid_eq off v cs hbound
        obtain ⟨cs', hf, hres⟩ := fillA_sound hp (cs := v.cells.zipIdx.foldl (fun cs (p : Value × Nat) => cs.setIfInBounds (off + p.2) p.1) cs) h hr (by rw [heq]; simpa using hsound)
        refine ⟨cs', ?_, hres⟩
        simp only [Instr.fill, hp _ _ hpl]
        rw [if_neg (by simp [hsz]; omega)]
        exact hf
      · simp at h
    · simp at h

theorem fillA_nms {place : Nat → Option (Nat × Nat)} {p : Nat → Prop} (hcl : ∀ (v : AV) (cs : List AV), cellsA v = some cs → v.nm p → AV.nms p cs) : ∀ {l : List (Nat × AV)} {cells l' : List AV}, fillA place cells l = some l' → nmp p l → AV.nms p cells → AV.nms p l'
  | [], cells, l', h, _, hc => by simp only [fillA, Option.some.injEq] at h; exact h ▸ hc
  | (i, x) :: l, cells, l', h, hn, hc => by
    unfold fillA at h
    split at h
    · rename_i off size cs1 hpl hcs1
      split at h
      · rename_i cells' hb hset
        simp only [nmp] at hn
        exact fillA_nms hcl h hn.2 (setAtA_nms hset (hcl _ _ hcs1 hn.1) hc)
      · simp at h
    · simp at h

theorem cellsA_nms {v : AV} {cs : List AV} {p : Nat → Prop} (h : cellsA v = some cs) (hn : v.nm p) : AV.nms p cs := by
  unfold cellsA at h
  split at h
  · split at h
    · simp only [Option.some.injEq] at h; subst h; exact hn
    · simp at h
  · split at h
    · simp only [Option.some.injEq] at h; subst h; exact ⟨hn, trivial⟩
    · simp at h

end
end Go.Tr
