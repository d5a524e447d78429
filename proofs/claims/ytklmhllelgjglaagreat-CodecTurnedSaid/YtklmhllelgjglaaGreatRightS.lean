/- Rows of a state: when they are right. Rows of a state: when they are right: prefixes that are swept, sightings, cases. Rows of a state: sightings; a state that is right. Conditions: none but those that each theorem states. -/
import Derived.Test.YtklmhllelgjglaaGreatCodecS
import Derived.Test.YtklmhllelgjglaaGreatCodec2D
namespace Go.Tr
open Go
set_option linter.unusedVariables false
set_option linter.unusedSimpArgs false
set_option maxRecDepth 100000
set_option maxHeartbeats 4000000
theorem recD {α : Type} (z : α) (o : Option α) : Option.rec (motive := fun _ => α) z (fun v => v) o = o.getD z := by cases o <;> rfl
theorem getD_toNat {α : Type} (l : List α) (i : Nat) (z : α) : (l[(i : Int).toNat]?).getD z = l.getD i z := by simp [List.getD_eq_getElem?_getD]
theorem getD_pred {α : Type} (l : List α) (i : Nat) (h : 0 < i) (z : α) : (l[((i : Int) - 1).toNat]?).getD z = l.getD (i - 1) z := by
  rw [show ((i : Int) - 1).toNat = i - 1 from by omega]; simp [List.getD_eq_getElem?_getD]
def clampS (n : Int) : Int := if n < 0 then 0 else if n > 1099511627776 then 1099511627776 else n
theorem clamp_eq' (n : Int) : clock_Clamp n = some (clampS n, ()) := clamp_eq
theorem row_loop {α X : Type} (f : (List α × List α × Int × Int × Unit) → Option ((List α × List α × Int × Int × Unit) ⊕ ((List α × Unit) ⊕ (Bool × Unit)))) (l : List α) (p : Nat → Bool)
    (h : ∀ i, i < l.length → f (l, l, (l.length : Int), (i : Int), ()) = cnd (p i) (some (.inl (l, l, (l.length : Int), ((i + 1 : Nat) : Int), ()))) (some (.inr (.inr (false, ())))))
    (he : f (l, l, (l.length : Int), (l.length : Int), ()) = some (.inr (.inl (l, ())))) :
    loopM f (l, l, (l.length : Int), 0, ()) = some (if (List.range' 0 l.length).all p = true then .inl (l, ()) else .inr (false, ())) := by
  have := loopM_all (f := f) (fun i => (l, l, (l.length : Int), (i : Int), ())) p (.inr (false, ())) (.inl (l, ())) l.length (fun i hi => by rw [h i hi, cnd_ite]) he l.length 0 (by omega)
  exact this
def heldP (l : List THold) (i : Nat) : Bool := mayS (l.getD i zHold).2.1 && (decide (i = 0) || decide ((l.getD (i - 1) zHold).1 < (l.getD i zHold).1))
def heldS (l : List THold) : Bool := (List.range' 0 l.length).all (heldP l) && decide (l.length ≤ 48)
theorem held_body {l : List THold} (hl : ∀ h ∈ l, h.2.1.length ≤ 140737488355328) (hn : l.length ≤ 140737488355328) (i : Nat) (hi : i < l.length) :
    held_Right_b0 l l (l.length : Int) (i : Int) = cnd (heldP l i) (some (.inl (l, l, (l.length : Int), ((i + 1 : Nat) : Int), ()))) (some (.inr (.inr (false, ())))) := by
  unfold held_Right_b0
  have ho : (l.getD i zHold).2.1.length ≤ 140737488355328 := by
    rw [List.getD_eq_getElem?_getD, List.getElem?_eq_getElem hi]; exact hl _ (List.getElem_mem hi)
  rw [decide_eq_true (by omega), cnd_true, chk_pos (by omega)]
  simp only [ltO_def, recD, getD_toNat, chk_same, chk_nn]
  rw [May_eq ho]
  simp only [bnd_val]
  rw [w64 (n := (i : Int) - 1) (by omega) (by omega), w64 (n := (i : Int) + 1) (by omega) (by omega)]
  unfold heldP
  cases hm : mayS (l.getD i zHold).2.1 with
  | false => simp [chk]
  | true =>
    by_cases h0 : i = 0
    · subst h0; simp [chk]
    · rw [getD_pred l i (by omega)]
      generalize l.getD (i - 1) zHold = y
      generalize l.getD i zHold = x
      have d1 : decide ((i : Int) > 0) = true := decide_eq_true (by omega)
      rw [d1]
      simp only [Bool.not_true, Bool.not_false, Bool.true_and, Bool.and_true, Bool.false_or]
      rw [chk_pos (by intro _; omega)]
      by_cases hc : y.1 < x.1
      · have d2 : decide (y.1 ≥ x.1) = false := decide_eq_false (by omega)
        have d3 : decide (y.1 < x.1) = true := decide_eq_true hc
        rw [d2, d3]
        simp [chk, h0]
      · have d2 : decide (y.1 ≥ x.1) = true := decide_eq_true (by omega)
        have d3 : decide (y.1 < x.1) = false := decide_eq_false hc
        rw [d2, d3]
        simp [chk, h0]
theorem held_eq {l : List THold} (hl : ∀ h ∈ l, h.2.1.length ≤ 140737488355328) (hn : l.length ≤ 140737488355328) : held_Right l = some (heldS l, ()) := by
  unfold held_Right held_Right_l0
  rw [row_loop (X := Unit) _ l (heldP l) (fun i hi => held_body hl hn i hi) (by
    show held_Right_b0 l l (l.length : Int) (l.length : Int) = _
    unfold held_Right_b0
    rw [decide_eq_false (by omega)]; rfl)]
  unfold heldS
  cases (List.range' 0 l.length).all (heldP l) with
  | false => rfl
  | true =>
    simp only [if_true, bnd_val, sumO_inl, Bool.true_and]
    congr 2
    rw [show decide (((l.length : Nat) : Int) ≤ 48) = decide (l.length ≤ 48) from by simp; omega]
def probeP (l : List TProbe) (i : Nat) : Bool :=
  let p := l.getD i (0, 0, 0, 0, 0)
  decide (p.2.1 = p.1 % 65536) && (decide (0 ≤ p.2.2.1) && decide (p.2.2.1 ≤ 65535) && (decide (p.2.2.2.1 = clampS p.2.2.2.1) && (decide (0 ≤ p.2.2.2.2) && decide (p.2.2.2.2 ≤ 8)))) && !((l.take i).any fun x => x.1 == p.1)
def probesS (l : List TProbe) : Bool := (List.range' 0 l.length).all (probeP l) && decide (l.length ≤ 16)
def idxS {α : Type} (p : α → Bool) : List α → Nat → Int
  | [], _ => -1
  | x :: l, k => if p x = true then (k : Int) else idxS p l (k + 1)
theorem idxS_pos {α : Type} {p : α → Bool} {x : α} {l : List α} {k : Nat} (h : p x = true) : idxS p (x :: l) k = (k : Int) := by
  unfold idxS; rw [if_pos h]
theorem idxS_next {α : Type} {p : α → Bool} {x : α} {l : List α} {k : Nat} (h : ¬ p x = true) : idxS p (x :: l) k = idxS p l (k + 1) := by
  conv => lhs; unfold idxS
  rw [if_neg h]
theorem idxS_iff {α : Type} {p : α → Bool} : ∀ {l : List α} {k : Nat}, 0 ≤ idxS p l k ↔ l.any p = true
  | [], k => by simp [idxS]
  | x :: l, k => by
    have ih := idxS_iff (p := p) (l := l) (k := k + 1)
    simp only [List.any_cons, Bool.or_eq_true]
    by_cases h : p x = true
    · rw [idxS_pos h]; simp [h]
    · rw [idxS_next h, ih]; simp [h]
def idxR (v : Int) : Unit ⊕ (Int × Unit) := if v = -1 then .inl () else .inr (v, ())
theorem idxS_neg {α : Type} {p : α → Bool} {l : List α} {k : Nat} : (decide (idxS p l k ≥ 0)) = l.any p := by
  rw [Bool.eq_iff_iff, decide_eq_true_eq]
  exact idxS_iff
theorem indexP_loop (l : List TProbe) (x : TProbe) (hn : l.length ≤ 140737488355328) : ∀ (m k : Nat), k + m = l.length →
    slices_IndexFunc_l0 (l, x, (l.length : Int), (k : Int), ()) = some (idxR (idxS (fun y : TProbe => y.1 == x.1) (l.drop k) k))
  | 0, k, hk => by
    unfold slices_IndexFunc_l0
    rw [List.drop_of_length_le (by omega)]
    rw [loopM_last (y := .inl ())]
    · rfl
    · show slices_IndexFunc_b0 l x (l.length : Int) (k : Int) = _
      unfold slices_IndexFunc_b0
      rw [decide_eq_false (by omega)]; rfl
  | m + 1, k, hk => by
    have hkl : k < l.length := by omega
    have ih := indexP_loop l x hn m (k + 1) (by omega)
    rw [List.drop_eq_getElem_cons hkl]
    unfold slices_IndexFunc_l0 at ih ⊢
    have hb : slices_IndexFunc_b0 l x (l.length : Int) (k : Int) = if (l[k].1 == x.1) = true then some (.inr (.inr ((k : Int), ()))) else some (.inl (l, x, (l.length : Int), ((k + 1 : Nat) : Int), ())) := by
      unfold slices_IndexFunc_b0
      rw [decide_eq_true (by omega), cnd_true, chk_pos (by omega)]
      simp only [ltO_def, recD, getD_toNat]
      have : l.getD k (0, 0, 0, 0, 0) = l[k] := by rw [List.getD_eq_getElem?_getD, List.getElem?_eq_getElem hkl]; rfl
      rw [this]
      unfold probe_Right_1
      simp only [ltO_def, bnd_val, cnd_ite]
      rw [w64 (by omega) (by omega)]; rfl
    by_cases h : (l[k].1 == x.1) = true
    · rw [if_pos h] at hb
      rw [loopM_last (y := .inr ((k : Int), ())) hb, idxS_pos (p := fun y : TProbe => y.1 == x.1) h]
      unfold idxR; rw [if_neg (by omega)]
    · rw [if_neg h] at hb
      rw [loopM_next (s' := (l, x, (l.length : Int), ((k + 1 : Nat) : Int), ())) hb, ih, idxS_next (p := fun y : TProbe => y.1 == x.1) h]
theorem containsP_eq (l : List TProbe) (x : TProbe) (hn : l.length ≤ 140737488355328) : slices_ContainsFunc l x = some (l.any fun y => y.1 == x.1, ()) := by
  unfold slices_ContainsFunc slices_IndexFunc
  have L := indexP_loop l x hn l.length 0 (by omega)
  have L' : slices_IndexFunc_l0 (l, x, (l.length : Int), 0, ()) = _ := L
  rw [L', List.drop_zero]
  have hi := idxS_neg (p := fun y : TProbe => y.1 == x.1) (l := l) (k := 0)
  rw [← hi]
  generalize idxS (fun y : TProbe => y.1 == x.1) l 0 = v
  unfold idxR
  by_cases h : v = -1
  · subst h; rfl
  · rw [if_neg h]; rfl
theorem probe_body {l : List TProbe} (hl : ∀ p ∈ l, in32 p.1) (hn : l.length ≤ 140737488355328) (i : Nat) (hi : i < l.length) :
    probe_Right_b0 l l (l.length : Int) (i : Int) = cnd (probeP l i) (some (.inl (l, l, (l.length : Int), ((i + 1 : Nat) : Int), ()))) (some (.inr (.inr (false, ())))) := by
  unfold probe_Right_b0
  have hp : in32 (l.getD i (0, 0, 0, 0, 0)).1 := by
    rw [List.getD_eq_getElem?_getD, List.getElem?_eq_getElem hi]; exact hl _ (List.getElem_mem hi)
  rw [decide_eq_true (by omega), cnd_true, chk_pos (by omega)]
  simp only [ltO_def, recD, getD_toNat, chk_same, chk_nn]
  unfold probeP
  simp only
  generalize l.getD i (0, 0, 0, 0, 0) = p at hp
  have h0 := hp.1
  have h1 := hp.2
  have hb : bandI .u32 p.1 65535 = p.1 % 65536 := band_mask (k := .u32) 16 h0 rfl (by show 16 ≤ 32; omega)
  rw [hb, wu32 (by omega) (by omega), w64 (n := p.1 % 65536) (by omega) (by omega), clamp_eq', w64 (n := (i : Int) + 1) (by omega) (by omega)]
  simp only [bndG_val, chk_same, chk_nn]
  have hs : sliceA 0 (i : Int).toNat l = l.take i := by simp [sliceA]
  rw [hs, containsP_eq _ _ (by rw [List.length_take]; omega), cnd_ite]
  simp only [bnd_val]
  by_cases hg : p.2.1 = p.1 % 65536 ∧ 0 ≤ p.2.2.1 ∧ p.2.2.1 ≤ 65535 ∧ p.2.2.2.1 = clampS p.2.2.2.1 ∧ 0 ≤ p.2.2.2.2 ∧ p.2.2.2.2 ≤ 8
  · obtain ⟨g1, g2, g3, g4, g5, g6⟩ := hg
    rw [if_neg (by simp [← g1, ← g4]; omega), chk_pos (by omega)]
    have : (decide (p.2.1 = p.1 % 65536) && (decide (0 ≤ p.2.2.1) && decide (p.2.2.1 ≤ 65535) && (decide (p.2.2.2.1 = clampS p.2.2.2.1) && (decide (0 ≤ p.2.2.2.2) && decide (p.2.2.2.2 ≤ 8))))) = true := by
      simp [← g1, ← g4, g2, g3, g5, g6]
    rw [this, Bool.true_and]
    cases hany : (l.take i).any fun y => y.1 == p.1 with
    | true => rfl
    | false => rfl
  · have hf : (decide (p.2.1 = p.1 % 65536) && (decide (0 ≤ p.2.2.1) && decide (p.2.2.1 ≤ 65535) && (decide (p.2.2.2.1 = clampS p.2.2.2.1) && (decide (0 ≤ p.2.2.2.2) && decide (p.2.2.2.2 ≤ 8))))) = false := by
      rw [← Bool.not_eq_true]
      intro hx
      simp only [Bool.and_eq_true, decide_eq_true_eq] at hx
      obtain ⟨g1, ⟨g2, g3⟩, g4, g5, g6⟩ := hx
      exact hg ⟨g1, g2, g3, g4, g5, g6⟩
    rw [hf, Bool.false_and, cnd_false, if_pos]
    apply Classical.byContradiction
    intro hx
    apply hg
    simp only [Bool.or_eq_true, decide_eq_true_eq, bne_iff_ne, ne_eq, not_or, Decidable.not_not] at hx
    obtain ⟨⟨⟨⟨⟨g1, g2⟩, g3⟩, g4⟩, g5⟩, g6⟩ := hx
    exact ⟨g1, by omega, by omega, g4, by omega, by omega⟩
theorem probes_eq {l : List TProbe} (hl : ∀ p ∈ l, in32 p.1) (hn : l.length ≤ 140737488355328) : probe_Right l = some (probesS l, ()) := by
  unfold probe_Right probe_Right_l0
  rw [row_loop (X := Unit) _ l (probeP l) (fun i hi => probe_body hl hn i hi) (by
    show probe_Right_b0 l l (l.length : Int) (l.length : Int) = _
    unfold probe_Right_b0
    rw [decide_eq_false (by omega)]; rfl)]
  unfold probesS
  cases (List.range' 0 l.length).all (probeP l) with
  | false => rfl
  | true =>
    simp only [if_true, bnd_val, sumO_inl, Bool.true_and]
    congr 2
    rw [show decide (((l.length : Nat) : Int) ≤ 16) = decide (l.length ≤ 16) from by simp; omega]
end Go.Tr
namespace Go.Tr
open Go
set_option linter.unusedVariables false
set_option linter.unusedSimpArgs false
set_option maxRecDepth 100000
set_option maxHeartbeats 4000000
def sweep1 (s : TSweep) : Bool := rB s.1 && (decide (szB s.1 ≤ 256) && (decide (s.2.1 = clampS s.2.1) && (decide (0 ≤ s.2.2) && decide (s.2.2 < szB s.1))))
def sweep2 (t s : TSweep) : Bool := decide (t.1.1 < s.1.1) && !(wiB t.1 s.1 || wiB s.1 t.1)
def sweepP (l : List TSweep) (i : Nat) : Bool := sweep1 (l.getD i zSweep) && (decide (i = 0) || sweep2 (l.getD (i - 1) zSweep) (l.getD i zSweep))
def sweepsS (l : List TSweep) : Bool := (List.range' 0 l.length).all (sweepP l) && decide (l.length ≤ 16)
theorem getD_in {α : Type} {p : α → Prop} {l : List α} (h : ∀ x ∈ l, p x) {i : Nat} (hi : i < l.length) (z : α) : p (l.getD i z) := by
  rw [List.getD_eq_getElem?_getD, List.getElem?_eq_getElem hi]; exact h _ (List.getElem_mem hi)
theorem sweep_body {l : List TSweep} (hl : ∀ s ∈ l, in32 s.1.1) (hn : l.length ≤ 140737488355328) (i : Nat) (hi : i < l.length) :
    sweep_Right_b0 l l (l.length : Int) (i : Int) = cnd (sweepP l i) (some (.inl (l, l, (l.length : Int), ((i + 1 : Nat) : Int), ()))) (some (.inr (.inr (false, ())))) := by
  unfold sweep_Right_b0
  have hs : in32 (l.getD i zSweep).1.1 := getD_in (p := fun s : TSweep => in32 s.1.1) hl hi zSweep
  have ht : in32 (l.getD (i - 1) zSweep).1.1 := getD_in (p := fun s : TSweep => in32 s.1.1) hl (by omega) zSweep
  rw [decide_eq_true (by omega), cnd_true, chk_pos (by omega)]
  simp only [ltO_def, recD, getD_toNat, chk_same, chk_nn]
  unfold sweepP
  rw [Right_eq hs, Size_eq hs, clamp_eq', w64 (n := (i : Int) - 1) (by omega) (by omega), w64 (n := (i : Int) + 1) (by omega) (by omega)]
  simp only [bnd_val, bndG_val, chk_same, chk_nn]
  by_cases h0 : i = 0
  · subst h0
    generalize l.getD 0 zSweep = s at hs ⊢
    have d0 : decide (((0 : Nat) : Int) > 0) = false := decide_eq_false (by omega)
    rw [d0]
    simp only [Bool.false_and, decide_true, Bool.true_or, Bool.and_true, bndG_false, cnd_false]
    rw [chk_pos (by simp), chk_pos (by simp)]
    have e : (!rB s.1 || decide (szB s.1 > 256) || s.2.1 != clampS s.2.1 || decide (s.2.2 < 0) || decide (s.2.2 ≥ szB s.1)) = !sweep1 s := by
      unfold sweep1
      rw [Bool.eq_iff_iff]
      simp only [Bool.or_eq_true, Bool.not_eq_true', Bool.and_eq_false_iff, decide_eq_true_eq, decide_eq_false_iff_not, bne_iff_ne, ne_eq]
      constructor
      · rintro ((((h | h) | h) | h) | h)
        · exact .inl h
        · exact .inr (.inl (by omega))
        · exact .inr (.inr (.inl h))
        · exact .inr (.inr (.inr (.inl (by omega))))
        · exact .inr (.inr (.inr (.inr (by omega))))
      · rintro (h | h | h | h | h)
        · exact .inl (.inl (.inl (.inl h)))
        · exact .inl (.inl (.inl (.inr (by omega))))
        · exact .inl (.inl (.inr h))
        · exact .inl (.inr (by omega))
        · exact .inr (by omega)
    rw [e]
    cases sweep1 s <;> simp [chk]
  · rw [getD_pred l i (by omega)]
    generalize l.getD (i - 1) zSweep = t at ht ⊢
    generalize l.getD i zSweep = s at hs ⊢
    have d0 : decide ((i : Int) > 0) = true := decide_eq_true (by omega)
    have d1 : decide (i = 0) = false := decide_eq_false h0
    rw [d0, d1, Overlap_eq ht hs]
    simp only [Bool.true_and, Bool.false_or, bndG_val, chk_same]
    have e : (!rB s.1 || decide (szB s.1 > 256) || s.2.1 != clampS s.2.1 || decide (s.2.2 < 0) || decide (s.2.2 ≥ szB s.1)) = !sweep1 s := by
      unfold sweep1
      rw [Bool.eq_iff_iff]
      simp only [Bool.or_eq_true, Bool.not_eq_true', Bool.and_eq_false_iff, decide_eq_true_eq, decide_eq_false_iff_not, bne_iff_ne, ne_eq]
      constructor
      · rintro ((((h | h) | h) | h) | h)
        · exact .inl h
        · exact .inr (.inl (by omega))
        · exact .inr (.inr (.inl h))
        · exact .inr (.inr (.inr (.inl (by omega))))
        · exact .inr (.inr (.inr (.inr (by omega))))
      · rintro (h | h | h | h | h)
        · exact .inl (.inl (.inl (.inl h)))
        · exact .inl (.inl (.inl (.inr (by omega))))
        · exact .inl (.inl (.inr h))
        · exact .inl (.inr (by omega))
        · exact .inr (by omega)
    have e2 : (decide (t.1.1 ≥ s.1.1) || (wiB t.1 s.1 || wiB s.1 t.1)) = !sweep2 t s := by
      unfold sweep2
      rw [Bool.eq_iff_iff]
      simp only [Bool.or_eq_true, Bool.not_eq_true', Bool.and_eq_false_iff, decide_eq_true_eq, decide_eq_false_iff_not, Bool.not_eq_false']
      constructor
      · rintro (h | h)
        · exact .inl (by omega)
        · exact .inr h
      · rintro (h | h)
        · exact .inl (by omega)
        · exact .inr h
    rw [e, e2, chk_pos (by intro _; omega), chk_pos (by intro _; omega)]
    cases sweep1 s <;> cases sweep2 t s <;> simp [chk]
theorem sweeps_eq {l : List TSweep} (hl : ∀ s ∈ l, in32 s.1.1) (hn : l.length ≤ 140737488355328) : sweep_Right l = some (sweepsS l, ()) := by
  unfold sweep_Right sweep_Right_l0
  rw [row_loop (X := Unit) _ l (sweepP l) (fun i hi => sweep_body hl hn i hi) (by
    show sweep_Right_b0 l l (l.length : Int) (l.length : Int) = _
    unfold sweep_Right_b0
    rw [decide_eq_false (by omega)]; rfl)]
  unfold sweepsS
  cases (List.range' 0 l.length).all (sweepP l) with
  | false => rfl
  | true =>
    simp only [if_true, bnd_val, sumO_inl, Bool.true_and]
    congr 2
    rw [show decide (((l.length : Nat) : Int) ≤ 16) = decide (l.length ≤ 16) from by simp; omega]
def openS (c : TCase) : Bool := c.2.2.2 == 0 || c.2.2.2 == 1
theorem open_eq (c : TCase) : cases_Open c = some (openS c, ()) := by
  unfold cases_Open
  simp only [ltO_def, chk_same, chk_nn]; rfl
theorem indexC_loop (l : List TCase) (a : Int) (hn : l.length ≤ 140737488355328) : ∀ (m k : Nat), k + m = l.length →
    slices_IndexFunc_v1_l0 (l, a, (l.length : Int), (k : Int), ()) = some (idxR (idxS (fun c : TCase => c.1 == a && openS c) (l.drop k) k))
  | 0, k, hk => by
    unfold slices_IndexFunc_v1_l0
    rw [List.drop_of_length_le (by omega)]
    rw [loopM_last (y := .inl ())]
    · rfl
    · show slices_IndexFunc_v1_b0 l a (l.length : Int) (k : Int) = _
      unfold slices_IndexFunc_v1_b0
      rw [decide_eq_false (by omega)]; rfl
  | m + 1, k, hk => by
    have hkl : k < l.length := by omega
    have ih := indexC_loop l a hn m (k + 1) (by omega)
    rw [List.drop_eq_getElem_cons hkl]
    unfold slices_IndexFunc_v1_l0 at ih ⊢
    have hb : slices_IndexFunc_v1_b0 l a (l.length : Int) (k : Int) = cnd (l[k].1 == a && openS l[k]) (some (.inr (.inr ((k : Int), ())))) (some (.inl (l, a, (l.length : Int), ((k + 1 : Nat) : Int), ()))) := by
      unfold slices_IndexFunc_v1_b0
      rw [decide_eq_true (by omega), cnd_true, chk_pos (by omega)]
      simp only [ltO_def, recD, getD_toNat]
      have : l.getD k (0, 0, 0, 0) = l[k] := by rw [List.getD_eq_getElem?_getD, List.getElem?_eq_getElem hkl]; rfl
      rw [this]
      unfold cases_Find_1
      rw [open_eq]
      simp only [ltO_def, bnd_val, bndG_val, chk_same]
      rw [w64 (by omega) (by omega)]; rfl
    by_cases h : (l[k].1 == a && openS l[k]) = true
    · rw [h, cnd_true] at hb
      rw [loopM_last (y := .inr ((k : Int), ())) hb, idxS_pos (p := fun c : TCase => c.1 == a && openS c) h]
      unfold idxR; rw [if_neg (by omega)]
    · rw [Bool.not_eq_true] at h
      rw [h, cnd_false] at hb
      rw [loopM_next (s' := (l, a, (l.length : Int), ((k + 1 : Nat) : Int), ())) hb, ih, idxS_next (p := fun c : TCase => c.1 == a && openS c) (by simp [h])]
def findC (l : List TCase) (a : Int) : Int := idxS (fun c : TCase => c.1 == a && openS c) l 0
theorem find_eq (l : List TCase) (a : Int) (hn : l.length ≤ 140737488355328) : cases_Find l a = some (findC l a, ()) := by
  unfold cases_Find slices_IndexFunc_v1
  have L := indexC_loop l a hn l.length 0 (by omega)
  have L' : slices_IndexFunc_v1_l0 (l, a, (l.length : Int), 0, ()) = _ := L
  rw [L', List.drop_zero]
  unfold findC
  generalize idxS (fun c : TCase => c.1 == a && openS c) l 0 = v
  unfold idxR
  by_cases h : v = -1
  · subst h; rfl
  · rw [if_neg h]; rfl
def case1 (l : List TCase) (i : Nat) (c : TCase) : Bool :=
  decide (0 ≤ c.2.2.2) && (decide (c.2.2.2 ≤ 5) && (decide (c.2.1 = clampS c.2.1) && (decide (c.2.2.1 = clampS c.2.2.1) && (if openS c = true then decide (c.2.2.1 = 0) && decide (findC l c.1 = (i : Int)) else decide (c.2.1 ≤ c.2.2.1)))))
def caseP (l : List TCase) (i : Nat) : Bool := case1 l i (l.getD i (0, 0, 0, 0))
def casesS (l : List TCase) : Bool := (List.range' 0 l.length).all (caseP l) && decide (l.length ≤ 16)
theorem case_body {l : List TCase} (hn : l.length ≤ 140737488355328) (i : Nat) (hi : i < l.length) :
    cases_Right_b0 l l (l.length : Int) (i : Int) = cnd (caseP l i) (some (.inl (l, l, (l.length : Int), ((i + 1 : Nat) : Int), ()))) (some (.inr (.inr (false, ())))) := by
  unfold cases_Right_b0
  rw [decide_eq_true (by omega), cnd_true, chk_pos (by omega)]
  simp only [ltO_def, recD, getD_toNat, chk_same, chk_nn]
  unfold caseP
  generalize l.getD i (0, 0, 0, 0) = c
  rw [clamp_eq', clamp_eq', open_eq, find_eq _ _ hn, w64 (n := (i : Int) + 1) (by omega) (by omega)]
  simp only [bndG_val, chk_same, chk_nn]
  have key : ∀ b x y : Bool, (b = true → x = false → (b && !x) = true) := by intro b x y h1 h2; rw [h1, h2]; rfl
  have key2 : ∀ b x : Bool, (b = true → x = true → (b && x) = true) := by intro b x h1 h2; rw [h1, h2]; rfl
  rw [chk_pos (key _ _ true), chk_pos (key2 _ _), chk_pos (key2 _ _)]
  have e : ((decide (c.2.2.2 < 0) || decide (c.2.2.2 > 5) || c.2.1 != clampS c.2.1 || c.2.2.1 != clampS c.2.2.1) || openS c && (c.2.2.1 != 0 || findC l c.1 != (i : Int)) || !openS c && decide (c.2.2.1 < c.2.1)) = !case1 l i c := by
    unfold case1
    rw [Bool.eq_iff_iff]
    cases ho : openS c with
    | true =>
      simp only [Bool.true_and, Bool.not_true, Bool.false_and, Bool.or_false, if_true, Bool.or_eq_true, Bool.not_eq_true', Bool.and_eq_false_iff, decide_eq_true_eq, decide_eq_false_iff_not, bne_iff_ne, ne_eq]
      constructor
      · rintro ((((h | h) | h) | h) | h | h)
        · exact .inl (by omega)
        · exact .inr (.inl (by omega))
        · exact .inr (.inr (.inl h))
        · exact .inr (.inr (.inr (.inl h)))
        · exact .inr (.inr (.inr (.inr (.inl h))))
        · exact .inr (.inr (.inr (.inr (.inr h))))
      · rintro (h | h | h | h | h | h)
        · exact .inl (.inl (.inl (.inl (by omega))))
        · exact .inl (.inl (.inl (.inr (by omega))))
        · exact .inl (.inl (.inr h))
        · exact .inl (.inr h)
        · exact .inr (.inl h)
        · exact .inr (.inr h)
    | false =>
      simp only [Bool.true_and, Bool.not_false, Bool.false_and, Bool.or_false, Bool.false_eq_true, if_false, Bool.or_eq_true, Bool.not_eq_true', Bool.and_eq_false_iff, decide_eq_true_eq, decide_eq_false_iff_not, bne_iff_ne, ne_eq]
      constructor
      · rintro ((((h | h) | h) | h) | h)
        · exact .inl (by omega)
        · exact .inr (.inl (by omega))
        · exact .inr (.inr (.inl h))
        · exact .inr (.inr (.inr (.inl h)))
        · exact .inr (.inr (.inr (.inr (by omega))))
      · rintro (h | h | h | h | h)
        · exact .inl (.inl (.inl (.inl (by omega))))
        · exact .inl (.inl (.inl (.inr (by omega))))
        · exact .inl (.inl (.inr h))
        · exact .inl (.inr h)
        · exact .inr (by omega)
  rw [e]
  cases case1 l i c <;> rfl
theorem cases_eq {l : List TCase} (hn : l.length ≤ 140737488355328) : cases_Right l = some (casesS l, ()) := by
  unfold cases_Right cases_Right_l0
  rw [row_loop (X := Unit) _ l (caseP l) (fun i hi => case_body hn i hi) (by
    show cases_Right_b0 l l (l.length : Int) (l.length : Int) = _
    unfold cases_Right_b0
    rw [decide_eq_false (by omega)]; rfl)]
  unfold casesS
  cases (List.range' 0 l.length).all (caseP l) with
  | false => rfl
  | true =>
    simp only [if_true, bnd_val, sumO_inl, Bool.true_and]
    congr 2
    rw [show decide (((l.length : Nat) : Int) ≤ 16) = decide (l.length ≤ 16) from by simp; omega]
end Go.Tr
namespace Go.Tr
open Go
set_option linter.unusedVariables false
set_option linter.unusedSimpArgs false
set_option maxRecDepth 100000
set_option maxHeartbeats 4000000
def sight1 (s : List TSight) (j : Nat) : Bool :=
  decide (0 ≤ (s.getD j zSight).1) && (decide ((s.getD j zSight).1 < 4) && (decide (0 ≤ (s.getD j zSight).2.2) && (decide (j = 0) || decide ((s.getD (j - 1) zSight).2.2 ≤ (s.getD j zSight).2.2))))
def sightsS (s : List TSight) : Bool := (List.range' 0 s.length).all (sight1 s)
theorem sight_body {ks t7 : List TKnown} {t8 t9 x0 : Int} {s : List TSight} (hn : s.length ≤ 140737488355328) (j : Nat) (hj : j < s.length) :
    seen_Right_b1 ks t7 t8 t9 s (s.length : Int) (j : Int) x0 s = cnd (sight1 s j) (some (.inl (ks, t7, t8, t9, s, (s.length : Int), ((j + 1 : Nat) : Int), x0, s, ()))) (some (.inr (.inr (false, ())))) := by
  unfold seen_Right_b1
  rw [decide_eq_true (by omega), cnd_true, chk_pos (by omega)]
  simp only [ltO_def, recD, getD_toNat, chk_same, chk_nn]
  unfold sight1
  rw [w64 (n := (j : Int) - 1) (by omega) (by omega), w64 (n := (j : Int) + 1) (by omega) (by omega)]
  have key2 : ∀ b x : Bool, (b = true → x = true → (b && x) = true) := by intro b x h1 h2; rw [h1, h2]; rfl
  rw [chk_pos (by intro h; simp at h; omega), chk_pos (key2 _ _)]
  by_cases h0 : j = 0
  · subst h0
    generalize s.getD 0 zSight = x
    have e : (decide (x.1 < 0) || decide (x.1 ≥ 4) || decide (x.2.2 < 0)) = !(decide (0 ≤ x.1) && (decide (x.1 < 4) && (decide (0 ≤ x.2.2) && true))) := by
      rw [Bool.eq_iff_iff]; simp; omega
    have d0 : decide (((0 : Nat) : Int) > 0) = false := decide_eq_false (by omega)
    rw [d0, Bool.false_and, Bool.or_false, e, show decide ((0 : Nat) = 0) = true from rfl, Bool.true_or]
    cases (decide (0 ≤ x.1) && (decide (x.1 < 4) && (decide (0 ≤ x.2.2) && true))) <;> rfl
  · rw [getD_pred s j (by omega)]
    generalize s.getD (j - 1) zSight = y
    generalize s.getD j zSight = x
    have d0 : decide ((j : Int) > 0) = true := decide_eq_true (by omega)
    have d1 : decide (j = 0) = false := decide_eq_false h0
    have e : (decide (x.1 < 0) || decide (x.1 ≥ 4) || decide (x.2.2 < 0) || decide (y.2.2 > x.2.2)) = !(decide (0 ≤ x.1) && (decide (x.1 < 4) && (decide (0 ≤ x.2.2) && decide (y.2.2 ≤ x.2.2)))) := by
      rw [Bool.eq_iff_iff]; simp; omega
    rw [d0, d1, Bool.true_and, Bool.false_or, e]
    cases (decide (0 ≤ x.1) && (decide (x.1 < 4) && (decide (0 ≤ x.2.2) && decide (y.2.2 ≤ x.2.2)))) <;> rfl
theorem sight_loop {ks t7 : List TKnown} {t8 t9 x0 : Int} {s : List TSight} (hn : s.length ≤ 140737488355328) :
    seen_Right_l1 (ks, t7, t8, t9, s, (s.length : Int), 0, x0, s, ()) = some (if sightsS s = true then .inl (ks, t7, t8, t9, ()) else .inr (false, ())) := by
  unfold seen_Right_l1
  have := loopM_all (f := fun s : (List TKnown) × (List TKnown) × Int × Int × (List TSight) × Int × Int × Int × (List TSight) × Unit => seen_Right_b1 s.1 s.2.1 s.2.2.1 s.2.2.2.1 s.2.2.2.2.1 s.2.2.2.2.2.1 s.2.2.2.2.2.2.1 s.2.2.2.2.2.2.2.1 s.2.2.2.2.2.2.2.2.1)
    (fun j => (ks, t7, t8, t9, s, (s.length : Int), (j : Int), x0, s, ())) (sight1 s) (.inr (false, ())) (.inl (ks, t7, t8, t9, ())) s.length
    (fun j hj => by
      have := sight_body (ks := ks) (t7 := t7) (t8 := t8) (t9 := t9) (x0 := x0) hn j hj
      simp only at this ⊢
      rw [this, cnd_ite])
    (by
      show seen_Right_b1 ks t7 t8 t9 s (s.length : Int) (s.length : Int) x0 s = _
      unfold seen_Right_b1
      rw [decide_eq_false (by omega)]; rfl) s.length 0 (by omega)
  exact this
def knownP (l : List TKnown) (i : Nat) : Bool :=
  (decide (i = 0) || decide ((l.getD (i - 1) (0, [])).1 < (l.getD i (0, [])).1)) && (decide ((l.getD i (0, [])).2.length ≠ 0) && (decide ((l.getD i (0, [])).2.length ≤ 8) && sightsS (l.getD i (0, [])).2))
def knownS (l : List TKnown) : Bool := (List.range' 0 l.length).all (knownP l) && decide (l.length ≤ 96)
theorem known_body {l : List TKnown} (hn : l.length ≤ 140737488355328) (i : Nat) (hi : i < l.length) :
    seen_Right_b0 l l (l.length : Int) (i : Int) = cnd (knownP l i) (some (.inl (l, l, (l.length : Int), ((i + 1 : Nat) : Int), ()))) (some (.inr (.inr (false, ())))) := by
  unfold seen_Right_b0
  rw [decide_eq_true (by omega), cnd_true, chk_pos (by omega)]
  simp only [ltO_def, recD, getD_toNat, chk_same, chk_nn]
  unfold knownP
  rw [w64 (n := (i : Int) - 1) (by omega) (by omega), chk_pos (by intro h; simp at h; omega)]
  have step : ∀ (x : TKnown) (q : Bool), (decide (q = true) = q) → cnd (!q || ((x.2.length : Int) == 0) || decide ((x.2.length : Int) > 8)) (some (.inr (.inr (false, ()))))
      (bnd (seen_Right_l1 (l, l, (l.length : Int), (i : Int), x.2, (x.2.length : Int), 0, x.1, x.2, ())) fun y15 => sumO y15 (fun t16 => some (.inl (t16.1, t16.2.1, t16.2.2.1, IntKind.i64.wrap (t16.2.2.2.1 + 1), ()))) (fun r17 => some (.inr (.inr r17)))) =
      (cnd (q && (decide (x.2.length ≠ 0) && (decide (x.2.length ≤ 8) && sightsS x.2))) (some (.inl (l, l, (l.length : Int), ((i + 1 : Nat) : Int), ()))) (some (.inr (.inr (false, ())))) : Option (((List TKnown) × (List TKnown) × Int × Int × Unit) ⊕ (((List TKnown) × Unit) ⊕ (Bool × Unit)))) := by
    intro x q _
    cases q with
    | false => rfl
    | true =>
      simp only [Bool.not_true, Bool.false_or, Bool.true_and]
      by_cases h1 : x.2.length = 0
      · have e1 : ((x.2.length : Int) == 0) = true := by rw [h1]; rfl
        have e2 : decide (x.2.length ≠ 0) = false := decide_eq_false (by omega)
        rw [e1, e2]; rfl
      · have e1 : ((x.2.length : Int) == 0) = false := by rw [beq_eq_false_iff_ne]; omega
        rw [e1, decide_eq_true h1, Bool.true_and, Bool.false_or]
        by_cases h2 : x.2.length ≤ 8
        · rw [decide_eq_false (by omega), decide_eq_true h2, Bool.true_and, cnd_false, sight_loop (by omega)]
          cases sightsS x.2 with
          | true =>
            simp only [if_true, bnd_val, sumO_inl, cnd_true]
            rw [w64 (by omega) (by omega)]; rfl
          | false => rfl
        · rw [decide_eq_true (by omega), decide_eq_false h2]; rfl
  by_cases h0 : i = 0
  · subst h0
    have d0 : decide (((0 : Nat) : Int) > 0) = false := decide_eq_false (by omega)
    rw [d0, Bool.false_and, show decide ((0 : Nat) = 0) = true from rfl, Bool.true_or]
    exact step (l.getD 0 (0, [])) true rfl
  · rw [getD_pred l i (by omega)]
    have d0 : decide ((i : Int) > 0) = true := decide_eq_true (by omega)
    have d1 : decide (i = 0) = false := decide_eq_false h0
    have e : decide ((l.getD (i - 1) (0, [])).1 ≥ (l.getD i (0, [])).1) = !decide ((l.getD (i - 1) (0, [])).1 < (l.getD i (0, [])).1) := by
      rw [Bool.eq_iff_iff]; simp
    rw [d0, d1, Bool.true_and, Bool.false_or, e]
    exact step (l.getD i (0, [])) _ (by simp)
theorem known_eq {l : List TKnown} (hn : l.length ≤ 140737488355328) : seen_Right l = some (knownS l, ()) := by
  unfold seen_Right seen_Right_l0
  rw [row_loop (X := Unit) _ l (knownP l) (fun i hi => known_body hn i hi) (by
    show seen_Right_b0 l l (l.length : Int) (l.length : Int) = _
    unfold seen_Right_b0
    rw [decide_eq_false (by omega)]; rfl)]
  unfold knownS
  cases (List.range' 0 l.length).all (knownP l) with
  | false => rfl
  | true =>
    simp only [if_true, bnd_val, sumO_inl, Bool.true_and]
    congr 2
    rw [show decide (((l.length : Nat) : Int) ≤ 96) = decide (l.length ≤ 96) from by simp; omega]
structure StWf (s : TState) : Prop where
  h : ∀ x ∈ s.2.2.1, in32 x.1 ∧ x.2.1.length ≤ 140737488355328 ∧ M6ok x.2.2
  hn : s.2.2.1.length ≤ 140737488355328
  w : ∀ x ∈ s.2.2.2.1, in32 x.1.1
  wn : s.2.2.2.1.length ≤ 140737488355328
  k : ∀ x ∈ s.2.2.2.2.1, in32 x.1 ∧ ∀ y ∈ x.2, M6ok y.2.1
  kn : s.2.2.2.2.1.length ≤ 140737488355328
  p : ∀ x ∈ s.2.2.2.2.2.1, in32 x.1
  pn : s.2.2.2.2.2.1.length ≤ 140737488355328
  c : ∀ x ∈ s.2.2.2.2.2.2, in32 x.1
  cn : s.2.2.2.2.2.2.length ≤ 140737488355328
def rightS (s : TState) : Bool :=
  decide (0 ≤ s.1) && (decide (s.1 ≤ 1099511627776) && (decide (0 ≤ s.2.1) && (decide (s.2.1 ≤ 65535) && (heldS s.2.2.1 && (sweepsS s.2.2.2.1 && (knownS s.2.2.2.2.1 && (probesS s.2.2.2.2.2.1 && casesS s.2.2.2.2.2.2)))))))
theorem cright_eq {s : TState} (h : StWf s) : codec_Right s = some (rightS s, ()) := by
  unfold codec_Right
  rw [clamp_eq', held_eq (fun x hx => (h.h x hx).2.1) h.hn, sweeps_eq h.w h.wn, known_eq h.kn, probes_eq h.p h.pn, cases_eq h.cn]
  simp only [bnd_val, bndG_val, ltO_def, chk_same]
  unfold rightS
  have : (s.1 == clampS s.1) = (decide (0 ≤ s.1) && decide (s.1 ≤ 1099511627776)) := by
    unfold clampS
    rw [Bool.eq_iff_iff]
    simp only [beq_iff_eq, Bool.and_eq_true, decide_eq_true_eq]
    split
    · constructor <;> omega
    · split <;> omega
  rw [this]
  simp only [Bool.and_assoc]
theorem lright_eq {s : TState} (h : StWf s) : terrierlaw18_Right s = some (rightS s, ()) := by
  unfold terrierlaw18_Right
  rw [held_eq (fun x hx => (h.h x hx).2.1) h.hn, sweeps_eq h.w h.wn, known_eq h.kn, probes_eq h.p h.pn, cases_eq h.cn]
  simp only [bnd_val, bndG_val, ltO_def, chk_same]
  unfold rightS
  rw [show decide (s.2.1 ≤ 65535) = decide (s.2.1 < 65536) from by rw [decide_eq_decide]; omega]
  congr 2
  simp only [ge_iff_le]
  cases decide (0 ≤ s.1) <;> cases decide (s.1 ≤ 1099511627776) <;> cases decide (0 ≤ s.2.1) <;> cases decide (s.2.1 < 65536) <;> cases heldS s.2.2.1 <;> cases sweepsS s.2.2.2.1 <;> cases knownS s.2.2.2.2.1 <;> simp
end Go.Tr
