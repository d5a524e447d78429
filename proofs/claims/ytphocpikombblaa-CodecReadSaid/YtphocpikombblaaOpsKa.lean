/- A tick's plan, where the configuration is one value: printed by a program out of the texts on sweeps. Searches in rows that rise: holders, and what is known. Cases: what becomes of them, and that rows of them stay right. Holders that are put, sightings, questions: what they answer. How addresses are; questions; a state's parts. Conditions: none but those that each theorem states. -/
import Derived.Test.YtphocpikombblaaOpsD
import Derived.Test.YtphocpikombblaaSweepT
import Derived.Test.YtphocpikombblaaSweepZ
import Derived.Test.YtphocpikombblaaMacS
namespace Go.Tr
open Go
set_option linter.unusedVariables false
set_option linter.unusedSimpArgs false
set_option maxRecDepth 100000
set_option maxHeartbeats 4000000
end Go.Tr
namespace Go.Tr
open Go
set_option linter.unusedVariables false
set_option linter.unusedSimpArgs false
set_option maxRecDepth 100000
set_option maxHeartbeats 4000000
def Rise {α : Type} (key : α → Int) (l : List α) : Prop := l.Pairwise fun x y => key x < key y
def lowB {α : Type} (key : α → Int) (l : List α) (a : Int) : Nat := (l.takeWhile fun x => decide (key x < a)).length
def hasK {α : Type} (key : α → Int) (l : List α) (a : Int) : Bool := l.any fun x => key x == a
theorem lowB_le {α : Type} (key : α → Int) (l : List α) (a : Int) : lowB key l a ≤ l.length := (List.takeWhile_sublist _).length_le
theorem lowB_lt {α : Type} {key : α → Int} : ∀ {l : List α} {a : Int} {i : Nat} (h : i < lowB key l a) (hi : i < l.length), key l[i] < a
  | [], a, i, h, hi => by simp at hi
  | x :: l, a, i, h, hi => by
    unfold lowB at h
    rw [List.takeWhile_cons] at h
    split at h
    · rename_i hx
      cases i with
      | zero => simpa using hx
      | succ i => exact lowB_lt (l := l) (by unfold lowB; simpa using h) (by simpa using hi)
    · simp at h
theorem lowB_ge {α : Type} {key : α → Int} : ∀ {l : List α} {a : Int} (h : lowB key l a < l.length), a ≤ key l[lowB key l a]
  | [], a, h => by simp at h
  | x :: l, a, h => by
    by_cases hx : key x < a
    · have e : lowB key (x :: l) a = lowB key l a + 1 := by unfold lowB; rw [List.takeWhile_cons, if_pos (by simpa using hx)]; rfl
      have := lowB_ge (key := key) (l := l) (a := a) (by rw [e] at h; simpa using h)
      simp only [e, List.getElem_cons_succ]
      exact this
    · have e : lowB key (x :: l) a = 0 := by unfold lowB; rw [List.takeWhile_cons, if_neg (by simpa using hx)]; rfl
      simp only [e, List.getElem_cons_zero]
      omega
theorem Rise.lt {α : Type} {key : α → Int} {l : List α} (h : Rise key l) {i j : Nat} (hij : i < j) (hj : j < l.length) : key (l[i]'(by omega)) < key l[j] := List.pairwise_iff_getElem.1 h i j (by omega) hj hij
theorem Rise.has {α : Type} {key : α → Int} {l : List α} (h : Rise key l) (a : Int) (z : α) : (decide (((lowB key l a : Nat) : Int) < (l.length : Int)) && (key (l.getD (lowB key l a) z) == a)) = hasK key l a := by
  have hle := lowB_le key l a
  by_cases hlt : lowB key l a < l.length
  · rw [decide_eq_true (by omega), getD_hit _ _ _ hlt, Bool.true_and]
    cases hk : hasK key l a with
    | true =>
      unfold hasK at hk
      obtain ⟨x, hx, hxa⟩ := List.any_eq_true.1 hk
      obtain ⟨i, hi, rfl⟩ := List.getElem_of_mem hx
      have hxa' : key l[i] = a := by simpa using hxa
      have : ¬ i < lowB key l a := fun h => by have := lowB_lt (key := key) h hi; omega
      by_cases e : lowB key l a = i
      · simp only [e]; simpa using hxa'
      · have h1 := h.lt (i := lowB key l a) (j := i) (by omega) hi
        have h2 := lowB_ge (key := key) hlt
        omega
    | false =>
      unfold hasK at hk
      have := List.any_eq_false.1 hk l[lowB key l a] (List.getElem_mem hlt)
      simpa using this
  · rw [decide_eq_false (by omega), Bool.false_and]
    cases hk : hasK key l a with
    | false => rfl
    | true =>
      unfold hasK at hk
      obtain ⟨x, hx, hxa⟩ := List.any_eq_true.1 hk
      obtain ⟨i, hi, rfl⟩ := List.getElem_of_mem hx
      have hxa' : key l[i] = a := by simpa using hxa
      have := lowB_lt (key := key) (l := l) (a := a) (i := i) (by omega) hi
      omega
theorem Rise.at {α : Type} {key : α → Int} {l : List α} (h : Rise key l) {a : Int} (hk : hasK key l a = true) : ∃ hl : lowB key l a < l.length, key l[lowB key l a] = a := by
  unfold hasK at hk
  obtain ⟨x, hx, hxa⟩ := List.any_eq_true.1 hk
  obtain ⟨i, hi, rfl⟩ := List.getElem_of_mem hx
  have hxa' : key l[i] = a := by simpa using hxa
  have h0 : ¬ i < lowB key l a := fun h => by have := lowB_lt (key := key) h hi; omega
  by_cases e : lowB key l a = i
  · refine ⟨by omega, ?_⟩
    simp only [e]; exact hxa'
  · have h1 := h.lt (i := lowB key l a) (j := i) (by omega) hi
    have h2 := lowB_ge (key := key) (l := l) (a := a) (by omega)
    omega
abbrev kH : THold → Int := fun h => h.1
abbrev kK : TKnown → Int := fun k => k.1
def getH (l : List THold) (a : Int) : Option THold := if hasK kH l a = true then some (l.getD (lowB kH l a) zHold) else none
theorem slice_pre {α : Type} (l : List α) (i : Nat) : sliceA 0 i l = l.take i := by
  unfold sliceA
  simp
def takeH (l : List THold) (a : Int) : List THold := l.take (lowB kH l a) ++ l.drop (lowB kH l a + 1)
end Go.Tr
namespace Go.Tr
open Go
set_option linter.unusedVariables false
set_option linter.unusedSimpArgs false
set_option maxRecDepth 100000
set_option maxHeartbeats 4000000
def sinceS (now t : Int) : Int := clampS now - clampS t
def withinS (now t n : Int) : Bool := decide (0 ≤ sinceS now t) && decide (sinceS now t < n)
theorem clampS_self {n : Int} (h0 : 0 ≤ n) (h1 : n ≤ 1099511627776) : clampS n = n := by unfold clampS; split <;> (try split) <;> omega
def busyC (f : TCfg) (now : Int) (c : TCase) : Bool := openS c || (c.2.2.2 == 2 && withinS now c.2.2.1 f.2.2.2.2.2.2.2.2)
def tickC (f : TCfg) (now : Int) (c : TCase) : TCase := if c.2.2.2 = 0 ∧ f.2.2.2.2.2.2.2.1 ≤ sinceS now c.2.1 then (c.1, c.2.1, clampS now, 3) else c
def setC (c : TCase) (to' now : Int) : TCase := (c.1, c.2.1, if to' = 0 ∨ to' = 1 then c.2.2.1 else clampS now, to')
def nextC (cs : List TCase) (a from' to' now : Int) : Int × List TCase :=
  if findC cs a < 0 then (7, []) else if (cs.getD (findC cs a).toNat zCase).2.2.2 = from' then (0, cs.set (findC cs a).toNat (setC (cs.getD (findC cs a).toNat zCase) to' now)) else (8, [])
theorem findC_in {cs : List TCase} {a : Int} (h : ¬ findC cs a < 0) : (findC cs a).toNat < cs.length ∧ findC cs a = (((findC cs a).toNat : Nat) : Int) ∧ (cs.getD (findC cs a).toNat zCase).1 = a ∧ openS (cs.getD (findC cs a).toNat zCase) = true := by
  unfold findC at h ⊢
  obtain ⟨j, hj, h1, h2, _⟩ := idxS_lt (p := fun c : TCase => c.1 == a && openS c) (l := cs) (k := 0) (by omega)
  rw [Nat.zero_add] at h1
  simp only [Bool.and_eq_true, beq_iff_eq] at h2
  rw [h1, Int.toNat_natCast, getD_hit _ _ _ hj]
  exact ⟨hj, rfl, h2.1, h2.2⟩
def cancelC (cs : List TCase) (a now : Int) : Int × List TCase :=
  if findC cs a < 0 then (7, []) else (0, cs.set (findC cs a).toNat (setC (cs.getD (findC cs a).toNat zCase) 4 now))
def quietC (f : TCfg) (cs : List TCase) (a now : Int) : Bool := cs.any fun c => (c.1 == a && c.2.2.2 == 2) && withinS now c.2.2.1 f.2.2.2.2.2.2.2.2
def spareF (f : TCfg) (cs : List TCase) (now : Int) : Nat → Int
  | 0 => -1
  | k + 1 => if busyC f now (cs.getD k zCase) = true then spareF f cs now k else if spareF f cs now k < 0 ∨ (cs.getD k zCase).2.2.1 < (cs.getD (spareF f cs now k).toNat zCase).2.2.1 then (k : Int) else spareF f cs now k
def newC (a now : Int) : TCase := (a, clampS now, 0, 0)
def raiseC (f : TCfg) (cs : List TCase) (a now : Int) : Int × List TCase :=
  if 0 ≤ findC cs a then (6, []) else if quietC f cs a now = true then (8, []) else if 16 ≤ cs.length then
    (if spareF f cs now cs.length < 0 then (4, []) else (0, (cs.take (spareF f cs now cs.length).toNat ++ cs.drop ((spareF f cs now cs.length).toNat + 1)) ++ [newC a now])) else (0, cs ++ [newC a now])
end Go.Tr
namespace Go.Tr
open Go
set_option linter.unusedVariables false
set_option linter.unusedSimpArgs false
set_option maxRecDepth 100000
set_option maxHeartbeats 4000000
def ofK (l : List TKnown) (a : Int) : List TSight := if hasK kK l a = true then (l.getD (lowB kK l a) (0, [])).2 else []
def lastT (ss : List TSight) : Int := (ss.getD (ss.length - 1) zSight).2.2
def lastK (l : List TKnown) (a : Int) : Int := if (ofK l a).length = 0 then 0 else lastT (ofK l a)
def keepT (ss : List TSight) (s : TSight) : List TSight := (ss ++ [s]).drop (ss.length + 1 - 8)
def putP (ps : List TProbe) (p : TProbe) : Int × List TProbe := if (ps.any fun y => y.1 == p.1) = true then (6, []) else if 16 ≤ ps.length then (4, []) else (0, ps ++ [p])
end Go.Tr
namespace Go.Tr
open Go
set_option linter.unusedVariables false
set_option linter.unusedSimpArgs false
set_option maxRecDepth 100000
set_option maxHeartbeats 4000000
def setH (s : TState) (x : List THold) : TState := (s.1, s.2.1, x, s.2.2.2)
def setK (s : TState) (x : List TKnown) : TState := (s.1, s.2.1, s.2.2.1, s.2.2.2.1, x, s.2.2.2.2.2)
def setS (s : TState) (x : List TCase) : TState := (s.1, s.2.1, s.2.2.1, s.2.2.2.1, s.2.2.2.2.1, s.2.2.2.2.2.1, x)
def freshS (c : TCfg) (ss : List TSight) (now : Int) : List TSight := (ss.drop (ss.length - (c.2.2.1.toNat + 1))).filter fun s => withinS now s.2.2 c.1
def apartR : TMac → List TSight → Bool
  | _, [] => false
  | f, s :: r => if s.2.1 = zMac then apartR f r else if f = zMac then apartR s.2.1 r else if f = s.2.1 then apartR f r else true
def foreignS (h : THold) (ss : List TSight) : Bool := ss.any fun s => (!(s.2.1 == zMac) && !(h.2.2 == zMac)) && !(s.2.1 == h.2.2)
def statusS (c : TCfg) (h : Option THold) (ss : List TSight) (now : Int) : Int :=
  if apartR zMac (freshS c ss now) = true then 5 else match h with
  | none => if 0 < (freshS c ss now).length then 4 else 0
  | some h => if foreignS h (freshS c ss now) = true then 4 else if c.2.2.1 ≤ ((freshS c ss now).length : Int) then 2 else
    if 0 < ss.length ∧ withinS now (lastT ss) c.2.1 = false then 3 else 1
end Go.Tr
