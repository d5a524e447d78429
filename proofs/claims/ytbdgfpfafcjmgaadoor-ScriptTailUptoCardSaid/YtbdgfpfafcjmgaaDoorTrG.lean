/- Operations that make objects, and stores.
   Conditions: none. -/
import Derived.Test.YtbdgfpfafcjmgaaDoorTrF
import Derived.Laws.CopyRow
namespace Go.Tr
open Go
set_option linter.unusedVariables false
set_option linter.unusedSimpArgs false

section
variable {W0 : WX} {okIn B us : Nat → Prop} {tm : Nat → Option AV} {ob : Nat → Option AO} {nt : Nat} {E : Env} {a : Act}

def setMu (mu : Nat → Option Loc) (nm : Nat) (L : Option Loc) (n : Nat) : Option Loc := if n = nm then L else mu n

theorem setMu_same (mu : Nat → Option Loc) (nm : Nat) (L : Option Loc) : setMu mu nm L nm = L := by simp [setMu]
theorem setMu_ne (mu : Nat → Option Loc) {nm n : Nat} (L : Option Loc) (h : n ≠ nm) : setMu mu nm L n = mu n := by simp [setMu, h]

theorem lkA_one {α : Type} {nm n : Nat} {x : α} : lkA [(nm, x)] n = if n = nm then some x else none := by
  simp only [lkA]
  by_cases h : n = nm
  · subst h; simp [beq_self]
  · simp [beq_ne h, h]

/-- A new object. -/
theorem Evo.new (he : EnvOk W0 okIn B E) (hlo : ∀ n, n < 16 → us n) {nm : Nat} (hnm : ¬ us nm) {w' : World} {L : Loc} {o : AO}
    (hext : ∀ b, b < E.w.heap.size → w'.heap[b]? = E.w.heap[b]?) (hsz : E.w.heap.size ≤ w'.heap.size) (hos : w'.os = E.w.os) (htape : w'.tape = E.w.tape) (hout : w'.output = E.w.output)
    (hL : L.own = true → ∃ b, L.base = some ⟨b, 0, none⟩ ∧ E.w.heap.size ≤ b ∧ b < w'.heap.size)
    (ho : ObjR ⟨w', setMu E.mu nm (some L), E.ok⟩ nm o) (hon : o.nm (usn us nm)) :
    Evo W0 okIn B us (usn us nm) E ⟨w', setMu E.mu nm (some L), E.ok⟩ [(nm, some o)] := by
  have hown : ∀ n b, owns ⟨w', setMu E.mu nm (some L), E.ok⟩ n b → (n = nm ∧ E.w.heap.size ≤ b ∧ b < w'.heap.size) ∨ (n ≠ nm ∧ owns E n b) := by
    intro n b hb
    obtain ⟨L', h1, h2, h3⟩ := hb
    by_cases hn : n = nm
    · subst hn
      simp only [setMu_same, Option.some.injEq] at h1
      subst h1
      obtain ⟨b', g1, g2, g3⟩ := hL h2
      rw [h3] at g1
      simp only [Option.some.injEq, Addr.mk.injEq, and_true] at g1
      subst g1
      exact .inl ⟨rfl, g2, g3⟩
    · simp only [setMu_ne _ _ hn] at h1
      exact .inr ⟨hn, L', h1, h2, h3⟩
  refine ⟨fun n h => .inl h, ?_, ?_, ?_, ?_, ?_, fun b h => h, ?_⟩
  · intro n h
    rw [lkA_one] at h
    split at h
    · simp at h
    · rename_i hn; exact setMu_ne _ _ hn
  · intro n hn L' h
    have hne : n ≠ nm := fun hh => hnm (hh ▸ hn)
    simp only [setMu_ne _ _ hne] at h
    exact ⟨L', h, rfl, rfl, rfl⟩
  · intro n h
    rw [lkA_one] at h
    split at h <;> simp at h
  · intro n o' h
    rw [lkA_one] at h
    split at h
    · rename_i hn
      subst hn
      simp only [Option.some.injEq] at h
      subst h
      exact ⟨ho, hon, .inr rfl⟩
    · simp at h
  · intro b hb _; exact hext b hb
  · refine ⟨?_, ?_, ?_, he.oki, ?_, ?_, he.new, hos.trans he.os, htape.trans he.tape, hout.trans he.output, ?_⟩
    · intro n m b h1 h2
      rcases hown n b h1 with ⟨rfl, h3, h4⟩ | ⟨h3, h4⟩ <;> rcases hown m b h2 with ⟨rfl, h5, h6⟩ | ⟨h5, h6⟩
      · rfl
      · have := (he.own m b h6).2.1; omega
      · have := (he.own n b h4).2.1; omega
      · exact he.inj n m b h4 h6
    · intro n b h1
      rcases hown n b h1 with ⟨rfl, h3, h4⟩ | ⟨h3, h4⟩
      · refine ⟨he.new b (by have := he.sz; omega), h4, fun hok => ?_⟩
        have := (he.okl b hok).1; omega
      · obtain ⟨g1, g2, g3⟩ := he.own n b h4
        exact ⟨g1, by show b < w'.heap.size; omega, g3⟩
    · intro b hb
      obtain ⟨g1, g2⟩ := he.okl b hb
      exact ⟨by show b < w'.heap.size; omega, g2⟩
    · intro b hb hB
      have := he.sz
      show w'.heap[b]? = _
      rw [hext b (by omega)]
      exact he.fr b hb hB
    · exact Nat.le_trans he.sz hsz
    · intro n L' h hn
      have hne : n ≠ nm := fun hh => hnm (hh ▸ hlo n hn)
      simp only [setMu_ne _ _ hne] at h
      exact he.li n L' h hn

theorem Evo.goes' (he : EnvOk W0 okIn B E) {us' : Nat → Prop} {E' : Env} {u : Upd} (h : Evo W0 okIn B us us' E E' u) : Goes us E E' := h.goes he

theorem push_ext (w : World) (o : Obj) : ∀ b, b < w.heap.size → ({ w with heap := w.heap.push o } : World).heap[b]? = w.heap[b]? := by
  intro b hb
  show (w.heap.push o)[b]? = _
  rw [Array.getElem?_push, if_neg (by omega)]
theorem push_last (w : World) (o : Obj) : ({ w with heap := w.heap.push o } : World).heap[w.heap.size]? = some o := by
  show (w.heap.push o)[w.heap.size]? = _
  simp

/-- The names of 'us' go on where a new one is laid. -/
theorem goes_new (he : EnvOk W0 okIn B E) {nm : Nat} (hnm : ¬ us nm) {w' : World} {L : Loc} (hext : ∀ b, b < E.w.heap.size → w'.heap[b]? = E.w.heap[b]?) :
    Goes us E ⟨w', setMu E.mu nm (some L), E.ok⟩ :=
  ⟨fun b hb => hext b (he.okl b hb).1, fun b h => h, fun n hn L' h => by
    have hne : n ≠ nm := fun hh => hnm (hh ▸ hn)
    simp only [setMu_ne _ _ hne] at h
    exact ⟨L', h, rfl, rfl, rfl⟩⟩

/-- A variable is made. -/
theorem evo_cells (he : EnvOk W0 okIn B E) (hlo : ∀ n, n < 16 → us n) {nm : Nat} (hnm : ¬ us nm) {l : List AV} {vs : List Value} (T : TypeId) (hl : VRL E l vs) (hn : AV.nms us l) :
    ∃ E', E'.w = { E.w with heap := E.w.heap.push (.cells vs.toArray T) } ∧ Evo W0 okIn B us (usn us nm) E E' [(nm, some (.cells l))] ∧ VR E' (.ptr nm 0) (.pointer (some ⟨E.w.heap.size, 0, none⟩)) := by
  have hext := push_ext E.w (.cells vs.toArray T)
  refine ⟨⟨_, setMu E.mu nm (some ⟨some ⟨E.w.heap.size, 0, none⟩, 1, true, 0⟩), E.ok⟩, rfl, ?_, ?_⟩
  · refine Evo.new he hlo hnm hext (by simp) rfl rfl rfl (fun _ => ⟨_, rfl, Nat.le_refl _, by simp⟩) ?_ (AV.nms_mono (fun n h => .inl h) l hn)
    exact ⟨E.w.heap.size, vs.toArray, T, (0, 0), setMu_same _ _ _, push_last _ _, fun i _ => by omega, by
      simpa using VRL.mono (goes_new he hnm hext) l vs hn hl⟩
  · simp only [VR, leafV, true_and]
    intro L hL
    simp only [setMu_same, Option.some.injEq] at hL
    subst hL
    exact ⟨_, rfl, rfl⟩

/-- Values whose cells are known are leaves, or made of leaves. -/
theorem leaf_of {v : AV} {x : Value} (h : leafA v = true) (hx : VR E v x) : leafV x := by
  cases v <;> simp [leafA] at h <;> simp only [VR] at hx
  all_goals first
    | (subst hx; trivial)
    | exact hx
    | exact hx.1
    | exact hx.2.1
    | skip
  · obtain ⟨base, cap, hv, _⟩ := hx
    simp only [List.cons.injEq, and_true] at hv
    subst hv; trivial
  · obtain ⟨b, o, cs, rfl, _⟩ := hx; trivial
  · obtain ⟨p, q, rfl, _⟩ := hx; trivial
  · obtain ⟨y, rfl, _⟩ := hx; trivial

theorem leaves_of : ∀ {l : List AV} {vs : List Value}, leavesA l = true → VRL E l vs → ∀ x ∈ vs, leafV x
  | [], vs, _, h, x, hx => by simp [VRL] at h; simp [h] at hx
  | b :: l, vs, hl, h, x, hx => by
    simp only [leavesA] at hl
    split at hl
    · rename_i hb
      simp only [VRL] at h
      obtain ⟨v, r, rfl, h1, h2⟩ := h
      rcases List.mem_cons.1 hx with rfl | hx
      · exact leaf_of hb h1
      · exact leaves_of hl h2 x hx
    · simp at hl

theorem leafV_cells {x : Value} (h : leafV x) : x.cells = #[x] := by
  cases x <;> simp [leafV] at h <;> rfl

theorem cellsA_sound {v : AV} {x : Value} {l : List AV} (h : cellsA v = some l) (hx : VR E v x) : VRL E l x.cells.toList ∧ (∀ y ∈ x.cells.toList, leafV y) ∧ ∀ p, v.nm p → AV.nms p l := by
  unfold cellsA at h
  split at h
  · split at h
    · rename_i hl
      simp only [Option.some.injEq] at h
      subst h
      simp only [VR] at hx
      obtain ⟨vs, rfl, hx⟩ := hx
      exact ⟨by simpa [Value.cells] using hx, by simpa [Value.cells] using leaves_of hl hx, fun p hp => hp⟩
    · simp at h
  · split at h
    · rename_i hl
      simp only [Option.some.injEq] at h
      subst h
      have hlf := leaf_of hl hx
      rw [leafV_cells hlf]
      refine ⟨?_, by simpa using hlf, fun p hp => by simp [AV.nms, hp]⟩
      simp only [VRL]
      exact ⟨x, [], rfl, hx, rfl⟩
    · simp at h

theorem run_newVar {P : Program} (w : World) (T : TypeId) (v : Value) : (newVar T v).run P w = .ok ⟨w.heap.size, 0, none⟩ { w with heap := w.heap.push (.cells v.cells T) } := by
  simp [newVar, newRow]

theorem opBox_sound {P : Program} (hs : SimE W0 okIn B us tm ob nt E a) {nm : Nat} (hnm : ¬ us nm) {T : TypeId} {v : AV} {x : Value} {l : List AV} (h : cellsA v = some l) (hx : VR E v x) (hn : v.nm us) :
    ∃ E' z, (Instr.box T x).run P E.w = .ok z E'.w ∧ Evo W0 okIn B us (usn us nm) E E' [(nm, some (.cells l))] ∧ VR E' (.ptr nm 0) z := by
  obtain ⟨h1, h2, h3⟩ := cellsA_sound h hx
  obtain ⟨E', hE, hv, hp⟩ := evo_cells hs.env hs.lo hnm T h1 (h3 us hn)
  refine ⟨E', _, ?_, hv, hp⟩
  rw [hE]
  simp [Instr.box, run_newVar]

theorem opAlloc_sound {P : Program} (hs : SimE W0 okIn B us tm ob nt E a) {nm : Nat} (hnm : ¬ us nm) {T : TypeId} {l : List AV} (h : zeroT P T = some l) :
    ∃ E' z, (Instr.alloc T true (.tuple #[])).run P E.w = .ok z E'.w ∧ Evo W0 okIn B us (usn us nm) E E' [(nm, some (.cells l))] ∧ VR E' (.ptr nm 0) z := by
  unfold zeroT at h
  split at h
  · rename_i i hi
    split at h
    · rename_i z hz
      simp only [Option.some.injEq] at h
      subst h
      obtain ⟨E', hE, hv, hp⟩ := evo_cells hs.env hs.lo hnm T (cvals_sound E z.cells.toList) (cvals_nm us _)
      refine ⟨E', _, ?_, hv, hp⟩
      rw [hE]
      simp [Instr.alloc, zeroValue, typeInfo, hi, hz, run_newVar]
    · simp at h
  · simp at h

/-! ### Rows -/

theorem evo_rows (he : EnvOk W0 okIn B E) (hlo : ∀ n, n < 16 → us n) {nm : Nat} (hnm : ¬ us nm) {e : Sh} {xs : List e.T} {cs : Array Value} {T : TypeId} {fr : Nat × Nat} {cap : Nat} {w' : World}
    (hw : ∀ b, b < E.w.heap.size → w'.heap[b]? = E.w.heap[b]?) (hl : w'.heap[E.w.heap.size]? = some (.cells cs T fr)) (hsz : E.w.heap.size < w'.heap.size)
    (hos : w'.os = E.w.os) (htape : w'.tape = E.w.tape) (hout : w'.output = E.w.output) (hfr : unfrozen fr cs.size) (hc : cs.size = cap * e.size) (hle : xs.length ≤ cap)
    (hx : ∀ i (h : i < xs.length), LRs E.w E.ok e (xs[i]'h) ((cs.toList.drop (i * e.size)).take e.size)) :
    ∃ E', E'.w = w' ∧ Evo W0 okIn B us (usn us nm) E E' [(nm, some (.rows e xs))] ∧ VR E' (.own nm e) (.slice (some ⟨E.w.heap.size, 0, none⟩) xs.length cap) := by
  have hok : ∀ b, E.ok b → w'.heap[b]? = E.w.heap[b]? := fun b hb => hw b (he.okl b hb).1
  by_cases h0 : cap = 0
  · refine ⟨⟨w', setMu E.mu nm (some ⟨some ⟨E.w.heap.size, 0, none⟩, cap, false, xs.length⟩), E.ok⟩, rfl, ?_, ?_⟩
    · refine Evo.new he hlo hnm hw (Nat.le_of_lt hsz) hos htape hout (fun h => by simp at h) ?_ (by simp [AO.nm])
      exact ⟨_, setMu_same _ _ _, rfl, .inl ⟨h0, by omega, rfl⟩⟩
    · simp only [VR, leafV, true_and]
      intro L hL
      simp only [setMu_same, Option.some.injEq] at hL
      subst hL
      rfl
  · refine ⟨⟨w', setMu E.mu nm (some ⟨some ⟨E.w.heap.size, 0, none⟩, cap, true, xs.length⟩), E.ok⟩, rfl, ?_, ?_⟩
    · refine Evo.new he hlo hnm hw (Nat.le_of_lt hsz) hos htape hout (fun _ => ⟨_, rfl, Nat.le_refl _, hsz⟩) ?_ (by simp [AO.nm])
      exact ⟨_, setMu_same _ _ _, rfl, .inr ⟨E.w.heap.size, cs, T, fr, rfl, rfl, hl, hc, hle, hfr, fun i hi => LRs.mono hok (fun b h => h) _ _ _ (hx i hi)⟩⟩
    · simp only [VR, leafV, true_and]
      intro L hL
      simp only [setMu_same, Option.some.injEq] at hL
      subst hL
      rfl

end
end Go.Tr
