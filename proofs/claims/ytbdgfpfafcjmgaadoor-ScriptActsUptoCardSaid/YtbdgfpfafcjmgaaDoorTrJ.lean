/- Stores and appends: how the environment goes on.
   Conditions: none. -/
import Derived.Test.YtbdgfpfafcjmgaaDoorTrI
import Derived.Deep.AppendSrc
import Derived.Laws.AppendOwn
namespace Go.Tr
open Go
set_option linter.unusedVariables false
set_option linter.unusedSimpArgs false

section
variable {W0 : WX} {okIn B us : Nat → Prop} {tm : Nat → Option AV} {ob : Nat → Option AO} {nt : Nat} {E : Env} {a : Act}

/-- An object's cells turn in place. -/
theorem Evo.set (he : EnvOk W0 okIn B E) {nm n : Nat} (hn : us n) {w' : World} {o : AO}
    (hext : ∀ b, b < E.w.heap.size → ¬ owns E n b → w'.heap[b]? = E.w.heap[b]?) (hsz : w'.heap.size = E.w.heap.size) (hos : w'.os = E.w.os) (htape : w'.tape = E.w.tape) (hout : w'.output = E.w.output)
    (ho : ObjR ⟨w', E.mu, E.ok⟩ n o) (hon : o.nm us) : Evo W0 okIn B us (usn us nm) E ⟨w', E.mu, E.ok⟩ [(n, some o)] := by
  refine ⟨fun n h => .inl h, fun _ _ => rfl, fun n _ L' h => ⟨L', h, rfl, rfl, rfl⟩, ?_, ?_, ?_, fun b h => h, ?_⟩
  · intro m h
    rw [lkA_one] at h
    split at h <;> simp at h
  · intro m o' h
    rw [lkA_one] at h
    split at h
    · rename_i hm
      subst hm
      simp only [Option.some.injEq] at h
      subst h
      exact ⟨ho, AO.nm_mono (fun _ h => .inl h) _ hon, .inl hn⟩
    · simp at h
  · intro b hb hno
    refine hext b hb fun hown => ?_
    have := hno n hown
    rw [lkA_one, if_pos rfl] at this
    simp at this
  · refine ⟨fun n m b h1 h2 => he.inj n m b h1 h2, fun m b h => ?_, fun b hb => ?_, he.oki, fun b hb hB => ?_, by show _ ≤ w'.heap.size; rw [hsz]; exact he.sz, he.new, hos.trans he.os, htape.trans he.tape, hout.trans he.output, he.li⟩
    · have := he.own m b h
      exact ⟨this.1, by show b < w'.heap.size; rw [hsz]; exact this.2.1, this.2.2⟩
    · have := he.okl b hb
      exact ⟨by show b < w'.heap.size; rw [hsz]; exact this.1, this.2⟩
    · show w'.heap[b]? = _
      have := he.sz
      rw [hext b (by omega) fun hown => hB (he.own n b hown).1]
      exact he.fr b hb hB

theorem lkA_two {α : Type} {n nm m : Nat} {x y : α} : lkA [(n, x), (nm, y)] m = if m = n then some x else if m = nm then some y else none := by
  simp only [lkA]
  by_cases h : m = n
  · subst h; simp [beq_self]
  · simp only [beq_ne h, h, if_false]
    by_cases h2 : m = nm
    · subst h2; simp [beq_self]
    · simp [beq_ne h2, h2]

/-- An object goes on under a new name. -/
theorem Evo.move (he : EnvOk W0 okIn B E) (hlo : ∀ n, n < 16 → us n) {nm n : Nat} (hnm : ¬ us nm) (hn : us n) {w' : World} {L : Loc} {o : AO}
    (hext : ∀ b, b < E.w.heap.size → ¬ owns E n b → w'.heap[b]? = E.w.heap[b]?) (hsz : E.w.heap.size ≤ w'.heap.size) (hos : w'.os = E.w.os) (htape : w'.tape = E.w.tape) (hout : w'.output = E.w.output)
    (hL : L.own = true → ∃ b, L.base = some ⟨b, 0, none⟩ ∧ b < w'.heap.size ∧ (E.w.heap.size ≤ b ∨ owns E n b))
    (ho : ObjR ⟨w', setMu (setMu E.mu n none) nm (some L), E.ok⟩ nm o) (hon : o.nm us) :
    Evo W0 okIn B us (usn us nm) E ⟨w', setMu (setMu E.mu n none) nm (some L), E.ok⟩ [(n, none), (nm, some o)] := by
  have hne : n ≠ nm := fun h => hnm (h ▸ hn)
  have hmu : ∀ m, m ≠ n → m ≠ nm → setMu (setMu E.mu n none) nm (some L) m = E.mu m := fun m h1 h2 => by rw [setMu_ne _ _ h2, setMu_ne _ _ h1]
  have hmun : setMu (setMu E.mu n none) nm (some L) n = none := by rw [setMu_ne _ _ hne, setMu_same]
  have hown : ∀ m b, owns ⟨w', setMu (setMu E.mu n none) nm (some L), E.ok⟩ m b → (m = nm ∧ b < w'.heap.size ∧ (E.w.heap.size ≤ b ∨ owns E n b)) ∨ (m ≠ nm ∧ m ≠ n ∧ owns E m b) := by
    intro m b hb
    obtain ⟨L', h1, h2, h3⟩ := hb
    by_cases hm : m = nm
    · subst hm
      simp only [setMu_same, Option.some.injEq] at h1
      subst h1
      obtain ⟨b', g1, g2, g3⟩ := hL h2
      rw [h3] at g1
      simp only [Option.some.injEq, Addr.mk.injEq, and_true] at g1
      subst g1
      exact .inl ⟨rfl, g2, g3⟩
    · by_cases hm' : m = n
      · subst hm'
        simp only [hmun, reduceCtorEq] at h1
      · simp only [hmu m hm' hm] at h1
        exact .inr ⟨hm, hm', L', h1, h2, h3⟩
  refine ⟨fun n h => .inl h, ?_, ?_, ?_, ?_, ?_, fun b h => h, ?_⟩
  · intro m h
    rw [lkA_two] at h
    split at h
    · simp at h
    · rename_i h1
      split at h
      · simp at h
      · rename_i h2; exact hmu m h1 h2
  · intro m hm L' h
    have hm' : m ≠ nm := fun hh => hnm (hh ▸ hm)
    by_cases hmn : m = n
    · subst hmn
      simp only [hmun, reduceCtorEq] at h
    · simp only [hmu m hmn hm'] at h
      exact ⟨L', h, rfl, rfl, rfl⟩
  · intro m h
    rw [lkA_two] at h
    split at h
    · rename_i h1; subst h1; exact hmun
    · split at h <;> simp at h
  · intro m o' h
    rw [lkA_two] at h
    split at h
    · simp at h
    · split at h
      · rename_i h2
        subst h2
        simp only [Option.some.injEq] at h
        subst h
        exact ⟨ho, AO.nm_mono (fun _ h => .inl h) _ hon, .inr rfl⟩
      · simp at h
  · intro b hb hno
    refine hext b hb fun hown => ?_
    have := hno n hown
    rw [lkA_two, if_pos rfl] at this
    simp at this
  · refine ⟨?_, ?_, ?_, he.oki, ?_, ?_, he.new, hos.trans he.os, htape.trans he.tape, hout.trans he.output, ?_⟩
    · intro m k b h1 h2
      rcases hown m b h1 with ⟨rfl, h3, h4⟩ | ⟨h3, h3', h4⟩ <;> rcases hown k b h2 with ⟨rfl, h5, h6⟩ | ⟨h5, h5', h6⟩
      · rfl
      · rcases h4 with h4 | h4
        · have := (he.own k b h6).2.1; omega
        · exact absurd (he.inj n k b h4 h6).symm h5'
      · rcases h6 with h6 | h6
        · have := (he.own m b h4).2.1; omega
        · exact absurd (he.inj n m b h6 h4).symm h3'
      · exact he.inj m k b h4 h6
    · intro m b h1
      rcases hown m b h1 with ⟨rfl, h3, h4⟩ | ⟨h3, h3', h4⟩
      · rcases h4 with h4 | h4
        · refine ⟨he.new b (by have := he.sz; omega), h3, fun hok => ?_⟩
          have := (he.okl b hok).1; omega
        · have := he.own n b h4
          exact ⟨this.1, h3, this.2.2⟩
      · obtain ⟨g1, g2, g3⟩ := he.own m b h4
        exact ⟨g1, by show b < w'.heap.size; omega, g3⟩
    · intro b hb
      obtain ⟨g1, g2⟩ := he.okl b hb
      exact ⟨by show b < w'.heap.size; omega, g2⟩
    · intro b hb hB
      have := he.sz
      show w'.heap[b]? = _
      rw [hext b (by omega) fun hown => hB (he.own n b hown).1]
      exact he.fr b hb hB
    · exact Nat.le_trans he.sz hsz
    · intro m L' h hm
      have hne' : m ≠ nm := fun hh => hnm (hh ▸ hlo m hm)
      by_cases hmn : m = n
      · subst hmn
        simp only [hmun, reduceCtorEq] at h
      · simp only [hmu m hmn hne'] at h
        exact he.li m L' h hm

theorem goes_set (he : EnvOk W0 okIn B E) {n : Nat} {w' : World} (hext : ∀ b, b < E.w.heap.size → ¬ owns E n b → w'.heap[b]? = E.w.heap[b]?) : Goes us E ⟨w', E.mu, E.ok⟩ :=
  ⟨fun b hb => hext b (he.okl b hb).1 fun hown => (he.own n b hown).2.2 hb, fun b h => h, fun n hn L' h => ⟨L', h, rfl, rfl, rfl⟩⟩

theorem ok_ext (he : EnvOk W0 okIn B E) {n : Nat} {w' : World} (hext : ∀ b, b < E.w.heap.size → ¬ owns E n b → w'.heap[b]? = E.w.heap[b]?) : ∀ b, E.ok b → w'.heap[b]? = E.w.heap[b]? :=
  fun b hb => hext b (he.okl b hb).1 fun hown => (he.own n b hown).2.2 hb

/-! ### Cells stored -/

theorem leaf_one {v : Value} (h : leafV v) : v.oneCell' = true := by cases v <;> simp [leafV] at h <;> rfl

theorem run_storeCells_row {P : Program} (b : Nat) (T : TypeId) (fr : Nat × Nat) : ∀ (vs : List Value) (o i : Nat) (cs : Array Value) (w : World), w.heap[b]? = some (.cells cs T fr) → unfrozen fr cs.size → o + i + vs.length ≤ cs.size → (∀ v ∈ vs, leafV v) →
    (storeCells ⟨b, o, none⟩ vs i).run P w = .ok () (w.setRow b (cs.toList.take (o + i) ++ vs ++ cs.toList.drop (o + i + vs.length)).toArray)
  | [], o, i, cs, w, hg, _, _, _ => by
    simp only [storeCells, List.append_nil, List.length_nil, Nat.add_zero, List.take_append_drop, Array.toArray_toList]
    rw [setRow_self w b cs T fr hg]
    rfl
  | v :: rest, o, i, cs, w, hg, hfz, hl, h1 => by
    have hi : o + i < cs.size := by simp at hl; omega
    have hcell : w.cell? ⟨b, o + i, none⟩ = some cs[o + i] := by simp [World.cell?, hg, hi]
    have hfro : w.frozen? ⟨b, o + i, none⟩ = false := by
      have := hfz (o + i) hi
      simp only [World.frozen?, hg]
      by_cases h : fr.1 ≤ o + i
      · have h2 : ¬ (o + i < fr.2) := fun hh => this ⟨h, hh⟩
        simp [h2]
      · simp [h]
    have hst : (store ((⟨b, o, none⟩ : Addr).add i) v).run P w = .ok () (w.setRow b (cs.setIfInBounds (o + i) v)) := by
      rw [add_mk, run_store P w _ v _ (leaf_one (h1 v (by simp))), hcell]
      simp [hfro, setCell_eq_setRow w b (o + i) cs T fr v hg]
    have ih := run_storeCells_row (P := P) b T fr rest o (i + 1) (cs.setIfInBounds (o + i) v) (w.setRow b (cs.setIfInBounds (o + i) v)) (setRow_heap w b cs _ T _ hg) (by simpa using hfz) (by simp at hl ⊢; omega) (fun x hx => h1 x (by simp [hx]))
    simp only [storeCells, Sem.run_bind, hst, Result.andThen_ok, ih, setRow_setRow]
    congr 3
    have e := list_seg_step cs.toList (o + i) v rest (by simp at hl ⊢; omega)
    simpa [Array.toList_setIfInBounds, Nat.add_assoc] using e

theorem splice_get {α : Type} (l v : List α) (p k : Nat) (h : p + v.length ≤ l.length) :
    (l.take p ++ v ++ l.drop (p + v.length))[k]? = if k < p then l[k]? else if k < p + v.length then v[k - p]? else l[k]? := by
  have h1 : (l.take p).length = p := by simp; omega
  rw [List.append_assoc, List.getElem?_append, h1]
  split
  · rename_i hk; rw [List.getElem?_take, if_pos hk]
  · rename_i hk
    rw [List.getElem?_append]
    split
    · rename_i hk2
      rw [if_pos (by omega)]
    · rename_i hk2
      rw [if_neg (by omega), List.getElem?_drop]
      congr 1
      omega

theorem splice_chunk {α : Type} (l v : List α) (i s off : Nat) (h : i * s + s ≤ l.length) (hv : off + v.length ≤ s) :
    ((l.take (i * s + off) ++ v ++ l.drop (i * s + off + v.length)).drop (i * s)).take s = ((l.drop (i * s)).take s).take off ++ v ++ ((l.drop (i * s)).take s).drop (off + v.length) := by
  apply List.ext_getElem?
  intro m
  rw [splice_get _ _ _ _ (by simp; omega)]
  simp only [List.getElem?_take, List.getElem?_drop]
  rw [splice_get _ _ _ _ (by omega)]
  by_cases m1 : m < s
  · by_cases m2 : m < off
    · simp [m1, m2]
    · by_cases m3 : m < off + v.length
      · simp [m1, m2, m3, show i * s + m < i * s + off + v.length by omega, show i * s + m - (i * s + off) = m - off by omega]
      · simp [m1, m2, m3, show ¬ i * s + m < i * s + off + v.length by omega]
  · rw [if_neg m1, if_neg (by omega), if_neg (by omega), if_neg m1]

theorem splice_other {α : Type} (l v : List α) (i j s off : Nat) (h : i * s + s ≤ l.length) (hv : off + v.length ≤ s) (hj : j ≠ i) :
    ((l.take (i * s + off) ++ v ++ l.drop (i * s + off + v.length)).drop (j * s)).take s = (l.drop (j * s)).take s := by
  apply List.ext_getElem?
  intro m
  simp only [List.getElem?_take, List.getElem?_drop]
  rw [splice_get _ _ _ _ (by omega)]
  by_cases m1 : m < s
  · rw [if_pos m1, if_pos m1]
    rcases Nat.lt_or_gt_of_ne hj with hlt | hgt
    · have := Nat.mul_le_mul_right s (show j + 1 ≤ i by omega)
      rw [Nat.add_mul] at this
      rw [if_pos (by omega)]
    · have := Nat.mul_le_mul_right s (show i + 1 ≤ j by omega)
      rw [Nat.add_mul] at this
      rw [if_neg (by omega), if_neg (by omega)]
  · rw [if_neg m1, if_neg m1]

theorem setRow_size (w : World) (b : Nat) (cs : Array Value) : (w.setRow b cs).heap.size = w.heap.size := by simp [World.setRow]

theorem opStore_sound {P : Program} (hs : SimE W0 okIn B us tm ob nt E a) {nm : Nat} {T : TypeId} {x y : AV} {v z : Value} {q : List Prop} {u : Upd} (h : opStore P T ob x y = some (q, u)) (hq : ∀ p ∈ q, p)
    (hx : VR E x v) (hy : VR E y z) (hn : y.nm us) : ∃ E', (Instr.storeAt T v z).run P E.w = .ok () E'.w ∧ Evo W0 okIn B us (usn us nm) E E' u := by
  unfold opStore at h
  split at h
  · rename_i cs sz hcs hsz
    split at h
    · rename_i hb
      have hlen := beq_true hb
      rw [lenA_eq] at hlen
      obtain ⟨g1, g2, g3⟩ := cellsA_sound hcs hy
      have hvl := g1.length
      have hzs : z.cells.size = sz := by simp at hvl; omega
      have hrun : ∀ ad : Addr, (Instr.storeAt T (.pointer (some ad)) z).run P E.w = (storeCells ad z.cells.toList).run P E.w := by
        intro ad
        simp [Instr.storeAt, Instr.sureAddr, storeVar, run_sizeT E.w hsz, hzs]
      split at h
      · rename_i n off
        split at h
        · rename_i l hob
          split at h
          · rename_i l' hset
            rw [fvl_eq] at h
            simp only [Option.some.injEq, Prod.mk.injEq] at h
            obtain ⟨rfl, rfl⟩ := h
            obtain ⟨h1, h2, h3⟩ := hs.obj n _ hob
            obtain ⟨b, cells, T', fr, k1, k2, k3, k4⟩ := h1
            simp only [VR] at hx
            obtain ⟨b', hb', rfl⟩ := hx.2 _ k1
            simp only [Option.some.injEq, Addr.mk.injEq, and_true] at hb'
            subst hb'
            have hown : owns E n b := ⟨_, k1, rfl, rfl⟩
            have hle := (setAtA_eq hset).1
            have hcl := k4.length
            have hle' : off + 0 + z.cells.toList.length ≤ cells.size := by simp at hcl hvl ⊢; omega
            have hst := run_storeCells_row (P := P) b T' fr z.cells.toList off 0 cells E.w k2 k3 hle' g2
            simp only [Nat.add_zero] at hst hle'
            have hext : ∀ c, c < E.w.heap.size → ¬ owns E n c → (E.w.setRow b (cells.toList.take off ++ z.cells.toList ++ cells.toList.drop (off + z.cells.toList.length)).toArray).heap[c]? = E.w.heap[c]? :=
              fun c hc hno => setRow_other _ _ _ _ fun hcb => hno (hcb ▸ hown)
            refine ⟨⟨_, E.mu, E.ok⟩, by rw [hrun]; exact hst, Evo.set hs.env h3 hext (setRow_size _ _ _) rfl rfl rfl ?_ (setAtA_nms hset (g3 us hn) h2)⟩
            refine ⟨b, _, T', fr, k1, setRow_heap E.w b cells _ T' fr k2, ?_, ?_⟩
            · intro i hi
              refine k3 i ?_
              simp at hi
              simp at hle'
              omega
            · exact VRL.mono (goes_set hs.env hext) _ _ (setAtA_nms hset (g3 us hn) h2) (by simpa using setAtA_sound hset g1 k4)
          · simp at h
        · simp at h
      · rename_i n off i m
        split at h
        · rename_i l c hob
          split at h
          · rename_i hb
            split at h
            · rename_i l1 hw
              split at h
              · rename_i l' hset
                rw [fvl_eq] at h
                simp only [Option.some.injEq, Prod.mk.injEq] at h
                obtain ⟨rfl, rfl⟩ := h
                obtain ⟨h1, h2, h3⟩ := hs.obj n _ hob
                obtain ⟨b, cells, T', fr, k1, k2, k3, k4⟩ := h1
                simp only [VR] at hx
                obtain ⟨him, _, hx⟩ := hx
                obtain ⟨b', hb', rfl⟩ := hx _ k1
                simp only [Option.some.injEq, Addr.mk.injEq, and_true] at hb'
                subst hb'
                have hown : owns E n b := ⟨_, k1, rfl, rfl⟩
                have hle0 := Nat.le_of_ble_eq_true hb
                rw [lenA_eq] at hle0
                rw [takeA_eq, dropA_eq] at hw
                have hcl := k4.length
                simp at hcl
                -- the one cell
                simp only [VRL] at g1
                obtain ⟨z0, zr, hz0, hz1, hz2⟩ := g1
                subst hz2
                have hw2 := homW_sound hw ((k4.drop off).take m) hz1 (by simp; omega)
                have hzl : z.cells.toList.length = 1 := by rw [hz0]; rfl
                have hle' : (off + i) + 0 + z.cells.toList.length ≤ cells.size := by rw [hzl]; omega
                have hst := run_storeCells_row (P := P) b T' fr z.cells.toList (off + i) 0 cells E.w k2 k3 hle' g2
                simp only [Nat.add_zero] at hst hle'
                have hnew : cells.toList.take (off + i) ++ z.cells.toList ++ cells.toList.drop (off + i + z.cells.toList.length) = cells.toList.take off ++ ((cells.toList.drop off).take m).set i z0 ++ cells.toList.drop (off + m) := by
                  rw [hz0]
                  have e1 : cells.toList.take (off + i) ++ [z0] ++ cells.toList.drop (off + i + [z0].length) = cells.toList.set (off + i) z0 := by
                    rw [List.set_eq_take_append_cons_drop, if_pos (by simp; omega)]
                    simp
                  have e2 : cells.toList.take off ++ (cells.toList.drop off).take m ++ cells.toList.drop (off + m) = cells.toList := by
                    rw [List.append_assoc, ← List.drop_drop, List.take_append_drop, List.take_append_drop]
                  rw [e1]
                  conv => lhs; rw [← e2]
                  have e3 : off + i - (cells.toList.take off).length = i := by rw [List.length_take, Array.length_toList]; omega
                  rw [List.append_assoc, List.set_append_right _ _ (by rw [List.length_take, Array.length_toList]; omega), e3, List.set_append_left _ _ (by simp; omega), List.append_assoc]
                rw [hnew] at hst
                have hext : ∀ c, c < E.w.heap.size → ¬ owns E n c → (E.w.setRow b (cells.toList.take off ++ ((cells.toList.drop off).take m).set i z0 ++ cells.toList.drop (off + m)).toArray).heap[c]? = E.w.heap[c]? :=
                  fun c hc hno => setRow_other _ _ _ _ fun hcb => hno (hcb ▸ hown)
                have hnms : AV.nms us l' := setAtA_nms hset (hw2.2 us) h2
                refine ⟨⟨_, E.mu, E.ok⟩, by rw [hrun]; exact hst, Evo.set hs.env h3 hext (setRow_size _ _ _) rfl rfl rfl ?_ hnms⟩
                refine ⟨b, _, T', fr, k1, setRow_heap E.w b cells _ T' fr k2, ?_, ?_⟩
                · intro j hj
                  refine k3 j ?_
                  simp at hj
                  omega
                · have hlen3 : (((cells.toList.drop off).take m).set i z0).length = m := by simp; omega
                  have hh := setAtA_sound hset hw2.1 k4
                  rw [hlen3] at hh
                  exact VRL.mono (goes_set hs.env hext) _ _ hnms (by simpa using hh)
              · simp at h
            · simp at h
          · simp at h
        · simp at h
      · rename_i n e i off
        split at h
        · rename_i hf
          split at h
          · rename_i e' xs hob
            split at h
            · rename_i he
              subst he
              split at h
              · rename_i l' hset
                split at h
                · rename_i t hdec
                  simp only [Option.some.injEq, Prod.mk.injEq] at h
                  obtain ⟨rfl, rfl⟩ := h
                  have hi : i < xs.length := hq _ (List.Mem.head _)
                  obtain ⟨h1, h2, h3⟩ := hs.obj n _ hob
                  obtain ⟨L, k1, kl, k2⟩ := h1
                  rcases k2 with k2 | ⟨b, cells, T', fr, k3, k4, k5, k6, k7, k8, k9⟩
                  · omega
                  · simp only [VR] at hx
                    obtain ⟨b', hb', rfl⟩ := hx.2 _ k1
                    rw [k3] at hb'
                    simp only [Option.some.injEq, Addr.mk.injEq, and_true] at hb'
                    subst hb'
                    have hown : owns E n b := ⟨_, k1, k4, k3⟩
                    rw [getD_eq hi] at hset
                    have henc := enc_sound (E := E) e' hf _ _ (k9 i hi)
                    have hle := (setAtA_eq hset).1
                    have hcl := henc.length
                    have hsz1 : i * e'.size + e'.size ≤ cells.size := by
                      have := Nat.mul_le_mul_right e'.size (show i + 1 ≤ L.cap by omega)
                      rw [Nat.add_mul i 1] at this; omega
                    have hchunk : ((cells.toList.drop (i * e'.size)).take e'.size).length = e'.size := by simp; omega
                    have hle' : i * e'.size + off + 0 + z.cells.toList.length ≤ cells.size := by rw [hchunk] at hcl; simp at hvl ⊢; omega
                    have hst := run_storeCells_row (P := P) b T' fr z.cells.toList (i * e'.size + off) 0 cells E.w k5 k8 hle' g2
                    simp only [Nat.add_zero] at hst hle'
                    have hext : ∀ c, c < E.w.heap.size → ¬ owns E n c → (E.w.setRow b (cells.toList.take (i * e'.size + off) ++ z.cells.toList ++ cells.toList.drop (i * e'.size + off + z.cells.toList.length)).toArray).heap[c]? = E.w.heap[c]? :=
                      fun c hc hno => setRow_other _ _ _ _ fun hcb => hno (hcb ▸ hown)
                    have hok := ok_ext hs.env hext
                    refine ⟨⟨_, E.mu, E.ok⟩, by rw [hrun]; exact hst, Evo.set hs.env h3 hext (setRow_size _ _ _) rfl rfl rfl ?_ (by simp [AO.nm])⟩
                    have hnewlen : (cells.toList.take (i * e'.size + off) ++ z.cells.toList ++ cells.toList.drop (i * e'.size + off + z.cells.toList.length)).length = cells.size := by
                      simp
                      simp at hle'
                      omega
                    have hzl : off + z.cells.toList.length ≤ e'.size := by rw [hchunk] at hcl; simp at hvl ⊢; omega
                    refine ⟨L, k1, by simpa using kl, .inr ⟨b, _, T', fr, k3, k4, setRow_heap E.w b cells _ T' fr k5, by simpa [k6] using hnewlen, by simpa using k7, ?_, ?_⟩⟩
                    · intro j hj
                      exact k8 j (by rw [List.size_toArray, hnewlen] at hj; exact hj)
                    · intro j hj
                      refine LRs.mono hok (fun _ h => h) _ _ _ ?_
                      simp only [List.length_set] at hj
                      by_cases hji : j = i
                      · subst hji
                        simp only [List.getElem_set_self]
                        have := decS_all hdec (setAtA_sound hset g1 henc)
                        rw [List.toList_toArray, splice_chunk _ _ _ _ _ (by simpa using hsz1) hzl]
                        exact this
                      · simp only [List.getElem_set_ne (Ne.symm hji)]
                        rw [List.toList_toArray, splice_other _ _ _ _ _ _ (by simpa using hsz1) hzl hji]
                        exact k9 j hj
                · simp at h
              · simp at h
            · simp at h
          · simp at h
        · simp at h
      · simp at h
    · simp at h
  · simp at h

end
end Go.Tr
