/- Stores and appends: how the environment goes on. What is read of a slice; append; texts and bytes; made slices. Append. Append, conversions, made slices, slices of slices, choices: as the evaluator has them. Made slices, choices, the greatest and least, arrays out of slices. Rows that are given up when they are laid into others' rows. An operation: what the evaluator says of it is what the model does. An operation hangs on its operands' values alone, and on the objects that they name. Conditions: none but those that each theorem states. -/
import Derived.Test.YtfaaeeabiikhbaaGreatDoorBA
import Derived.Deep.AppendSrc
import Derived.Laws.AppendOwn
import Derived.Lib.ConvBytes
import Derived.Laws.BytesArg
import Derived.Deep.Upon
namespace Go.Tr
open Go
set_option linter.unusedVariables false
set_option linter.unusedSimpArgs false
section
variable {W0 : WX} {okIn B us : Nat → Prop} {tm : Nat → Option AV} {ob : Nat → Option AO} {nt : Nat} {E : Env} {a : Act}
theorem Evo.set (he : EnvOk W0 okIn B E) {nm n : Nat} (hn : us n) {w' : World} {o : AO}
    (hext : ∀ b, b < E.w.heap.size → ¬ owns E n b → w'.heap[b]? = E.w.heap[b]?) (hsz : w'.heap.size = E.w.heap.size) (hos : w'.os = E.w.os) (htape : w'.tape = E.w.tape) (hout : w'.output = E.w.output)
    (ho : ObjR ⟨w', E.mu, E.ok⟩ n o) (hon : o.nm us) : Evo W0 okIn B us (usn us nm) E ⟨w', E.mu, E.ok⟩ [(n, some o)] := by
  refine ⟨fun n h => .inl h, fun _ _ => rfl, fun n _ L' h => ⟨L', h, rfl, rfl, rfl⟩, ?_, ?_, ?_, fun b h => h, ?_⟩
  · intro m h
    rw [lkA_one] at h
    split at h <;> simp at h
  · intro m o' h
    rw [lkA_one] at h
    split at h
    · rename_i hm
      subst hm
      simp only [Option.some.injEq] at h
      subst h
      exact ⟨ho, AO.nm_mono (fun _ h => .inl h) _ hon, .inl hn⟩
    · simp at h
  · intro b hb hno
    refine hext b hb fun hown => ?_
    have := hno n hown
    rw [lkA_one, if_pos rfl] at this
    simp at this
  · refine ⟨fun n m b h1 h2 => he.inj n m b h1 h2, fun m b h => ?_, fun b hb => ?_, he.oki, fun b hb hB => ?_, by show _ ≤ w'.heap.size; rw [hsz]; exact he.sz, he.new, hos.trans he.os, htape.trans he.tape, hout.trans he.output, he.li⟩
    · have := he.own m b h
      exact ⟨this.1, by show b < w'.heap.size; rw [hsz]; exact this.2.1, this.2.2⟩
    · have := he.okl b hb
      exact ⟨by show b < w'.heap.size; rw [hsz]; exact this.1, this.2⟩
    · show w'.heap[b]? = _
      have := he.sz
      rw [hext b (by omega) fun hown => hB (he.own n b hown).1]
      exact he.fr b hb hB
theorem lkA_two {α : Type} {n nm m : Nat} {x y : α} : lkA [(n, x), (nm, y)] m = if m = n then some x else if m = nm then some y else none := by
  simp only [lkA]
  by_cases h : m = n
  · subst h; simp [beq_self]
  · simp only [beq_ne h, h, if_false]
    by_cases h2 : m = nm
    · subst h2; simp [beq_self]
    · simp [beq_ne h2, h2]
theorem Evo.move (he : EnvOk W0 okIn B E) (hlo : ∀ n, n < 16 → us n) {nm n : Nat} (hnm : ¬ us nm) (hn : us n) {w' : World} {L : Loc} {o : AO}
    (hext : ∀ b, b < E.w.heap.size → ¬ owns E n b → w'.heap[b]? = E.w.heap[b]?) (hsz : E.w.heap.size ≤ w'.heap.size) (hos : w'.os = E.w.os) (htape : w'.tape = E.w.tape) (hout : w'.output = E.w.output)
    (hL : L.own = true → ∃ b, L.base = some ⟨b, 0, none⟩ ∧ b < w'.heap.size ∧ (E.w.heap.size ≤ b ∨ owns E n b))
    (ho : ObjR ⟨w', setMu (setMu E.mu n none) nm (some L), E.ok⟩ nm o) (hon : o.nm us) :
    Evo W0 okIn B us (usn us nm) E ⟨w', setMu (setMu E.mu n none) nm (some L), E.ok⟩ [(n, none), (nm, some o)] := by
  have hne : n ≠ nm := fun h => hnm (h ▸ hn)
  have hmu : ∀ m, m ≠ n → m ≠ nm → setMu (setMu E.mu n none) nm (some L) m = E.mu m := fun m h1 h2 => by rw [setMu_ne _ _ h2, setMu_ne _ _ h1]
  have hmun : setMu (setMu E.mu n none) nm (some L) n = none := by rw [setMu_ne _ _ hne, setMu_same]
  have hown : ∀ m b, owns ⟨w', setMu (setMu E.mu n none) nm (some L), E.ok⟩ m b → (m = nm ∧ b < w'.heap.size ∧ (E.w.heap.size ≤ b ∨ owns E n b)) ∨ (m ≠ nm ∧ m ≠ n ∧ owns E m b) := by
    intro m b hb
    obtain ⟨L', h1, h2, h3⟩ := hb
    by_cases hm : m = nm
    · subst hm
      simp only [setMu_same, Option.some.injEq] at h1
      subst h1
      obtain ⟨b', g1, g2, g3⟩ := hL h2
      rw [h3] at g1
      simp only [Option.some.injEq, Addr.mk.injEq, and_true] at g1
      subst g1
      exact .inl ⟨rfl, g2, g3⟩
    · by_cases hm' : m = n
      · subst hm'
        simp only [hmun, reduceCtorEq] at h1
      · simp only [hmu m hm' hm] at h1
        exact .inr ⟨hm, hm', L', h1, h2, h3⟩
  refine ⟨fun n h => .inl h, ?_, ?_, ?_, ?_, ?_, fun b h => h, ?_⟩
  · intro m h
    rw [lkA_two] at h
    split at h
    · simp at h
    · rename_i h1
      split at h
      · simp at h
      · rename_i h2; exact hmu m h1 h2
  · intro m hm L' h
    have hm' : m ≠ nm := fun hh => hnm (hh ▸ hm)
    by_cases hmn : m = n
    · subst hmn
      simp only [hmun, reduceCtorEq] at h
    · simp only [hmu m hmn hm'] at h
      exact ⟨L', h, rfl, rfl, rfl⟩
  · intro m h
    rw [lkA_two] at h
    split at h
    · rename_i h1; subst h1; exact hmun
    · split at h <;> simp at h
  · intro m o' h
    rw [lkA_two] at h
    split at h
    · simp at h
    · split at h
      · rename_i h2
        subst h2
        simp only [Option.some.injEq] at h
        subst h
        exact ⟨ho, AO.nm_mono (fun _ h => .inl h) _ hon, .inr rfl⟩
      · simp at h
  · intro b hb hno
    refine hext b hb fun hown => ?_
    have := hno n hown
    rw [lkA_two, if_pos rfl] at this
    simp at this
  · refine ⟨?_, ?_, ?_, he.oki, ?_, ?_, he.new, hos.trans he.os, htape.trans he.tape, hout.trans he.output, ?_⟩
    · intro m k b h1 h2
      rcases hown m b h1 with ⟨rfl, h3, h4⟩ | ⟨h3, h3', h4⟩ <;> rcases hown k b h2 with ⟨rfl, h5, h6⟩ | ⟨h5, h5', h6⟩
      · rfl
      · rcases h4 with h4 | h4
        · have := (he.own k b h6).2.1; omega
        · exact absurd (he.inj n k b h4 h6).symm h5'
      · rcases h6 with h6 | h6
        · have := (he.own m b h4).2.1; omega
        · exact absurd (he.inj n m b h6 h4).symm h3'
      · exact he.inj m k b h4 h6
    · intro m b h1
      rcases hown m b h1 with ⟨rfl, h3, h4⟩ | ⟨h3, h3', h4⟩
      · rcases h4 with h4 | h4
        · refine ⟨he.new b (by have := he.sz; omega), h3, fun hok => ?_⟩
          have := (he.okl b hok).1; omega
        · have := he.own n b h4
          exact ⟨this.1, h3, this.2.2⟩
      · obtain ⟨g1, g2, g3⟩ := he.own m b h4
        exact ⟨g1, by show b < w'.heap.size; omega, g3⟩
    · intro b hb
      obtain ⟨g1, g2⟩ := he.okl b hb
      exact ⟨by show b < w'.heap.size; omega, g2⟩
    · intro b hb hB
      have := he.sz
      show w'.heap[b]? = _
      rw [hext b (by omega) fun hown => hB (he.own n b hown).1]
      exact he.fr b hb hB
    · exact Nat.le_trans he.sz hsz
    · intro m L' h hm
      have hne' : m ≠ nm := fun hh => hnm (hh ▸ hlo m hm)
      by_cases hmn : m = n
      · subst hmn
        simp only [hmun, reduceCtorEq] at h
      · simp only [hmu m hmn hne'] at h
        exact he.li m L' h hm
theorem goes_set (he : EnvOk W0 okIn B E) {n : Nat} {w' : World} (hext : ∀ b, b < E.w.heap.size → ¬ owns E n b → w'.heap[b]? = E.w.heap[b]?) : Goes us E ⟨w', E.mu, E.ok⟩ :=
  ⟨fun b hb => hext b (he.okl b hb).1 fun hown => (he.own n b hown).2.2 hb, fun b h => h, fun n hn L' h => ⟨L', h, rfl, rfl, rfl⟩⟩
theorem ok_ext (he : EnvOk W0 okIn B E) {n : Nat} {w' : World} (hext : ∀ b, b < E.w.heap.size → ¬ owns E n b → w'.heap[b]? = E.w.heap[b]?) : ∀ b, E.ok b → w'.heap[b]? = E.w.heap[b]? :=
  fun b hb => hext b (he.okl b hb).1 fun hown => (he.own n b hown).2.2 hb
theorem leaf_one {v : Value} (h : leafV v) : v.oneCell' = true := by cases v <;> simp [leafV] at h <;> rfl
theorem run_storeCells_row {P : Program} (b : Nat) (T : TypeId) (fr : Nat × Nat) : ∀ (vs : List Value) (o i : Nat) (cs : Array Value) (w : World), w.heap[b]? = some (.cells cs T fr) → unfrozen fr cs.size → o + i + vs.length ≤ cs.size → (∀ v ∈ vs, leafV v) →
    (storeCells ⟨b, o, none⟩ vs i).run P w = .ok () (w.setRow b (cs.toList.take (o + i) ++ vs ++ cs.toList.drop (o + i + vs.length)).toArray)
  | [], o, i, cs, w, hg, _, _, _ => by
    simp only [storeCells, List.append_nil, List.length_nil, Nat.add_zero, List.take_append_drop, Array.toArray_toList]
    rw [setRow_self w b cs T fr hg]
    rfl
  | v :: rest, o, i, cs, w, hg, hfz, hl, h1 => by
    have hi : o + i < cs.size := by simp at hl; omega
    have hcell : w.cell? ⟨b, o + i, none⟩ = some cs[o + i] := by simp [World.cell?, hg, hi]
    have hfro : w.frozen? ⟨b, o + i, none⟩ = false := by
      have := hfz (o + i) hi
      simp only [World.frozen?, hg]
      by_cases h : fr.1 ≤ o + i
      · have h2 : ¬ (o + i < fr.2) := fun hh => this ⟨h, hh⟩
        simp [h2]
      · simp [h]
    have hst : (store ((⟨b, o, none⟩ : Addr).add i) v).run P w = .ok () (w.setRow b (cs.setIfInBounds (o + i) v)) := by
      rw [add_mk, run_store P w _ v _ (leaf_one (h1 v (by simp))), hcell]
      simp [hfro, setCell_eq_setRow w b (o + i) cs T fr v hg]
    have ih := run_storeCells_row (P := P) b T fr rest o (i + 1) (cs.setIfInBounds (o + i) v) (w.setRow b (cs.setIfInBounds (o + i) v)) (setRow_heap w b cs _ T _ hg) (by simpa using hfz) (by simp at hl ⊢; omega) (fun x hx => h1 x (by simp [hx]))
    simp only [storeCells, Sem.run_bind, hst, Result.andThen_ok, ih, setRow_setRow]
    congr 3
    have e := list_seg_step cs.toList (o + i) v rest (by simp at hl ⊢; omega)
    simpa [Array.toList_setIfInBounds, Nat.add_assoc] using e
theorem splice_get {α : Type} (l v : List α) (p k : Nat) (h : p + v.length ≤ l.length) :
    (l.take p ++ v ++ l.drop (p + v.length))[k]? = if k < p then l[k]? else if k < p + v.length then v[k - p]? else l[k]? := by
  have h1 : (l.take p).length = p := by simp; omega
  rw [List.append_assoc, List.getElem?_append, h1]
  split
  · rename_i hk; rw [List.getElem?_take, if_pos hk]
  · rename_i hk
    rw [List.getElem?_append]
    split
    · rename_i hk2
      rw [if_pos (by omega)]
    · rename_i hk2
      rw [if_neg (by omega), List.getElem?_drop]
      congr 1
      omega
theorem splice_chunk {α : Type} (l v : List α) (i s off : Nat) (h : i * s + s ≤ l.length) (hv : off + v.length ≤ s) :
    ((l.take (i * s + off) ++ v ++ l.drop (i * s + off + v.length)).drop (i * s)).take s = ((l.drop (i * s)).take s).take off ++ v ++ ((l.drop (i * s)).take s).drop (off + v.length) := by
  apply List.ext_getElem?
  intro m
  rw [splice_get _ _ _ _ (by simp; omega)]
  simp only [List.getElem?_take, List.getElem?_drop]
  rw [splice_get _ _ _ _ (by omega)]
  by_cases m1 : m < s
  · by_cases m2 : m < off
    · simp [m1, m2]
    · by_cases m3 : m < off + v.length
      · simp [m1, m2, m3, show i * s + m < i * s + off + v.length by omega, show i * s + m - (i * s + off) = m - off by omega]
      · simp [m1, m2, m3, show ¬ i * s + m < i * s + off + v.length by omega]
  · rw [if_neg m1, if_neg (by omega), if_neg (by omega), if_neg m1]
theorem splice_other {α : Type} (l v : List α) (i j s off : Nat) (h : i * s + s ≤ l.length) (hv : off + v.length ≤ s) (hj : j ≠ i) :
    ((l.take (i * s + off) ++ v ++ l.drop (i * s + off + v.length)).drop (j * s)).take s = (l.drop (j * s)).take s := by
  apply List.ext_getElem?
  intro m
  simp only [List.getElem?_take, List.getElem?_drop]
  rw [splice_get _ _ _ _ (by omega)]
  by_cases m1 : m < s
  · rw [if_pos m1, if_pos m1]
    rcases Nat.lt_or_gt_of_ne hj with hlt | hgt
    · have := Nat.mul_le_mul_right s (show j + 1 ≤ i by omega)
      rw [Nat.add_mul] at this
      rw [if_pos (by omega)]
    · have := Nat.mul_le_mul_right s (show i + 1 ≤ j by omega)
      rw [Nat.add_mul] at this
      rw [if_neg (by omega), if_neg (by omega)]
  · rw [if_neg m1, if_neg m1]
theorem setRow_size (w : World) (b : Nat) (cs : Array Value) : (w.setRow b cs).heap.size = w.heap.size := by simp [World.setRow]
theorem opStore_sound {P : Program} (hs : SimE W0 okIn B us tm ob nt E a) {nm : Nat} {T : TypeId} {x y : AV} {v z : Value} {q : List Prop} {u : Upd} (h : opStore P T ob x y = some (q, u)) (hq : ∀ p ∈ q, p)
    (hx : VR E x v) (hy : VR E y z) (hn : y.nm us) : ∃ E', (Instr.storeAt T v z).run P E.w = .ok () E'.w ∧ Evo W0 okIn B us (usn us nm) E E' u := by
  unfold opStore at h
  split at h
  · rename_i cs sz hcs hsz
    split at h
    · rename_i hb
      have hlen := beq_true hb
      rw [lenA_eq] at hlen
      obtain ⟨g1, g2, g3⟩ := cellsA_sound hcs hy
      have hvl := g1.length
      have hzs : z.cells.size = sz := by simp at hvl; omega
      have hrun : ∀ ad : Addr, (Instr.storeAt T (.pointer (some ad)) z).run P E.w = (storeCells ad z.cells.toList).run P E.w := by
        intro ad
        simp [Instr.storeAt, Instr.sureAddr, storeVar, run_sizeT E.w hsz, hzs]
      split at h
      · rename_i n off
        split at h
        · rename_i l hob
          split at h
          · rename_i l' hset
            rw [fvl_eq] at h
            simp only [Option.some.injEq, Prod.mk.injEq] at h
            obtain ⟨rfl, rfl⟩ := h
            obtain ⟨h1, h2, h3⟩ := hs.obj n _ hob
            obtain ⟨b, cells, T', fr, k1, k2, k3, k4⟩ := h1
            simp only [VR] at hx
            obtain ⟨b', hb', rfl⟩ := hx.2 _ k1
            simp only [Option.some.injEq, Addr.mk.injEq, and_true] at hb'
            subst hb'
            have hown : owns E n b := ⟨_, k1, rfl, rfl⟩
            have hle := (setAtA_eq hset).1
            have hcl := k4.length
            have hle' : off + 0 + z.cells.toList.length ≤ cells.size := by simp at hcl hvl ⊢; omega
            have hst := run_storeCells_row (P := P) b T' fr z.cells.toList off 0 cells E.w k2 k3 hle' g2
            simp only [Nat.add_zero] at hst hle'
            have hext : ∀ c, c < E.w.heap.size → ¬ owns E n c → (E.w.setRow b (cells.toList.take off ++ z.cells.toList ++ cells.toList.drop (off + z.cells.toList.length)).toArray).heap[c]? = E.w.heap[c]? :=
              fun c hc hno => setRow_other _ _ _ _ fun hcb => hno (hcb ▸ hown)
            refine ⟨⟨_, E.mu, E.ok⟩, by rw [hrun]; exact hst, Evo.set hs.env h3 hext (setRow_size _ _ _) rfl rfl rfl ?_ (setAtA_nms hset (g3 us hn) h2)⟩
            refine ⟨b, _, T', fr, k1, setRow_heap E.w b cells _ T' fr k2, ?_, ?_⟩
            · intro i hi
              refine k3 i ?_
              simp at hi
              simp at hle'
              omega
            · exact VRL.mono (goes_set hs.env hext) _ _ (setAtA_nms hset (g3 us hn) h2) (by simpa using setAtA_sound hset g1 k4)
          · simp at h
        · simp at h
      · rename_i n off i m
        split at h
        · rename_i l c hob
          split at h
          · rename_i hb
            split at h
            · rename_i l1 hw
              split at h
              · rename_i l' hset
                rw [fvl_eq] at h
                simp only [Option.some.injEq, Prod.mk.injEq] at h
                obtain ⟨rfl, rfl⟩ := h
                obtain ⟨h1, h2, h3⟩ := hs.obj n _ hob
                obtain ⟨b, cells, T', fr, k1, k2, k3, k4⟩ := h1
                simp only [VR] at hx
                obtain ⟨him, _, hx⟩ := hx
                obtain ⟨b', hb', rfl⟩ := hx _ k1
                simp only [Option.some.injEq, Addr.mk.injEq, and_true] at hb'
                subst hb'
                have hown : owns E n b := ⟨_, k1, rfl, rfl⟩
                have hle0 := Nat.le_of_ble_eq_true hb
                rw [lenA_eq] at hle0
                rw [takeA_eq, dropA_eq] at hw
                have hcl := k4.length
                simp at hcl
                -- the one cell
                simp only [VRL] at g1
                obtain ⟨z0, zr, hz0, hz1, hz2⟩ := g1
                subst hz2
                have hw2 := homW_sound hw ((k4.drop off).take m) hz1 (by simp; omega)
                have hzl : z.cells.toList.length = 1 := by rw [hz0]; rfl
                have hle' : (off + i) + 0 + z.cells.toList.length ≤ cells.size := by rw [hzl]; omega
                have hst := run_storeCells_row (P := P) b T' fr z.cells.toList (off + i) 0 cells E.w k2 k3 hle' g2
                simp only [Nat.add_zero] at hst hle'
                have hnew : cells.toList.take (off + i) ++ z.cells.toList ++ cells.toList.drop (off + i + z.cells.toList.length) = cells.toList.take off ++ ((cells.toList.drop off).take m).set i z0 ++ cells.toList.drop (off + m) := by
                  rw [hz0]
                  have e1 : cells.toList.take (off + i) ++ [z0] ++ cells.toList.drop (off + i + [z0].length) = cells.toList.set (off + i) z0 := by
                    rw [List.set_eq_take_append_cons_drop, if_pos (by simp; omega)]
                    simp
                  have e2 : cells.toList.take off ++ (cells.toList.drop off).take m ++ cells.toList.drop (off + m) = cells.toList := by
                    rw [List.append_assoc, ← List.drop_drop, List.take_append_drop, List.take_append_drop]
                  rw [e1]
                  conv => lhs; rw [← e2]
                  have e3 : off + i - (cells.toList.take off).length = i := by rw [List.length_take, Array.length_toList]; omega
                  rw [List.append_assoc, List.set_append_right _ _ (by rw [List.length_take, Array.length_toList]; omega), e3, List.set_append_left _ _ (by simp; omega), List.append_assoc]
                rw [hnew] at hst
                have hext : ∀ c, c < E.w.heap.size → ¬ owns E n c → (E.w.setRow b (cells.toList.take off ++ ((cells.toList.drop off).take m).set i z0 ++ cells.toList.drop (off + m)).toArray).heap[c]? = E.w.heap[c]? :=
                  fun c hc hno => setRow_other _ _ _ _ fun hcb => hno (hcb ▸ hown)
                have hnms : AV.nms us l' := setAtA_nms hset (hw2.2 us) h2
                refine ⟨⟨_, E.mu, E.ok⟩, by rw [hrun]; exact hst, Evo.set hs.env h3 hext (setRow_size _ _ _) rfl rfl rfl ?_ hnms⟩
                refine ⟨b, _, T', fr, k1, setRow_heap E.w b cells _ T' fr k2, ?_, ?_⟩
                · intro j hj
                  refine k3 j ?_
                  simp at hj
                  omega
                · have hlen3 : (((cells.toList.drop off).take m).set i z0).length = m := by simp; omega
                  have hh := setAtA_sound hset hw2.1 k4
                  rw [hlen3] at hh
                  exact VRL.mono (goes_set hs.env hext) _ _ hnms (by simpa using hh)
              · simp at h
            · simp at h
          · simp at h
        · simp at h
      · rename_i n e i off
        split at h
        · rename_i hf
          split at h
          · rename_i e' xs hob
            split at h
            · rename_i he
              subst he
              split at h
              · rename_i l' hset
                split at h
                · rename_i t hdec
                  simp only [Option.some.injEq, Prod.mk.injEq] at h
                  obtain ⟨rfl, rfl⟩ := h
                  have hi : i < xs.length := hq _ (List.Mem.head _)
                  obtain ⟨h1, h2, h3⟩ := hs.obj n _ hob
                  obtain ⟨L, k1, kl, k2⟩ := h1
                  rcases k2 with k2 | ⟨b, cells, T', fr, k3, k4, k5, k6, k7, k8, k9⟩
                  · omega
                  · simp only [VR] at hx
                    obtain ⟨b', hb', rfl⟩ := hx.2 _ k1
                    rw [k3] at hb'
                    simp only [Option.some.injEq, Addr.mk.injEq, and_true] at hb'
                    subst hb'
                    have hown : owns E n b := ⟨_, k1, k4, k3⟩
                    rw [getD_eq hi] at hset
                    have henc := enc_sound (E := E) e' hf _ _ (k9 i hi)
                    have hle := (setAtA_eq hset).1
                    have hcl := henc.length
                    have hsz1 : i * e'.size + e'.size ≤ cells.size := by
                      have := Nat.mul_le_mul_right e'.size (show i + 1 ≤ L.cap by omega)
                      rw [Nat.add_mul i 1] at this; omega
                    have hchunk : ((cells.toList.drop (i * e'.size)).take e'.size).length = e'.size := by simp; omega
                    have hle' : i * e'.size + off + 0 + z.cells.toList.length ≤ cells.size := by rw [hchunk] at hcl; simp at hvl ⊢; omega
                    have hst := run_storeCells_row (P := P) b T' fr z.cells.toList (i * e'.size + off) 0 cells E.w k5 k8 hle' g2
                    simp only [Nat.add_zero] at hst hle'
                    have hext : ∀ c, c < E.w.heap.size → ¬ owns E n c → (E.w.setRow b (cells.toList.take (i * e'.size + off) ++ z.cells.toList ++ cells.toList.drop (i * e'.size + off + z.cells.toList.length)).toArray).heap[c]? = E.w.heap[c]? :=
                      fun c hc hno => setRow_other _ _ _ _ fun hcb => hno (hcb ▸ hown)
                    have hok := ok_ext hs.env hext
                    refine ⟨⟨_, E.mu, E.ok⟩, by rw [hrun]; exact hst, Evo.set hs.env h3 hext (setRow_size _ _ _) rfl rfl rfl ?_ (by simp [AO.nm])⟩
                    have hnewlen : (cells.toList.take (i * e'.size + off) ++ z.cells.toList ++ cells.toList.drop (i * e'.size + off + z.cells.toList.length)).length = cells.size := by
                      simp
                      simp at hle'
                      omega
                    have hzl : off + z.cells.toList.length ≤ e'.size := by rw [hchunk] at hcl; simp at hvl ⊢; omega
                    refine ⟨L, k1, by simpa using kl, .inr ⟨b, _, T', fr, k3, k4, setRow_heap E.w b cells _ T' fr k5, by simpa [k6] using hnewlen, by simpa using k7, ?_, ?_⟩⟩
                    · intro j hj
                      exact k8 j (by rw [List.size_toArray, hnewlen] at hj; exact hj)
                    · intro j hj
                      refine LRs.mono hok (fun _ h => h) _ _ _ ?_
                      simp only [List.length_set] at hj
                      by_cases hji : j = i
                      · subst hji
                        simp only [List.getElem_set_self]
                        have := decS_all hdec (setAtA_sound hset g1 henc)
                        rw [List.toList_toArray, splice_chunk _ _ _ _ _ (by simpa using hsz1) hzl]
                        exact this
                      · simp only [List.getElem_set_ne (Ne.symm hji)]
                        rw [List.toList_toArray, splice_other _ _ _ _ _ _ (by simpa using hsz1) hzl hji]
                        exact k9 j hj
                · simp at h
              · simp at h
            · simp at h
          · simp at h
        · simp at h
      · simp at h
    · simp at h
  · simp at h
end
end Go.Tr
namespace Go.Tr
open Go
set_option linter.unusedVariables false
set_option linter.unusedSimpArgs false
section
variable {W0 : WX} {okIn B us : Nat → Prop} {tm : Nat → Option AV} {ob : Nat → Option AO} {nt : Nat} {E : Env} {a : Act}
def Rd (w : World) (ok okb : Nat → Prop) (e : Sh) (xs : List e.T) (v : Value) : Prop :=
  ∃ base cap, v = .slice base xs.length cap ∧ xs.length ≤ cap ∧ (xs.length = 0 ∨ ∃ b o, base = some ⟨b, o, none⟩ ∧ okb b ∧ ∀ i (h : i < xs.length), ∃ cs, cs.length = e.size ∧ Row w b (o + i * e.size) cs ∧ LRs w ok e (xs[i]'h) cs)
def okV (E : Env) (x : AV) (b : Nat) : Prop := E.ok b ∨ ∃ n, x.has n = true ∧ owns E n b
theorem Rd.of_fsl {w : World} {ok : Nat → Prop} {e : Sh} {xs : List e.T} {v : Value} (h : LRs w ok (.sl e) xs [v]) : Rd w ok ok e xs v := by
  simp only [LRs] at h
  obtain ⟨base, cap, hv, hc, h⟩ := h
  simp only [List.cons.injEq, and_true] at hv
  subst hv
  refine ⟨base, cap, rfl, hc, ?_⟩
  rcases h with h | ⟨b, o, h1, h2, h3⟩
  · exact .inl h
  · exact .inr ⟨b, o, h1, h2, h3⟩
theorem Rd.weak {w : World} {ok okb okb' : Nat → Prop} {e : Sh} {xs : List e.T} {v : Value} (h : Rd w ok okb e xs v) (hb : ∀ b, okb b → okb' b) : Rd w ok okb' e xs v := by
  obtain ⟨base, cap, h1, h2, h3⟩ := h
  refine ⟨base, cap, h1, h2, ?_⟩
  rcases h3 with h3 | ⟨b, o, h4, h5, h6⟩
  · exact .inl h3
  · exact .inr ⟨b, o, h4, hb _ h5, h6⟩
theorem sliceA_length {α : Type} {lo hi : Nat} {xs : List α} (h1 : lo ≤ hi) (h : hi ≤ xs.length) : (sliceA lo hi xs).length = hi - lo := by
  simp [sliceA]; omega
theorem sliceA_get {α : Type} {lo hi : Nat} {xs : List α} {i : Nat} (h : hi ≤ xs.length) (hi' : i < (sliceA lo hi xs).length) : (sliceA lo hi xs)[i] = xs[lo + i]'(by simp [sliceA] at hi'; omega) := by
  simp [sliceA]
theorem litRows_cells {e : Sh} : ∀ {l : List AV} {vs : List Value} {i : Nat} {ts : List e.T}, litRows e i (idxA i l) = some ts → VRL E l vs → (∀ v ∈ vs, leafV v) →
    ts.length = l.length ∧ ∀ j (h : j < ts.length) (g : j < vs.length), LRs E.w E.ok e (ts[j]'h) [vs[j]'g] ∧ e.size = 1
  | [], vs, i, ts, h, hv, _ => by
    simp only [idxA, litRows, Option.some.injEq] at h
    subst h
    exact ⟨rfl, fun j hj => by simp at hj⟩
  | x :: l, vs, i, ts, h, hv, hlf => by
    simp only [VRL] at hv
    obtain ⟨v, r, rfl, hv1, hr⟩ := hv
    simp only [idxA] at h
    unfold litRows at h
    split at h
    · rename_i cs1 hb hcs1
      split at h
      · rename_i t hdec
        split at h
        · rename_i ts' hts
          simp only [Option.some.injEq] at h
          subst h
          obtain ⟨g1, g2, g3⟩ := cellsA_sound hcs1 hv1
          rw [leafV_cells (hlf v (by simp))] at g1
          have hl := decS_all hdec g1
          obtain ⟨k1, k2⟩ := litRows_cells hts hr (fun y hy => hlf y (by simp [hy]))
          refine ⟨by simp [k1], fun j hj hj' => ?_⟩
          cases j with
          | zero => exact ⟨hl, by have := LRs.length e _ _ hl; simpa using this.symm⟩
          | succ j => exact k2 j (by simpa using hj) (by simpa using hj')
        · simp at h
      · simp at h
    · simp at h
theorem readA_sound (hs : ObS E us ob) {x : AV} {v : Value} {e : Sh} {xs : List e.T} {q : List Prop} (h : readA ob e x = some (xs, q)) (hq : ∀ p ∈ q, p) (hx : VR E x v) : Rd E.w E.ok (okV E x) e xs v := by
  unfold readA at h
  split at h
  · split at h
    · rename_i he
      subst he
      simp only [Option.some.injEq, Prod.mk.injEq] at h
      obtain ⟨rfl, rfl⟩ := h
      simp only [VR] at hx
      exact (Rd.of_fsl hx).weak fun b hb => .inl hb
    · simp at h
  · simp only [Option.some.injEq, Prod.mk.injEq] at h
    obtain ⟨rfl, rfl⟩ := h
    simp only [VR] at hx
    exact ⟨none, 0, hx, Nat.le_refl _, .inl rfl⟩
  · rename_i n e1 off len
    split at h
    · rename_i e' ys hob
      split at h
      · rename_i he
        subst he
        split at h
        case isFalse => simp at h
        rename_i he
        subst he
        simp only [Option.some.injEq, Prod.mk.injEq] at h
        obtain ⟨rfl, rfl⟩ := h
        have hle : off + len ≤ ys.length := hq _ (List.Mem.head _)
        obtain ⟨h1, h2, h3⟩ := hs.obj n _ hob
        obtain ⟨L, g1, _, g2⟩ := h1
        simp only [VR] at hx
        obtain ⟨base, rfl, k1, k2, k3⟩ := hx.2 L g1
        have hlen : (sliceA off (off + len) ys).length = len := by rw [sliceA_length (by omega) hle]; omega
        refine ⟨base, L.cap - off, by rw [hlen], by rw [hlen]; omega, ?_⟩
        by_cases h0 : len = 0
        · exact .inl (by rw [hlen]; exact h0)
        · refine .inr ?_
          rcases g2 with g2 | ⟨b, cs, T, fr, f1, f2, f3, f4, f5, f6, f7⟩
          · omega
          · refine ⟨b, off * e1.size, ?_, .inr ⟨n, by simp [AV.has, beq_self], L, g1, f2, f1⟩, fun i hi => ?_⟩
            · rw [k3 (by omega), f1]; simp [add_mk]
            · rw [sliceA_get hle hi]
              have hi' : off + i < ys.length := by rw [hlen] at hi; omega
              refine ⟨_, ?_, ?_, f7 (off + i) hi'⟩
              · exact LRs.length e1 _ _ (f7 (off + i) hi')
              · have hrow := ((cells_row f3).drop ((off + i) * e1.size)).take e1.size
                rw [Nat.zero_add, Nat.add_mul] at hrow
                rw [Nat.add_mul]
                exact hrow
      · simp at h
    · rename_i e' ys hob
      split at h
      · rename_i he
        subst he
        split at h
        case isFalse => simp at h
        rename_i he
        subst he
        simp only [Option.some.injEq, Prod.mk.injEq] at h
        obtain ⟨rfl, rfl⟩ := h
        have hle : off + len ≤ ys.length := hq _ (List.Mem.head _)
        obtain ⟨h1, h2, h3⟩ := hs.obj n _ hob
        obtain ⟨L, g1, _, g2, g3, g4⟩ := h1
        simp only [VR] at hx
        obtain ⟨base, rfl, k1, k2, k3⟩ := hx.2 L g1
        have hlen : (sliceA off (off + len) ys).length = len := by rw [sliceA_length (by omega) hle]; omega
        refine ⟨base, L.cap - off, by rw [hlen], by rw [hlen]; omega, ?_⟩
        by_cases h0 : len = 0
        · exact .inl (by rw [hlen]; exact h0)
        · refine .inr ?_
          have hr := Rd.of_fsl g4
          obtain ⟨base', cap', hv, _, hh⟩ := hr
          simp only [Value.slice.injEq] at hv
          obtain ⟨rfl, _, rfl⟩ := hv
          rcases hh with hh | ⟨b, o, f1, f0, f2⟩
          · omega
          · refine ⟨b, o + off * e1.size, ?_, .inl f0, fun i hi => ?_⟩
            · rw [k3 (by omega), f1]; simp [add_mk]
            · rw [sliceA_get hle hi]
              have hi' : off + i < ys.length := by rw [hlen] at hi; omega
              obtain ⟨cs, c1, c2, c3⟩ := f2 (off + i) hi'
              refine ⟨cs, c1, ?_, c3⟩
              rw [Nat.add_mul] at c2
              rw [Nat.add_assoc]
              exact c2
      · simp at h
    · simp at h
  · rename_i n e1
    split at h
    · rename_i e' ys hob
      split at h
      · rename_i he
        subst he
        split at h
        case isFalse => simp at h
        rename_i he
        subst he
        simp only [Option.some.injEq, Prod.mk.injEq] at h
        obtain ⟨rfl, rfl⟩ := h
        obtain ⟨h1, h2, h3⟩ := hs.obj n _ hob
        obtain ⟨L0, k1, rfl, k2, _⟩ := own_val (.inl h1) hx
        obtain ⟨L, g1, gl, g2⟩ := h1
        obtain rfl : L0 = L := Option.some.inj (k1.symm.trans g1)
        refine ⟨L0.base, L0.cap, rfl, k2, ?_⟩
        rcases g2 with g2 | ⟨b, cs, T, fr, f1, f2, f3, f4, f5, f6, f7⟩
        · exact .inl g2.2.1
        · refine .inr ⟨b, 0, f1, .inr ⟨n, by simp [AV.has, beq_self], L0, g1, f2, f1⟩, fun i hi => ?_⟩
          refine ⟨_, LRs.length e1 _ _ (f7 i hi), ?_, f7 i hi⟩
          exact ((cells_row f3).drop (i * e1.size)).take e1.size
      · simp at h
    · rename_i e' ys hob
      split at h
      · rename_i he
        subst he
        split at h
        case isFalse => simp at h
        rename_i he
        subst he
        simp only [Option.some.injEq, Prod.mk.injEq] at h
        obtain ⟨rfl, rfl⟩ := h
        obtain ⟨h1, h2, h3⟩ := hs.obj n _ hob
        obtain ⟨L0, k1, rfl, k2, _⟩ := own_val (.inr h1) hx
        obtain ⟨L, g1, gl, g2, g3, g4⟩ := h1
        obtain rfl : L0 = L := Option.some.inj (k1.symm.trans g1)
        exact (Rd.of_fsl g4).weak fun b hb => .inl hb
      · simp at h
    · simp at h
  · rename_i n off len
    split at h
    · rename_i l hob
      split at h
      · rename_i ts hb hlv hl
        simp only [Option.some.injEq, Prod.mk.injEq] at h
        obtain ⟨rfl, rfl⟩ := h
        have hle := Nat.le_of_ble_eq_true hb
        rw [lenA_eq] at hle
        rw [takeA_eq, dropA_eq] at hl hlv
        obtain ⟨h1, h2, h3⟩ := hs.obj n _ hob
        obtain ⟨b, cs, T, fr, g1, g2, g3, g4⟩ := h1
        simp only [VR] at hx
        obtain ⟨b', o, cap, hb', rfl, k1, k2⟩ := hx.2 _ g1
        simp only [Option.some.injEq, Addr.mk.injEq, and_true] at hb'
        subst hb'
        have hcl := g4.length
        obtain ⟨f1, f2⟩ := litRows_cells hl ((g4.drop off).take len) (leaves_of hlv ((g4.drop off).take len))
        have hlen : ts.length = len := by rw [f1]; simp; omega
        refine ⟨some ⟨b, o, none⟩, cap, by rw [hlen], by rw [hlen]; exact k1, ?_⟩
        by_cases h0 : len = 0
        · exact .inl (by omega)
        · refine .inr ⟨b, o, rfl, .inr ⟨n, by simp [AV.has, beq_self], _, g1, rfl, rfl⟩, fun i hi => ?_⟩
          have hio : o = off := k2 (by omega)
          subst hio
          have hi' : i < ((cs.toList.drop o).take len).length := by simp at hcl ⊢; omega
          obtain ⟨m1, m2⟩ := f2 i hi hi'
          refine ⟨_, by simp [m2], ?_, m1⟩
          intro j hj
          have hj0 : j = 0 := by simp at hj; exact hj
          subst hj0
          have hrow := cells_row g2 (o + i) (by simp at hi' ⊢; omega)
          simp only [List.getElem_cons_zero, Nat.add_zero, m2, Nat.mul_one]
          simp only [Nat.zero_add] at hrow
          rw [hrow]
          simp
      · simp at h
    · rename_i l hob
      split at h
      · rename_i ts hb hlv hl
        simp only [Option.some.injEq, Prod.mk.injEq] at h
        obtain ⟨rfl, rfl⟩ := h
        have hle := Nat.le_of_ble_eq_true hb
        rw [lenA_eq] at hle
        rw [takeA_eq, dropA_eq] at hl hlv
        obtain ⟨h1, h2, h3⟩ := hs.obj n _ hob
        obtain ⟨b, cs, T, fr, g1, g3, g2, g4⟩ := h1
        simp only [VR] at hx
        obtain ⟨b', o, cap, hb', rfl, k1, k2⟩ := hx.2 _ g1
        simp only [Option.some.injEq, Addr.mk.injEq, and_true] at hb'
        subst hb'
        have hcl := g4.length
        obtain ⟨f1, f2⟩ := litRows_cells hl ((g4.drop off).take len) (leaves_of hlv ((g4.drop off).take len))
        have hlen : ts.length = len := by rw [f1]; simp; omega
        refine ⟨some ⟨b, o, none⟩, cap, by rw [hlen], by rw [hlen]; exact k1, ?_⟩
        by_cases h0 : len = 0
        · exact .inl (by omega)
        · refine .inr ⟨b, o, rfl, .inl g3, fun i hi => ?_⟩
          have hio : o = off := k2 (by omega)
          subst hio
          have hi' : i < ((cs.toList.drop o).take len).length := by simp at hcl ⊢; omega
          obtain ⟨m1, m2⟩ := f2 i hi hi'
          refine ⟨_, by simp [m2], ?_, m1⟩
          intro j hj
          have hj0 : j = 0 := by simp at hj; exact hj
          subst hj0
          have hrow := cells_row g2 (o + i) (by simp at hi' ⊢; omega)
          simp only [List.getElem_cons_zero, Nat.add_zero, m2, Nat.mul_one]
          simp only [Nat.zero_add] at hrow
          rw [hrow]
          simp
      · simp at h
    · simp at h
  · simp at h
theorem Row.append {w : World} {b o : Nat} {c1 c2 : List Value} (h1 : Row w b o c1) (h2 : Row w b (o + c1.length) c2) : Row w b o (c1 ++ c2) := by
  intro j hj
  by_cases hlt : j < c1.length
  · rw [List.getElem_append_left hlt]; exact h1 j hlt
  · rw [List.getElem_append_right (by omega)]
    have := h2 (j - c1.length) (by simp at hj; omega)
    rwa [show o + c1.length + (j - c1.length) = o + j by omega] at this
theorem flat_rows {w : World} {ok : Nat → Prop} {e : Sh} (b : Nat) : ∀ (xs : List e.T) (o : Nat), (∀ i (h : i < xs.length), ∃ cs, cs.length = e.size ∧ Row w b (o + i * e.size) cs ∧ LRs w ok e (xs[i]'h) cs) →
    ∃ news : List Value, news.length = xs.length * e.size ∧ Row w b o news ∧ ∀ i (h : i < xs.length), LRs w ok e (xs[i]'h) ((news.drop (i * e.size)).take e.size)
  | [], o, h => ⟨[], by simp, fun j hj => by simp at hj, fun i hi => by simp at hi⟩
  | x :: r, o, h => by
    obtain ⟨cs, h1, h2, h3⟩ := h 0 (by simp)
    obtain ⟨news, g1, g2, g3⟩ := flat_rows b r (o + e.size) (fun i hi => by
      obtain ⟨cs, k1, k2, k3⟩ := h (i + 1) (by simpa using hi)
      exact ⟨cs, k1, by rwa [show o + (i + 1) * e.size = o + e.size + i * e.size by rw [Nat.add_mul]; omega] at k2, k3⟩)
    simp only [Nat.zero_mul, Nat.add_zero, List.getElem_cons_zero] at h2 h3
    refine ⟨cs ++ news, by simp [h1, g1, Nat.add_mul]; omega, h2.append (by rw [h1]; exact g2), fun i hi => ?_⟩
    cases i with
    | zero =>
      simp only [Nat.zero_mul, List.drop_zero, List.getElem_cons_zero]
      rw [List.take_append_of_le_length (by omega), ← h1, List.take_length]
      exact h3
    | succ i =>
      simp only [List.getElem_cons_succ]
      have := g3 i (by simpa using hi)
      rwa [show (i + 1) * e.size = cs.length + i * e.size by rw [Nat.add_mul, h1]; omega, List.drop_length_add_append]
theorem LRs.leaf {w : World} {ok : Nat → Prop} : ∀ (s : Sh) (x : s.T) (vs : List Value), LRs w ok s x vs → ∀ v ∈ vs, v.oneCell' = true
  | .int k, x, vs, h, v, hv => by simp only [LRs] at h; subst h; simp at hv; subst hv; rfl
  | .bool, x, vs, h, v, hv => by simp only [LRs] at h; subst h; simp at hv; subst hv; rfl
  | .str, x, vs, h, v, hv => by simp only [LRs] at h; subst h; simp at hv; subst hv; rfl
  | .unit, x, vs, h, v, hv => by simp only [LRs] at h; subst h; simp at hv
  | .sl e, x, vs, h, v, hv => by simp only [LRs] at h; obtain ⟨_, _, rfl, _⟩ := h; simp at hv; subst hv; rfl
  | .arr n e, x, vs, h, v, hv => by
    simp only [LRs] at h
    obtain ⟨h1, h2, h3⟩ := h
    obtain ⟨j, hj, rfl⟩ := List.getElem_of_mem hv
    have hs : 0 < e.size := by
      rcases Nat.eq_zero_or_pos e.size with h0 | h0
      · rw [h0] at h2; simp at h2; subst h2; simp at hj
      · exact h0
    have hjn : j / e.size < List.length x := by
      rw [h1]
      exact Nat.div_lt_of_lt_mul (by rw [Nat.mul_comm]; omega)
    refine LRs.leaf e _ _ (h3 (j / e.size) hjn) vs[j] ?_
    rw [List.mem_iff_getElem?]
    refine ⟨j % e.size, ?_⟩
    rw [List.getElem?_take, if_pos (Nat.mod_lt _ hs), List.getElem?_drop]
    have : j / e.size * e.size + j % e.size = j := by rw [Nat.mul_comm]; exact Nat.div_add_mod j e.size
    rw [this, List.getElem?_eq_getElem hj]
  | .pair p q, x, vs, h, v, hv => by
    simp only [LRs] at h
    obtain ⟨v1, v2, rfl, h1, h2⟩ := h
    rcases List.mem_append.1 hv with hv | hv
    · exact LRs.leaf p _ _ h1 v hv
    · exact LRs.leaf q _ _ h2 v hv
  | .err, x, vs, h, v, hv => by
    simp only [LRs] at h
    obtain ⟨y, rfl, h⟩ := h
    have e : v = y := by simpa using hv
    subst e
    cases x with
    | nil => simp only [ErrR] at h; subst h; rfl
    | num t k n => simp only [ErrR] at h; subst h; rfl
    | at' t n e => simp only [ErrR] at h; obtain ⟨b, x, rfl, _⟩ := h; rfl
    | of' t s e => simp only [ErrR] at h; obtain ⟨b, x, rfl, _⟩ := h; rfl
    | any t => simp only [ErrR] at h; obtain ⟨x, rfl⟩ := h; rfl
theorem rows_leaf {w : World} {ok : Nat → Prop} {e : Sh} {xs : List e.T} {news : List Value} (hl : news.length = xs.length * e.size)
    (h : ∀ i (h : i < xs.length), LRs w ok e (xs[i]'h) ((news.drop (i * e.size)).take e.size)) : ∀ v ∈ news, v.oneCell' = true := by
  have : LRs w ok (.arr xs.length e) xs news := ⟨rfl, hl, h⟩
  exact LRs.leaf _ _ _ this
structure Ap (P : Program) (E : Env) (e : Sh) (ys : List e.T) (tx : TypeId) (y : Value) : Prop where
  ex : ∃ news : List Value, Src P e.size tx y ys.length news E.w ∧ ∀ i (h : i < ys.length), LRs E.w E.ok e (ys[i]'h) ((news.drop (i * e.size)).take e.size)
theorem Ap.of_rd {P : Program} {e : Sh} {ys : List e.T} {tx e' : TypeId} {y : Value} (hk : P.underlying tx = some (.slice e')) {okb : Nat → Prop} (h : Rd E.w E.ok okb e ys y) : Ap P E e ys tx y := by
  obtain ⟨base, cap, rfl, _, h⟩ := h
  rcases h with h | ⟨b, o, rfl, _, h⟩
  · refine ⟨[], ?_, fun i hi => by omega⟩
    rw [h]
    cases base with
    | none => exact Src.ofNil E.w hk cap
    | some ad => exact Src.ofSlice E.w hk ad 0 cap [] (by simp) (fun j u hj => by simp at hj) (fun u hu => by simp at hu)
  · obtain ⟨news, g1, g2, g3⟩ := flat_rows b ys o h
    refine ⟨news, Src.ofSlice E.w hk _ _ cap news g1 (fun j u hj => ?_) (rows_leaf g1 g3), g3⟩
    have hjl : j < news.length := by
      rcases Nat.lt_or_ge j news.length with hlt | hge
      · exact hlt
      · rw [List.getElem?_eq_none hge] at hj; simp at hj
    rw [add_mk, g2 j hjl]
    rw [List.getElem?_eq_getElem hjl] at hj
    exact hj
theorem Ap.of_str {P : Program} {tx : TypeId} (hk : P.underlying tx = some .string) (l : List UInt8) : Ap P E (.int .u8) (ofBytes l) tx (.string ⟨l.toArray⟩) := by
  refine ⟨byteCells ⟨l.toArray⟩, ?_, fun i hi => ?_⟩
  · have := Src.ofString E.w hk ⟨l.toArray⟩
    have hl : (ofBytes l).length = (⟨l.toArray⟩ : ByteArray).size := by simp [ofBytes, ByteArray.size]
    rw [hl]
    exact this
  · have hi' : i < l.length := by simpa [ofBytes] using hi
    simp only [Sh.size, Nat.mul_one, LRs, byteCells, ofBytes]
    rw [List.getElem_map]
    have hd : (l.map fun b : UInt8 => Value.int .u8 (b.toNat : Int)).drop i = Value.int .u8 ((l[i]'hi').toNat : Int) :: (l.map fun b : UInt8 => Value.int .u8 (b.toNat : Int)).drop (i + 1) := by
      rw [List.drop_eq_getElem_cons (by simpa using hi')]
      simp
    simp only [hd]
    simp
end
end Go.Tr
namespace Go.Tr
open Go
set_option linter.unusedVariables false
set_option linter.unusedSimpArgs false
section
variable {W0 : WX} {okIn B us : Nat → Prop} {tm : Nat → Option AV} {ob : Nat → Option AO} {nt : Nat} {E : Env} {a : Act}
theorem shZ_info {P : Program} {t : TypeId} {e : Sh} (h : shZ P t = some e) : ∃ i z, P.info? t = some i ∧ i.size = e.size ∧ i.zero = some z ∧ z.cells.size = e.size ∧ shT P 16 t = some e := by
  unfold shZ at h
  split at h
  · rename_i e' z h1 h2
    split at h
    · rename_i hb
      simp only [Option.some.injEq] at h
      subst h
      obtain ⟨g1, g2⟩ := shE_size h1
      obtain ⟨i, hi, hsz⟩ := sizeT_info g1
      unfold zeroT at h2
      rw [hi] at h2
      simp only at h2
      split at h2
      · rename_i zv hz
        simp only [Option.some.injEq] at h2
        subst h2
        have := beq_true hb
        rw [lenA_eq] at this
        have hl : ∀ l : List Value, (cvals l).length = l.length := by
          intro l; induction l with
          | nil => rfl
          | cons v r ih => simp [cvals, ih]
        rw [hl] at this
        exact ⟨i, zv, hi, hsz, hz, by simpa using this, g2⟩
      · simp at h2
    · simp at h
  · simp at h
theorem zeroCells_size (z : Array Value) (n : Nat) : (Builtin.zeroCells z n).size = n * z.size := by simp [Builtin.zeroCells]
theorem chunk_append_left {l m : List Value} {i s n : Nat} (hl : l.length = n * s) (hi : i < n) : ((l ++ m).drop (i * s)).take s = (l.drop (i * s)).take s := by
  have := Nat.mul_le_mul_right s (show i + 1 ≤ n by omega)
  rw [Nat.add_mul] at this
  rw [List.drop_append_of_le_length (by omega), List.take_append_of_le_length (by simp; omega)]
theorem chunk_append_right {l m : List Value} {i s n : Nat} (hl : l.length = n * s) : ((l ++ m).drop ((n + i) * s)).take s = (m.drop (i * s)).take s := by
  rw [Nat.add_mul, ← hl, List.drop_length_add_append]
theorem evo_grown (he : EnvOk W0 okIn B E) {nm : Nat} (hnm : ¬ us nm) {P : Program} {el : TypeId} {e : Sh} {xs ys : List e.T} {olds news : List Value} {z : Value} (hz : z.cells.size = e.size) {cap : Nat} (hcap : xs.length + ys.length ≤ cap) (hpos : 0 < cap)
    (ho : olds.length = xs.length * e.size) (hn : news.length = ys.length * e.size)
    (hx : ∀ i (h : i < xs.length), LRs E.w E.ok e (xs[i]'h) ((olds.drop (i * e.size)).take e.size)) (hy : ∀ i (h : i < ys.length), LRs E.w E.ok e (ys[i]'h) ((news.drop (i * e.size)).take e.size)) :
    let cs := (olds ++ news).toArray ++ Builtin.zeroCells z.cells (cap - (xs.length + ys.length))
    cs.size = cap * e.size ∧ ∀ i (h : i < (xs ++ ys).length), LRs E.w E.ok e ((xs ++ ys)[i]'h) ((cs.toList.drop (i * e.size)).take e.size) := by
  intro cs
  refine ⟨?_, fun i hi => ?_⟩
  · simp only [cs, Array.size_append, List.size_toArray, List.length_append, zeroCells_size, hz, ho, hn]
    rw [← Nat.add_mul, ← Nat.add_mul]
    congr 1
    omega
  · have hcs : cs.toList = olds ++ (news ++ (Builtin.zeroCells z.cells (cap - (xs.length + ys.length))).toList) := by simp [cs]
    rw [hcs]
    by_cases hlt : i < xs.length
    · rw [List.getElem_append_left hlt, chunk_append_left ho hlt]
      exact hx i hlt
    · have hlen : i - xs.length < ys.length := by simp at hi; omega
      rw [List.getElem_append_right (by omega)]
      have : i = xs.length + (i - xs.length) := by omega
      rw [show (olds ++ (news ++ (Builtin.zeroCells z.cells (cap - (xs.length + ys.length))).toList)).drop (i * e.size) = (olds ++ (news ++ (Builtin.zeroCells z.cells (cap - (xs.length + ys.length))).toList)).drop ((xs.length + (i - xs.length)) * e.size) by rw [← this]]
      rw [chunk_append_right ho, chunk_append_left hn hlen]
      exact hy _ hlen
theorem roomy_info {P : Program} {e : TypeId} {n : Nat} {i : TypeInfo} (hi : P.info? e = some i) (h : roomy P e n) : n * i.bytes ≤ 140737488355328 ∧ n ≤ 140737488355328 := by
  unfold roomy at h
  rw [hi] at h
  simp only [room] at h
  split at h
  · rename_i h0; rw [h0]; exact ⟨by omega, h⟩
  · rename_i b h0
    rw [h0]
    exact ⟨h, Nat.le_trans (Nat.le_mul_of_pos_right _ (Nat.succ_pos _)) h⟩
theorem append_nil {P : Program} (hs : SimE W0 okIn B us tm ob nt E a) {nm : Nat} (hnm : ¬ us nm) {T tx ty el : TypeId} {e : Sh} {ys : List e.T} {y : Value} (hT : P.underlying T = some (.slice el)) (he : shZ P el = some e)
    (hap : Ap P E e ys tx y) (hr : roomy P el ys.length) :
    ∃ E' z, (Builtin.append_ #[T, tx] ty #[.slice none 0 0, y]).run P E.w = .ok z E'.w ∧ Evo W0 okIn B us (usn us nm) E E' [(nm, some (.rows e ys))] ∧ VR E' (.own nm e) z := by
  obtain ⟨i, z, hi, hsz, hz, hzs, _⟩ := shZ_info he
  obtain ⟨news, hsrc, hn⟩ := hap
  rw [← hsz] at hsrc
  obtain ⟨r1, r2⟩ := roomy_info hi hr
  by_cases h0 : ys.length = 0
  · have hn0 : news = [] := by have := hsrc.newsLen; rw [h0] at this; simpa using this
    subst hn0
    rw [h0] at hsrc
    refine ⟨⟨E.w, setMu E.mu nm (some ⟨none, 0, false, 0⟩), E.ok⟩, _, run_append_nothing E.w T tx ty el i hT hi none 0 0 (Nat.le_refl _) y hsrc, ?_, ?_⟩
    · refine Evo.new hs.env hs.lo hnm (fun _ _ => rfl) (Nat.le_refl _) rfl rfl rfl (fun h => by simp at h) ?_ (by simp [AO.nm])
      exact ⟨_, setMu_same _ _ _, h0.symm, .inl ⟨rfl, h0, rfl⟩⟩
    · simp only [VR, leafV, true_and]
      intro L hL
      simp only [setMu_same, Option.some.injEq] at hL
      subst hL
      rfl
  · have hrun := run_append_grow_src E.w T tx ty el i z hT hi hz none 0 0 [] (run_firstCells_none E.w.drew i.size 0 0 0) y ys.length news hsrc (by omega) (by omega) (growslice_fits (by omega) (by simpa using r1))
    have hcap := grownCap_ge E.w (0 + ys.length) 0 el
    obtain ⟨g1, g2⟩ := evo_grown (P := P) (el := el) hs.env hnm (xs := []) (ys := ys) (olds := []) (news := news) hzs (cap := grownCap E.w (0 + ys.length) 0 el) (by simpa using hcap) (by omega) (by simp) (by rw [hsrc.newsLen, hsz]) (fun i hi => by simp at hi) hn
    obtain ⟨E', hE, hev, hvr⟩ := evo_rows hs.env hs.lo hnm (xs := ys) (T := el) (fr := (0, 0)) (w' := E.w.drew.alloc (.cells (([] ++ news).toArray ++ Builtin.zeroCells z.cells (grownCap E.w (0 + ys.length) 0 el - (0 + ys.length))) el))
      (fun b hb => push_ext E.w _ b hb) (push_last E.w _) (by show _ < (E.w.heap.push _).size; simp) rfl rfl rfl (fun i _ => by omega) (by simpa using g1) (by simpa using hcap) (fun i hi => by simpa using g2 i (by simpa using hi))
    refine ⟨E', _, ?_, hev, hvr⟩
    rw [hE, hrun]
    simp
theorem append_rows {P : Program} (hs : SimE W0 okIn B us tm ob nt E a) {nm n : Nat} (hnm : ¬ us nm) {T tx ty el : TypeId} {e : Sh} {xs ys : List e.T} {v y : Value} (hT : P.underlying T = some (.slice el)) (he : shZ P el = some e)
    (hob : ob n = some (.rows e xs)) (hx : ∀ L, E.mu n = some L → v = .slice L.base xs.length L.cap ∧ xs.length ≤ L.cap) (hap : Ap P E e ys tx y) (hr : roomy P el (xs.length + ys.length)) :
    ∃ E' z, (Builtin.append_ #[T, tx] ty #[v, y]).run P E.w = .ok z E'.w ∧ Evo W0 okIn B us (usn us nm) E E' [(n, none), (nm, some (.rows e (xs ++ ys)))] ∧ VR E' (.own nm e) z := by
  obtain ⟨i, z, hi, hsz, hz, hzs, _⟩ := shZ_info he
  obtain ⟨news, hsrc, hn⟩ := hap
  have hsrc' := hsrc
  rw [← hsz] at hsrc
  obtain ⟨r1, r2⟩ := roomy_info hi hr
  obtain ⟨h1, h2, h3⟩ := hs.obj n _ hob
  obtain ⟨L, g1, gl, g2⟩ := h1
  obtain ⟨rfl, k1⟩ := hx L g1
  -- the new row's step, common to the arms that grow
  have grow : ∀ (olds : List Value), (Builtin.firstCells i.size xs.length (.slice L.base xs.length L.cap)).run P E.w.drew = .ok olds.toArray E.w.drew → olds.length = xs.length * e.size →
      (∀ i (h : i < xs.length), LRs E.w E.ok e (xs[i]'h) ((olds.drop (i * e.size)).take e.size)) → L.cap < xs.length + ys.length →
      ∃ E' z, (Builtin.append_ #[T, tx] ty #[.slice L.base xs.length L.cap, y]).run P E.w = .ok z E'.w ∧ Evo W0 okIn B us (usn us nm) E E' [(n, none), (nm, some (.rows e (xs ++ ys)))] ∧ VR E' (.own nm e) z := by
    intro olds ho1 ho2 ho3 hlt
    have hrun := run_append_grow_src E.w T tx ty el i z hT hi hz L.base xs.length L.cap olds ho1 y ys.length news hsrc hlt (by omega) (growslice_fits hlt r1)
    have hcap := grownCap_ge E.w (xs.length + ys.length) L.cap el
    obtain ⟨c1, c2⟩ := evo_grown (P := P) (el := el) hs.env hnm (xs := xs) (ys := ys) (olds := olds) (news := news) hzs (cap := grownCap E.w (xs.length + ys.length) L.cap el) hcap (by omega) ho2 (by rw [hsrc.newsLen, hsz]) ho3 hn
    have hext : ∀ b, b < E.w.heap.size → (E.w.drew.alloc (.cells ((olds ++ news).toArray ++ Builtin.zeroCells z.cells (grownCap E.w (xs.length + ys.length) L.cap el - (xs.length + ys.length))) el)).heap[b]? = E.w.heap[b]? := fun b hb => push_ext E.w _ b hb
    refine ⟨⟨_, setMu (setMu E.mu n none) nm (some ⟨some ⟨E.w.heap.size, 0, none⟩, grownCap E.w (xs.length + ys.length) L.cap el, true, xs.length + ys.length⟩), E.ok⟩, _, hrun, ?_, ?_⟩
    · refine Evo.move hs.env hs.lo hnm h3 (fun b hb _ => hext b hb) (by show _ ≤ (E.w.heap.push _).size; simp) rfl rfl rfl (fun _ => ⟨_, rfl, by show _ < (E.w.heap.push _).size; simp, .inl (Nat.le_refl _)⟩) ?_ (by simp [AO.nm])
      exact ⟨_, setMu_same _ _ _, by simp, .inr ⟨E.w.heap.size, _, el, (0, 0), rfl, rfl, push_last E.w _, c1, by simpa using hcap, fun i _ => by omega, fun i hi =>
        LRs.mono (fun b hb => hext b (hs.env.okl b hb).1) (fun _ h => h) _ _ _ (c2 i hi)⟩⟩
    · simp only [VR, leafV, true_and]
      intro L' hL'
      simp only [setMu_same, Option.some.injEq] at hL'
      subst hL'
      rfl
  rcases g2 with ⟨g2, g3, g4⟩ | ⟨b, cs, T', fr, f1, f2, f3, f4, f5, f6, f7⟩
  · -- no capacity
    by_cases h0 : ys.length = 0
    · have hn0 : news = [] := by have := hsrc.newsLen; rw [h0] at this; simpa using this
      subst hn0
      rw [h0] at hsrc
      refine ⟨⟨E.w, setMu (setMu E.mu n none) nm (some L), E.ok⟩, _, run_append_nothing E.w T tx ty el i hT hi L.base xs.length L.cap k1 y hsrc, ?_, ?_⟩
      · refine Evo.move hs.env hs.lo hnm h3 (fun _ _ _ => rfl) (Nat.le_refl _) rfl rfl rfl (fun h => by rw [g4] at h; simp at h) ?_ (by simp [AO.nm])
        exact ⟨_, setMu_same _ _ _, by rw [List.length_append]; omega, .inl ⟨g2, by rw [List.length_append]; omega, g4⟩⟩
      · simp only [VR, leafV, true_and]
        intro L' hL'
        simp only [setMu_same, Option.some.injEq] at hL'
        subst hL'
        rw [gl]
    · refine grow [] ?_ (by simp [g3]) (fun i hi => by omega) (by omega)
      rw [g3]
      cases L.base with
      | none => exact run_firstCells_none E.w.drew i.size 0 0 L.cap
      | some ad => exact run_firstCells_some E.w.drew i.size 0 ad 0 L.cap [] (by simp) (fun j v hj => by simp at hj)
  · by_cases hroom : xs.length + ys.length ≤ L.cap
    · -- there is room
      rw [f1]
      have hown : owns E n b := ⟨L, g1, f2, f1⟩
      have hnl : news.length = ys.length * e.size := by rw [hsrc.newsLen, hsz]
      have hbound : xs.length * e.size + 0 + news.length ≤ cs.size := by
        rw [f4, hnl]
        have := Nat.mul_le_mul_right e.size hroom
        rw [Nat.add_mul] at this; omega
      have hst := run_storeCells_row (P := P) b T' fr news (xs.length * e.size) 0 cs E.w f3 f6 hbound (fun v hv => by
        have := hsrc.one v hv
        cases v <;> first | trivial | (simp [Value.oneCell'] at this))
      simp only [Nat.add_zero] at hst hbound
      have hcellb : ∀ j, j < news.length → (E.w.cell? ⟨b, 0 + xs.length * i.size + j, none⟩).isSome = true := by
        intro j hj
        rw [hsz]
        simp [World.cell?, f3, show xs.length * e.size + j < cs.size by omega]
      have hfro : ∀ j, j < news.length → E.w.frozen? ⟨b, 0 + xs.length * i.size + j, none⟩ = false := by
        intro j hj
        have := f6 (xs.length * e.size + j) (by omega)
        simp only [World.frozen?, f3, hsz, Nat.zero_add]
        by_cases h : fr.1 ≤ xs.length * e.size + j
        · have h2 : ¬ (xs.length * e.size + j < fr.2) := fun hh => this ⟨h, hh⟩
          simp [h2]
        · simp [h]
      have hrun := run_append_room_src E.w T tx ty el i hT hi b 0 xs.length L.cap y ys.length news hsrc hroom hcellb hfro
      have hset := run_storeCells_cells (P := P) b (xs.length * e.size) news 0 E.w (by
        intro j hj
        have := hcellb j hj
        rwa [hsz, Nat.zero_add] at this) (by
        intro j hj
        have := hfro j hj
        rwa [hsz, Nat.zero_add] at this) hsrc.one
      have heq : E.w.setCells b (0 + xs.length * i.size) news = E.w.setRow b (cs.toList.take (xs.length * e.size) ++ news ++ cs.toList.drop (xs.length * e.size + news.length)).toArray := by
        rw [hst] at hset
        simp only [Nat.add_zero, Result.ok.injEq, true_and] at hset
        rw [Nat.zero_add, hsz]
        exact hset.symm
      rw [heq] at hrun
      have hext : ∀ c, c < E.w.heap.size → ¬ owns E n c → (E.w.setRow b (cs.toList.take (xs.length * e.size) ++ news ++ cs.toList.drop (xs.length * e.size + news.length)).toArray).heap[c]? = E.w.heap[c]? :=
        fun c hc hno => setRow_other _ _ _ _ fun hcb => hno (hcb ▸ hown)
      have hok := ok_ext hs.env hext
      have hlen : (cs.toList.take (xs.length * e.size) ++ news ++ cs.toList.drop (xs.length * e.size + news.length)).length = cs.size := by simp; omega
      have hb' : b < E.w.heap.size := (hs.env.own n b hown).2.1
      refine ⟨⟨_, setMu (setMu E.mu n none) nm (some ⟨L.base, L.cap, L.own, xs.length + ys.length⟩), E.ok⟩, _, hrun, ?_, ?_⟩
      · refine Evo.move hs.env hs.lo hnm h3 hext (Nat.le_of_eq (setRow_size _ _ _).symm) rfl rfl rfl (fun _ => ⟨b, f1, Nat.lt_of_lt_of_eq hb' (setRow_size E.w b _).symm, .inr hown⟩) ?_ (by simp [AO.nm])
        refine ⟨_, setMu_same _ _ _, by simp, .inr ⟨b, _, T', fr, f1, f2, setRow_heap E.w b cs _ T' fr f3, by rw [List.size_toArray, hlen]; exact f4, by simpa using hroom, fun j hj => f6 j (by rw [List.size_toArray, hlen] at hj; exact hj), fun j hj => ?_⟩⟩
        refine LRs.mono hok (fun _ h => h) _ _ _ ?_
        rw [List.toList_toArray]
        have htl : (cs.toList.take (xs.length * e.size)).length = xs.length * e.size := by simp; omega
        by_cases hlt : j < xs.length
        · rw [List.getElem_append_left hlt, List.append_assoc, chunk_append_left htl hlt]
          have := Nat.mul_le_mul_right e.size (show j + 1 ≤ xs.length by omega)
          rw [Nat.add_mul] at this
          have h7 := f7 j hlt
          rwa [List.drop_take, List.take_take, show min e.size (xs.length * e.size - j * e.size) = e.size by omega]
        · have hjy : j - xs.length < ys.length := by simp at hj; omega
          rw [List.getElem_append_right (by omega)]
          have : j = xs.length + (j - xs.length) := by omega
          rw [List.append_assoc, show (cs.toList.take (xs.length * e.size) ++ (news ++ cs.toList.drop (xs.length * e.size + news.length))).drop (j * e.size) = (cs.toList.take (xs.length * e.size) ++ (news ++ cs.toList.drop (xs.length * e.size + news.length))).drop ((xs.length + (j - xs.length)) * e.size) by rw [← this]]
          rw [chunk_append_right htl, chunk_append_left hnl hjy]
          exact hn _ hjy
      · simp only [VR, leafV, true_and]
        intro L' hL'
        simp only [setMu_same, Option.some.injEq] at hL'
        subst hL'
        simp [f1]
    · have hcl : xs.length * e.size ≤ cs.size := by rw [f4]; exact Nat.mul_le_mul_right _ f5
      have htl : (cs.toList.take (xs.length * e.size)).length = xs.length * e.size := by simp; omega
      refine grow (cs.toList.take (xs.length * e.size)) ?_ htl (fun i hi => ?_) (by omega)
      · rw [f1]
        refine run_firstCells_some E.w.drew i.size xs.length _ _ _ _ (by rw [htl, hsz]) (fun j v hj => ?_)
        have hjl : j < (cs.toList.take (xs.length * e.size)).length := by
          rcases Nat.lt_or_ge j (cs.toList.take (xs.length * e.size)).length with hlt | hge
          · exact hlt
          · rw [List.getElem?_eq_none hge] at hj; simp at hj
        rw [List.getElem?_eq_getElem hjl] at hj
        have := ((cells_row f3).take (xs.length * e.size)) j hjl
        rw [add_mk]
        exact this.trans hj
      · have := Nat.mul_le_mul_right e.size (show i + 1 ≤ xs.length by omega)
        rw [Nat.add_mul] at this
        rw [List.drop_take, List.take_take, show min e.size (xs.length * e.size - i * e.size) = e.size by omega]
        exact f7 i hi
end
end Go.Tr
namespace Go.Tr
open Go
set_option linter.unusedVariables false
set_option linter.unusedSimpArgs false
section
variable {W0 : WX} {okIn B us : Nat → Prop} {tm : Nat → Option AV} {ob : Nat → Option AO} {nt : Nat} {E : Env} {a : Act}
theorem apSrc_sound {P : Program} (hs : SimE W0 okIn B us tm ob nt E a) {T : TypeId} {y : AV} {v : Value} {e : Sh} {ys : List e.T} {q : List Prop} (h : apSrc P T ob e y = some (ys, q)) (hq : ∀ p ∈ q, p) (hy : VR E y v) : Ap P E e ys T v := by
  unfold apSrc at h
  split at h
  · rename_i hT
    split at h
    · simp only [Option.some.injEq, Prod.mk.injEq] at h
      obtain ⟨rfl, rfl⟩ := h
      simp only [VR] at hy
      subst hy
      exact Ap.of_str hT _
    · simp at h
  · rename_i e' hT
    exact Ap.of_rd hT (readA_sound hs.ob h hq hy)
  · simp at h
theorem mem_appA {p : Prop} {l m : List Prop} : p ∈ appA l m ↔ p ∈ l ∨ p ∈ m := by rw [appA_eq]; exact List.mem_append
theorem opAppend_sound {P : Program} (hs : SimE W0 okIn B us tm ob nt E a) {nm : Nat} (hnm : ¬ us nm) {T T' ty : TypeId} {x y r : AV} {v z : Value} {q : List Prop} {u : Upd} (h : opAppend P T T' ob nm x y = some (q, r, u)) (hq : ∀ p ∈ q, p)
    (hx : VR E x v) (hy : VR E y z) : ∃ E' w, (Builtin.append_ #[T, T'] ty #[v, z]).run P E.w = .ok w E'.w ∧ Evo W0 okIn B us (usn us nm) E E' u ∧ VR E' r w ∧ r.nm (usn us nm) := by
  unfold opAppend at h
  split at h
  · rename_i el hT
    split at h
    · simp at h
    · rename_i e he
      split at h
      · simp at h
      · rename_i ys obs hsrc
        split at h
        · simp only [Option.some.injEq, Prod.mk.injEq] at h
          obtain ⟨rfl, rfl, rfl⟩ := h
          have hap := apSrc_sound hs hsrc (fun p hp => hq p (mem_appA.2 (.inl hp))) hy
          have hr : roomy P el ys.length := hq _ (mem_appA.2 (.inr (List.Mem.head _)))
          simp only [VR] at hx
          subst hx
          obtain ⟨E', w, h1, h2, h3⟩ := append_nil (ty := ty) hs hnm hT he hap hr
          exact ⟨E', w, h1, h2, h3, .inr rfl⟩
        · rename_i n e'
          split at h
          · rename_i e'' xs hob
            split at h
            · rename_i hee
              subst hee
              simp only [Option.some.injEq, Prod.mk.injEq] at h
              obtain ⟨rfl, rfl, rfl⟩ := h
              have hap := apSrc_sound hs hsrc (fun p hp => hq p (mem_appA.2 (.inl hp))) hy
              have hr : roomy P el (xs.length + ys.length) := hq _ (mem_appA.2 (.inr (List.Mem.head _)))
              obtain ⟨L0, k1, k2, k3, _⟩ := own_val (.inl (hs.obj _ _ hob).1) hx
              obtain ⟨E', w, h1, h2, h3⟩ := append_rows (ty := ty) hs hnm hT he hob (fun L hL => by obtain rfl : L0 = L := Option.some.inj (k1.symm.trans hL); exact ⟨k2, k3⟩) hap hr
              exact ⟨E', w, h1, h2, h3, .inr rfl⟩
            · simp at h
          · simp at h
        · rename_i n e' off len
          split at h
          · rename_i e'' xs hob
            split at h
            · rename_i hee
              subst hee
              simp only [Option.some.injEq, Prod.mk.injEq] at h
              obtain ⟨rfl, rfl, rfl⟩ := h
              have hap := apSrc_sound hs hsrc (fun p hp => hq p (mem_appA.2 (.inl hp))) hy
              obtain ⟨rfl, rfl, hr⟩ : off = 0 ∧ len = xs.length ∧ roomy P el (xs.length + ys.length) := hq _ (mem_appA.2 (.inr (List.Mem.head _)))
              obtain ⟨E', w, h1, h2, h3⟩ := append_rows (ty := ty) hs hnm hT he hob (fun L hL => by
                simp only [VR] at hx
                obtain ⟨base, hv, g1, g2, _⟩ := hx.2 L hL
                rw [g2 trivial] at hv
                exact ⟨hv, by omega⟩) hap hr
              exact ⟨E', w, h1, h2, h3, .inr rfl⟩
            · simp at h
          · simp at h
        · simp at h
  · simp at h
theorem cpy_len {α : Type} {off len : Nat} {ys xs : List α} (h : off + len ≤ xs.length) : (cpyA off len ys xs).length = xs.length := by
  unfold cpyA; simp; omega
theorem cpy_get {α : Type} {off len : Nat} {ys xs : List α} (h : off + len ≤ xs.length) {j : Nat} (hj : j < xs.length) (hj' : j < (cpyA off len ys xs).length) :
    (cpyA off len ys xs)[j] = if hh : off ≤ j ∧ j < off + min len ys.length then ys[j - off]'(by omega) else xs[j] := by
  unfold cpyA at hj' ⊢
  split
  · rename_i hh
    rw [List.getElem_append_right (by simp; omega), List.getElem_append_left (by simp; omega), List.getElem_take]
    congr 1
    simp
    omega
  · rename_i hh
    by_cases h1 : j < off
    · rw [List.getElem_append_left (by simp; omega), List.getElem_take]
    · rw [List.getElem_append_right (by simp; omega), List.getElem_append_right (by simp; omega), List.getElem_drop]
      congr 1
      simp
      omega
theorem opCopy_sound {P : Program} (hs : SimE W0 okIn B us tm ob nt E a) {nm : Nat} {T T' ty : TypeId} {x y r : AV} {v z : Value} {q : List Prop} {u : Upd} (h : opCopy P T ob x y = some (q, r, u)) (hq : ∀ p ∈ q, p)
    (hx : VR E x v) (hy : VR E y z) : ∃ E' w, (Builtin.copy_ #[T, T'] ty #[v, z]).run P E.w = .ok w E'.w ∧ Evo W0 okIn B us (usn us nm) E E' u ∧ VR E' r w ∧ r.nm (usn us nm) := by
  unfold opCopy at h
  split at h
  · rename_i el hT
    split at h
    · rename_i s hsz
      split at h
      · rename_i n e off len
        split at h
        · rename_i hb
          split at h
          · rename_i e' xs hob
            split at h
            · rename_i ys obs hrd
              split at h
              · rename_i he
                subst he
                simp only [Option.some.injEq, Prod.mk.injEq] at h
                obtain ⟨rfl, rfl, rfl⟩ := h
                have hse := beq_true hb
                subst hse
                have hle : off + len ≤ xs.length := hq _ (mem_appA.2 (.inr (List.Mem.head _)))
                have hr := readA_sound hs.ob hrd (fun p hp => hq p (mem_appA.2 (.inl hp))) hy
                obtain ⟨h1, h2, h3⟩ := hs.obj n _ hob
                obtain ⟨L, k1, kl, k2⟩ := h1
                simp only [VR] at hx
                obtain ⟨base, rfl, b1, b2, b3⟩ := hx.2 L k1
                obtain ⟨base2, cap2, rfl, c1, c2⟩ := hr
                generalize hm : min len ys.length = m
                have hmin : Nat.min ys.length len = m := by rw [← hm]; exact Nat.min_comm _ _
                -- what is read
                have hcells : ∃ news : List Value, news.length = m * e'.size ∧ (Builtin.firstCells e'.size m (.slice base2 ys.length cap2)).run P E.w = .ok news.toArray E.w ∧ (∀ v ∈ news, v.oneCell' = true) ∧
                    ∀ i (hi : i < m), LRs E.w E.ok e' (ys[i]'(by omega)) ((news.drop (i * e'.size)).take e'.size) := by
                  by_cases hm0 : m = 0
                  · refine ⟨[], by rw [hm0]; simp, ?_, by simp, fun i hi => by omega⟩
                    rw [hm0]
                    cases base2 with
                    | none => simp [Builtin.firstCells]
                    | some ad =>
                      simp only [Builtin.firstCells, Nat.zero_mul]
                      exact run_loadCells_list (P := P) E.w ad [] (by simp)
                  · rcases c2 with c2 | ⟨b2', o2, rfl, _, c2⟩
                    · omega
                    · obtain ⟨news, g1, g2, g3⟩ := flat_rows b2' (ys.take m) o2 (fun i hi => by
                        have hi' : i < ys.length := by simp at hi; omega
                        obtain ⟨cs, d1, d2, d3⟩ := c2 i hi'
                        exact ⟨cs, d1, d2, by rw [List.getElem_take]; exact d3⟩)
                      have htl : (ys.take m).length = m := by simp; omega
                      rw [htl] at g1
                      refine ⟨news, g1, ?_, rows_leaf (xs := ys.take m) (by rw [htl]; exact g1) g3, fun i hi => by
                        have := g3 i (by rw [htl]; exact hi)
                        rwa [List.getElem_take] at this⟩
                      simp only [Builtin.firstCells]
                      rw [← g1]
                      refine run_loadCells_list (P := P) E.w _ news fun j u hj => ?_
                      have hjl : j < news.length := by
                        rcases Nat.lt_or_ge j news.length with hlt | hge
                        · exact hlt
                        · rw [List.getElem?_eq_none hge] at hj; simp at hj
                      rw [add_mk, g2 j hjl]
                      rw [List.getElem?_eq_getElem hjl] at hj
                      exact hj
                obtain ⟨news, n1, n2, n3, n4⟩ := hcells
                have hrun : ∀ (w' : World), (match base with | some ad => storeCells ad news | none => (pure () : Sem Unit)).run P E.w = .ok () w' → (Builtin.copy_ #[T, T'] ty #[.slice base len (L.cap - off), .slice base2 ys.length cap2]).run P E.w = .ok (.int .i64 ((m : Nat) : Int)) w' := by
                  intro w' hw
                  have hsz' : (sizeOf el).run P E.w = .ok e'.size E.w := run_sizeT E.w hsz
                  cases base with
                  | none =>
                    simp only [Sem.run_pure, Result.ok.injEq, true_and] at hw
                    subst hw
                    simp [Builtin.copy_, run_underlying hT, Builtin.lenOf, hsz', hmin, n2, goInt]
                  | some ad =>
                    simp only at hw
                    simp [Builtin.copy_, run_underlying hT, Builtin.lenOf, hsz', hmin, n2, hw, goInt]
                have hint : ∀ (E' : Env), VR E' (.int .i64 ((m : Nat) : Int)) (.int .i64 ((m : Nat) : Int)) := fun E' => by simp only [VR]
                have hcl := cpy_len (ys := ys) hle
                by_cases hm0 : m = 0
                · -- nothing is laid
                  have hn0 : news = [] := by rw [hm0, Nat.zero_mul] at n1; exact List.eq_nil_of_length_eq_zero n1
                  have hcpy : cpyA off len ys xs = xs := by
                    unfold cpyA
                    rw [hm, hm0]
                    have : ys.take len = [] := by apply List.eq_nil_of_length_eq_zero; rw [List.length_take]; omega
                    rw [this]; simp
                  refine ⟨⟨E.w, E.mu, E.ok⟩, _, hrun _ ?_, Evo.set hs.env h3 (fun _ _ _ => rfl) rfl rfl rfl rfl (by rw [hcpy]; exact ⟨L, k1, kl, k2⟩) (by simp [AO.nm]), hint _, by simp [AV.nm]⟩
                  subst hn0
                  cases base <;> simp [storeCells]
                · rcases k2 with ⟨_, k2, _⟩ | ⟨b, cells, T0, fr, k3, k4, k5, k6, k7, k8, k9⟩
                  · omega
                  have hown : owns E n b := ⟨_, k1, k4, k3⟩
                  have hbase : base = some ⟨b, off * e'.size, none⟩ := by
                    rw [b3 (by omega), k3]
                    simp [add_mk]
                  subst hbase
                  have hbd : (off + m) * e'.size ≤ L.cap * e'.size := Nat.mul_le_mul_right _ (by omega)
                  rw [Nat.add_mul] at hbd
                  have hst := run_storeCells_row (P := P) b T0 fr news (off * e'.size) 0 cells E.w k5 k8 (by rw [n1, k6]; omega) (fun v hv => by
                    have := n3 v hv
                    cases v <;> first | trivial | (simp [Value.oneCell'] at this))
                  simp only [Nat.add_zero] at hst
                  have hext : ∀ c, c < E.w.heap.size → ¬ owns E n c → (E.w.setRow b (cells.toList.take (off * e'.size) ++ news ++ cells.toList.drop (off * e'.size + news.length)).toArray).heap[c]? = E.w.heap[c]? :=
                    fun c hc hno => setRow_other _ _ _ _ fun hcb => hno (hcb ▸ hown)
                  have hok := ok_ext hs.env hext
                  have hnewlen : (cells.toList.take (off * e'.size) ++ news ++ cells.toList.drop (off * e'.size + news.length)).length = cells.size := by
                    rw [n1]
                    simp
                    omega
                  refine ⟨⟨_, E.mu, E.ok⟩, _, hrun _ hst, Evo.set hs.env h3 hext (setRow_size _ _ _) rfl rfl rfl ?_ (by simp [AO.nm]), hint _, by simp [AV.nm]⟩
                  refine ⟨L, k1, by rw [hcl]; exact kl, .inr ⟨b, _, T0, fr, k3, k4, setRow_heap E.w b cells _ T0 fr k5, by simpa [k6] using hnewlen, by rw [hcl]; exact k7, ?_, ?_⟩⟩
                  · intro j hj
                    exact k8 j (by rw [List.size_toArray, hnewlen] at hj; exact hj)
                  · intro j hj
                    refine LRs.mono hok (fun _ h => h) _ _ _ ?_
                    rw [hcl] at hj
                    have hjc : (j + 1) * e'.size ≤ L.cap * e'.size := Nat.mul_le_mul_right _ (by omega)
                    rw [Nat.succ_mul] at hjc
                    rw [cpy_get hle hj, List.toList_toArray]
                    split
                    · rename_i hh
                      rw [hm] at hh
                      have hsub : (j - off) * e'.size = j * e'.size - off * e'.size := Nat.sub_mul ..
                      have h1 : off * e'.size ≤ j * e'.size := Nat.mul_le_mul_right _ hh.1
                      have h2 : (j + 1) * e'.size ≤ (off + m) * e'.size := Nat.mul_le_mul_right _ hh.2
                      rw [Nat.succ_mul, Nat.add_mul] at h2
                      have he : ((cells.toList.take (off * e'.size) ++ news ++ cells.toList.drop (off * e'.size + news.length)).drop (j * e'.size)).take e'.size = (news.drop ((j - off) * e'.size)).take e'.size := by
                        apply List.ext_getElem?
                        intro t
                        simp only [List.getElem?_take, List.getElem?_drop]
                        rw [splice_get _ _ _ _ (by rw [n1, Array.length_toList, k6]; omega)]
                        by_cases ht : t < e'.size
                        · rw [if_pos ht, if_pos ht, if_neg (by omega), if_pos (by rw [n1]; omega)]
                          congr 1
                          omega
                        · rw [if_neg ht, if_neg ht]
                      rw [he]
                      exact n4 (j - off) (by omega)
                    · rename_i hh
                      rw [hm] at hh
                      have he : ((cells.toList.take (off * e'.size) ++ news ++ cells.toList.drop (off * e'.size + news.length)).drop (j * e'.size)).take e'.size = (cells.toList.drop (j * e'.size)).take e'.size := by
                        apply List.ext_getElem?
                        intro t
                        simp only [List.getElem?_take, List.getElem?_drop]
                        rw [splice_get _ _ _ _ (by rw [n1, Array.length_toList, k6]; omega)]
                        by_cases ht : t < e'.size
                        · rw [if_pos ht, if_pos ht]
                          by_cases h1 : j < off
                          · have h2 : (j + 1) * e'.size ≤ off * e'.size := Nat.mul_le_mul_right _ h1
                            rw [Nat.succ_mul] at h2
                            rw [if_pos (by omega)]
                          · have h2 : (off + m) * e'.size ≤ j * e'.size := Nat.mul_le_mul_right _ (by omega)
                            rw [Nat.add_mul] at h2
                            rw [if_neg (by omega), if_neg (by rw [n1]; omega)]
                        · rw [if_neg ht, if_neg ht]
                      rw [he]
                      exact k9 j hj
              · simp at h
            · simp at h
          · simp at h
        · simp at h
      · simp at h
    · simp at h
  · simp at h
theorem run_convert_int' {P : Program} (w : World) {src dst : TypeId} {k k' : IntKind} {n : Int} {s : TypeDesc} (hs : P.underlying src = some s) (hd : P.underlying dst = some (.int k')) :
    (convert src dst (.int k n)).run P w = .ok (.int k' (k'.wrap n)) w := by
  simp [convert, run_underlying hs, run_underlying hd, Conv.intToInt]
theorem opConvert_sound {P : Program} (hs : SimE W0 okIn B us tm ob nt E a) {nm : Nat} (hnm : ¬ us nm) {src dst : TypeId} {x r : AV} {v : Value} {q : List Prop} {u : Upd} (h : opConvert P src dst ob nm x = some (q, r, u)) (hq : ∀ p ∈ q, p)
    (hx : VR E x v) : ∃ E' w, (convert src dst v).run P E.w = .ok w E'.w ∧ Evo W0 okIn B us (usn us nm) E E' u ∧ VR E' r w ∧ r.nm (usn us nm) := by
  unfold opConvert at h
  split at h
  · rename_i hsr hd
    split at h
    · simp only [Option.some.injEq, Prod.mk.injEq] at h
      obtain ⟨rfl, rfl, rfl⟩ := h
      simp only [VR] at hx
      subst hx
      exact ⟨E, _, run_convert_int' E.w hsr hd, Evo.refl' hs.env, VR.int, by simp [AV.nm]⟩
    · simp at h
  · rename_i hsr hd
    split at h
    · simp only [Option.some.injEq, Prod.mk.injEq] at h
      obtain ⟨rfl, rfl, rfl⟩ := h
      simp only [VR] at hx
      subst hx
      exact ⟨E, _, by simp [convert, run_underlying hsr, run_underlying hd], Evo.refl' hs.env, VR.str, by simp [AV.nm]⟩
    · simp at h
  · rename_i e hsr hd
    split at h
    · rename_i l he
      simp only [Option.some.injEq, Prod.mk.injEq] at h
      obtain ⟨rfl, rfl, rfl⟩ := h
      simp only [VR] at hx
      subst hx
      have hsize : (⟨l.toArray⟩ : ByteArray).size = l.length := by simp [ByteArray.size]
      have hcap := grownCap_ge E.w (⟨l.toArray⟩ : ByteArray).size 0 e
      have hcs : (Lib.bytesCells E.w e ⟨l.toArray⟩).size = grownCap E.w (⟨l.toArray⟩ : ByteArray).size 0 e := by
        simp only [Lib.bytesCells, Array.size_append, Array.size_map, Array.size_replicate, List.size_toArray]
        rw [hsize] at hcap ⊢
        omega
      have hlen : (ofBytes l).length = l.length := by simp [ofBytes]
      obtain ⟨E', hE, hev, hvr⟩ := evo_rows (W0 := W0) (okIn := okIn) (B := B) hs.env hs.lo hnm (e := .int .u8) (xs := ofBytes l) (T := e) (w' := Lib.bytesWorld E.w e ⟨l.toArray⟩) (fr := ((Lib.bytesCells E.w e ⟨l.toArray⟩).size, (Lib.bytesCells E.w e ⟨l.toArray⟩).size + 1))
        (fun b hb => Lib.bytesWorld_at_old E.w e _ b hb) (Lib.bytesWorld_at_new E.w e _) (by rw [Lib.bytesWorld_size]; omega) rfl rfl rfl (fun i hi => by simp only; omega) (cap := grownCap E.w (⟨l.toArray⟩ : ByteArray).size 0 e)
        (by rw [hcs]; simp [Sh.size]) (by rw [hlen, ← hsize]; exact hcap) (fun i hi => by
          have hi' : i < l.length := by rw [hlen] at hi; exact hi
          simp only [Sh.size, Nat.mul_one, LRs, ofBytes, List.getElem_map]
          apply List.ext_getElem?
          intro j
          simp only [List.getElem?_take, List.getElem?_drop]
          cases j with
          | zero =>
            simp only [Nat.zero_lt_one, if_true, Nat.add_zero, List.getElem?_cons_zero]
            simp only [Lib.bytesCells, List.map_toArray, Array.toList_append, List.toList_toArray, Array.toList_replicate]
            rw [List.getElem?_append_left (by simpa using hi')]
            simp [hi']
          | succ j => simp)
      refine ⟨E', _, ?_, hev, by rw [hlen] at hvr; exact hvr, .inr rfl⟩
      rw [hE, Lib.run_convert_string_bytes E.w src dst e _ hsr hd he, hsize]
    · simp at h
  · rename_i e hsr hd
    split at h
    · rename_i he
      split at h
      · rename_i xs obs hrd
        simp only [Option.some.injEq, Prod.mk.injEq] at h
        obtain ⟨rfl, rfl, rfl⟩ := h
        obtain ⟨base, cap, rfl, _, hr⟩ := readA_sound hs.ob hrd hq hx
        have hto : (⟨(toBytes xs).toArray⟩ : ByteArray) = strOfNums xs := rfl
        refine ⟨E, .string ⟨(toBytes xs).toArray⟩, ?_, Evo.refl' hs.env, VR.str, by simp [AV.nm]⟩
        rw [hto]
        have hl0 : List.length (α := Int) xs = List.length xs := rfl
        rcases hr with hr | ⟨b, o, rfl, _, hr⟩
        · have hxs : xs = ([] : List Int) := List.eq_nil_of_length_eq_zero hr
          subst hxs
          cases base with
          | none => exact run_convert_bytes_nil E.w src e hsr he 0 cap dst hd
          | some ad =>
            rw [run_convert_bytes_string E.w src dst e _ _ _ hsr he hd]
            have hl : (loadCells ad 0).run P E.w = .ok (([] : List Int).map (Value.int .u8)).toArray E.w := by simp [loadCells, loadCellsFrom]
            exact run_bytesToString E.w ad 0 cap [] hl
        · refine run_convert_bytes_arg E.w src e hsr he b o _ cap xs rfl (fun i hi => ?_) dst hd
          obtain ⟨cs, c1, c2, c3⟩ := hr i hi
          simp only [LRs] at c3
          subst c3
          have := c2 0 (by simp)
          simp only [Sh.size, Nat.mul_one, Nat.add_zero, List.getElem_cons_zero] at this
          rw [this, getD_eq hi]
      · simp at h
    · simp at h
  · simp at h
theorem optI_sound {α : Type} (hs : SimE W0 okIn B us tm ob nt E a) {x : Option Operand} {d : Int} {k : List Prop → Int → Option α} {r : α} (h : optI tm x d k = some r) :
    ∃ p n, k p n = some r ∧ ((∀ q ∈ p, q) → (x = none ∧ n = d) ∨ ∃ o kk, x = some o ∧ a.eval o = .int kk n) := by
  unfold optI at h
  split at h
  · exact ⟨[], d, h, fun _ => .inl ⟨rfl, rfl⟩⟩
  · rename_i o
    obtain ⟨p, v, h1, h2, h3⟩ := fe_sound hs h
    split at h1
    · rename_i kk n
      refine ⟨p, n, h1, fun hp => .inr ⟨o, kk, rfl, ?_⟩⟩
      have := h2 hp
      simpa only [VR] using this
    · simp at h1
theorem run_sliceBound {P : Program} (w : World) {k : IntKind} {n : Int} {y : Nat} (code : BoundsCode) (h : 0 ≤ n ∧ n ≤ (y : Int)) : (Instr.sliceBound (.int k n) y code).run P w = .ok n.toNat w := by
  simp [Instr.sliceBound, asIntOf, h]
theorem run_bounds {P : Program} (w : World) {sl : Bool} {len cap : Nat} {lo hi : Option Operand} {m n : Int} (hlo : (lo = none ∧ m = 0) ∨ ∃ o kk, lo = some o ∧ a.eval o = .int kk m) (hhi : (hi = none ∧ n = len) ∨ ∃ o kk, hi = some o ∧ a.eval o = .int kk n)
    (h : 0 ≤ m ∧ m ≤ n ∧ n ≤ (len : Int)) (hc : len ≤ cap) : (Instr.sliceBounds sl len cap (lo.map a.eval) (hi.map a.eval) none).run P w = .ok (m.toNat, n.toNat, cap) w := by
  obtain ⟨h1, h2, h3⟩ := h
  have e1 : (len : Int).toNat = len := by omega
  rcases hhi with ⟨rfl, rfl⟩ | ⟨oh, kh, rfl, hh⟩
  · rcases hlo with ⟨rfl, rfl⟩ | ⟨ol, kl, rfl, hl⟩
    · simp [Instr.sliceBounds]
    · simp [Instr.sliceBounds, hl, run_sliceBound w _ ⟨h1, h2⟩]
  · have hn : (n.toNat : Int) = n := by omega
    have hb := run_sliceBound (P := P) w (k := kh) (y := cap) (if sl = true then .sliceAcap else .sliceAlen) (show 0 ≤ n ∧ n ≤ (cap : Int) by omega)
    rcases hlo with ⟨rfl, rfl⟩ | ⟨ol, kl, rfl, hl⟩
    · simp [Instr.sliceBounds, hh, hb]
    · have hb2 := run_sliceBound (P := P) w (k := kl) (y := n.toNat) .sliceB (show 0 ≤ m ∧ m ≤ (n.toNat : Int) by omega)
      simp [Instr.sliceBounds, hh, hl, hb, hb2]
theorem run_sliceAt_slice {P : Program} (w : World) {T el : TypeId} {s : Nat} (hT : P.underlying T = some (.slice el)) (hs : sizeT P el = some s) {base : Option Addr} {len cap : Nat} {lo hi : Option Operand} {m n : Int}
    (hlo : (lo = none ∧ m = 0) ∨ ∃ o kk, lo = some o ∧ a.eval o = .int kk m) (hhi : (hi = none ∧ n = len) ∨ ∃ o kk, hi = some o ∧ a.eval o = .int kk n) (h : 0 ≤ m ∧ m ≤ n ∧ n ≤ (len : Int)) (hc : len ≤ cap) :
    (Instr.sliceAt T (.slice base len cap) (lo.map a.eval) (hi.map a.eval) none).run P w = .ok (.slice (if cap = m.toNat then base else base.map (·.add (m.toNat * s))) (n.toNat - m.toNat) (cap - m.toNat)) w := by
  have hb := run_bounds (P := P) w (sl := true) hlo hhi h hc
  simp [Instr.sliceAt, Instr.slice, run_underlying hT, hb, run_sizeT w hs]
theorem slice_rsl {P : Program} (hs : SimE W0 okIn B us tm ob nt E a) {nn : Nat} {T el : TypeId} {e : Sh} {off len : Nat} {v : Value} {lo hi : Option Operand} {m n : Int} (hT : P.underlying T = some (.slice el)) (hsz : sizeT P el = some e.size)
    (hl : lvA ob nn = true) (hx : VR E (.rsl nn e off len) v) (q1 : (lo = none ∧ m = 0) ∨ ∃ o kk, lo = some o ∧ a.eval o = .int kk m) (q2 : (hi = none ∧ n = len) ∨ ∃ o kk, hi = some o ∧ a.eval o = .int kk n) (q3 : 0 ≤ m ∧ m ≤ n ∧ n ≤ (len : Int)) :
    ∃ w, (Instr.sliceAt T v (lo.map a.eval) (hi.map a.eval) none).run P E.w = .ok w E.w ∧ VR E (.rsl nn e (off + m.toNat) (n.toNat - m.toNat)) w := by
  simp only [VR] at hx
  obtain ⟨L, hL, hLb⟩ := live_loc hs hl
  obtain ⟨base, rfl, k1, k2, k3⟩ := hx.2 L hL
  refine ⟨_, run_sliceAt_slice E.w hT hsz q1 q2 q3 (by omega), ?_⟩
  simp only [VR, leafV, true_and]
  intro L' hL'
  obtain rfl : L = L' := Option.some.inj (hL.symm.trans hL')
  refine ⟨_, by rw [Nat.sub_sub], by omega, fun h0 => ?_, fun hlt => ?_⟩
  · have e1 : m.toNat = 0 := by omega
    have e2 : off = 0 := by omega
    rw [k2 e2, e1]
    split
    · rfl
    · cases L.base <;> simp [Addr.add]
  · rw [if_neg (by omega), k3 (by omega)]
    cases L.base with
    | none => rfl
    | some ad =>
      simp only [Option.map_some]
      congr 1
      have hA : ∀ (x y : Nat), (ad.add x).add y = ad.add (x + y) := by
        intro x y
        unfold Addr.add
        by_cases hx0 : x = 0
        · subst hx0; simp
        · by_cases hy0 : y = 0
          · subst hy0; simp [hx0]
          · simp [hx0, hy0, Nat.add_assoc]
      rw [hA, Nat.add_mul]
theorem own_rsl {n : Nat} {e e' : Sh} {xs : List e'.T} {v : Value} (h : ObjR E n (.rows e' xs) ∨ ObjR E n (.frz e' xs)) (hx : VR E (.own n e) v) : VR E (.rsl n e 0 xs.length) v := by
  obtain ⟨L, h1, h2, h3, _⟩ := own_val h hx
  simp only [VR] at hx ⊢
  refine ⟨hx.1, fun L' hL' => ?_⟩
  obtain rfl : L = L' := Option.some.inj (h1.symm.trans hL')
  refine ⟨L.base, h2, by omega, fun _ => rfl, fun _ => ?_⟩
  rw [Nat.zero_mul]
  cases L.base <;> simp [Addr.add]
theorem opSlice_sound {P : Program} (hs : SimE W0 okIn B us tm ob nt E a) {nm : Nat} (hnm : ¬ us nm) {T : TypeId} {x r : AV} {v : Value} {lo hi mx : Option Operand} {q : List Prop} {u : Upd} (hl : liveA ob x = true) (h : opSlice P T tm ob x lo hi mx nm = some (q, r, u)) (hq : ∀ p ∈ q, p)
    (hx : VR E x v) (hn : x.nm us) : ∃ E' w, (Instr.sliceAt T v (lo.map a.eval) (hi.map a.eval) (mx.map a.eval)).run P E.w = .ok w E'.w ∧ Evo W0 okIn B us (usn us nm) E E' u ∧ VR E' r w ∧ r.nm (usn us nm) := by
  unfold opSlice at h
  split at h
  · -- three indexes
    rename_i m
    split at h
    case h_2 => simp at h
    rename_i hh
    split at h
    · rename_i el hT
      split at h
      · rename_i e xs sz hsz
        obtain ⟨p1, m1, h, h1⟩ := optI_sound hs h
        obtain ⟨p2, m2, h, h2⟩ := optI_sound hs h
        obtain ⟨p3, m3, h, h3⟩ := optI_sound hs h
        simp only [Option.some.injEq, Prod.mk.injEq] at h
        obtain ⟨rfl, rfl, rfl⟩ := h
        have q1 := h1 fun p hp => hq p (mem_appA.2 (.inl hp))
        have q2 := h2 fun p hp => hq p (mem_appA.2 (.inr (mem_appA.2 (.inl hp))))
        have q3 := h3 fun p hp => hq p (mem_appA.2 (.inr (mem_appA.2 (.inr (mem_appA.2 (.inl hp))))))
        obtain ⟨rfl, rfl, rfl⟩ : m1 = 0 ∧ m2 = 0 ∧ m3 = 0 := hq _ (mem_appA.2 (.inr (mem_appA.2 (.inr (mem_appA.2 (.inr (List.Mem.head _)))))))
        simp only [VR, LRs] at hx
        obtain ⟨base, cap, hv, hc, _⟩ := hx
        simp only [List.cons.injEq, and_true] at hv
        subst hv
        simp only [reduceCtorEq, false_and, Option.some.injEq, false_or] at q2 q3
        obtain ⟨o2, k2, rfl, e2⟩ := q2
        obtain ⟨o3, k3, rfl, e3⟩ := q3
        have b3 : ∀ (y : Nat) (code : BoundsCode) (k : IntKind), (Instr.sliceBound (.int k 0) y code).run P E.w = .ok 0 E.w := fun y code k => run_sliceBound (P := P) E.w code (by omega)
        have hb : (Instr.sliceBounds true (List.length xs) cap (lo.map a.eval) ((some hh).map a.eval) ((some m).map a.eval)).run P E.w = .ok (0, 0, 0) E.w := by
          rcases q1 with ⟨rfl, _⟩ | ⟨o1, k1, rfl, e1⟩
          · simp [Instr.sliceBounds, e2, e3, b3]
          · simp [Instr.sliceBounds, e1, e2, e3, b3]
        refine ⟨⟨E.w, setMu E.mu nm (some ⟨base, 0, false, 0⟩), E.ok⟩, .slice base 0 0, ?_, ?_, ?_, .inr rfl⟩
        · simp only [Instr.sliceAt, Sem.run_bind, run_underlying hT, Result.andThen_ok, Instr.slice, hb, run_sizeT E.w hsz, Sem.run_pure]
          simp
        · refine Evo.new hs.env hs.lo hnm (fun _ _ => rfl) (Nat.le_refl _) rfl rfl rfl (fun h => by simp at h) ?_ (by simp [AO.nm])
          exact ⟨_, setMu_same _ _ _, rfl, .inl ⟨rfl, rfl, rfl⟩⟩
        · simp only [VR, leafV, true_and]
          intro L hL
          simp only [setMu_same, Option.some.injEq] at hL
          subst hL
          rfl
      · simp at h
    · simp at h
  · split at h
    · rename_i hT
      split at h
      · rename_i l
        obtain ⟨p1, m, h, h1⟩ := optI_sound hs h
        obtain ⟨p2, n, h, h2⟩ := optI_sound hs h
        simp only [Option.some.injEq, Prod.mk.injEq] at h
        obtain ⟨rfl, rfl, rfl⟩ := h
        have q1 := h1 fun p hp => hq p (mem_appA.2 (.inl hp))
        have q2 := h2 fun p hp => hq p (mem_appA.2 (.inr (mem_appA.2 (.inl hp))))
        have q3 : 0 ≤ m ∧ m ≤ n ∧ n ≤ (l.length : Int) := hq _ (mem_appA.2 (.inr (mem_appA.2 (.inr (List.Mem.head _)))))
        simp only [VR] at hx
        subst hx
        have hsz : (⟨l.toArray⟩ : ByteArray).size = l.length := by simp [ByteArray.size]
        have hb := run_bounds (P := P) E.w (sl := false) (len := (⟨l.toArray⟩ : ByteArray).size) (cap := (⟨l.toArray⟩ : ByteArray).size) q1 (by rw [hsz]; exact q2) (by rw [hsz]; exact q3) (Nat.le_refl _)
        refine ⟨E, .string ((⟨l.toArray⟩ : ByteArray).extract m.toNat n.toNat), ?_, Evo.refl' hs.env, ?_, by simp [AV.nm]⟩
        · simp [Instr.sliceAt, Instr.slice, run_underlying hT, hb]
        · simp only [VR]
          congr 1
          apply ByteArray.ext
          simp [sliceA, List.extract_eq_take_drop]
      · simp at h
    · rename_i el hT
      split at h
      · rename_i s hsz
        split at h
        · rename_i e xs
          split at h
          · rename_i hb
            have hse := beq_true hb
            subst hse
            obtain ⟨p1, m, h, h1⟩ := optI_sound hs h
            obtain ⟨p2, n, h, h2⟩ := optI_sound hs h
            simp only [Option.some.injEq, Prod.mk.injEq] at h
            obtain ⟨rfl, rfl, rfl⟩ := h
            have q1 := h1 fun p hp => hq p (mem_appA.2 (.inl hp))
            have q2 := h2 fun p hp => hq p (mem_appA.2 (.inr (mem_appA.2 (.inl hp))))
            have q3 : 0 ≤ m ∧ m ≤ n ∧ n ≤ (xs.length : Int) := hq _ (mem_appA.2 (.inr (mem_appA.2 (.inr (List.Mem.head _)))))
            simp only [VR, LRs] at hx
            obtain ⟨base, cap, hv, hc, hrest⟩ := hx
            simp only [List.cons.injEq, and_true] at hv
            subst hv
            refine ⟨E, _, run_sliceAt_slice E.w hT hsz q1 q2 q3 hc, Evo.refl' hs.env, ?_, by simp [AV.nm]⟩
            have hlen : (sliceA m.toNat n.toNat xs).length = n.toNat - m.toNat := sliceA_length (by omega) (by omega)
            simp only [VR, LRs]
            refine ⟨_, _, by rw [hlen], by rw [hlen]; omega, ?_⟩
            by_cases h0 : n.toNat - m.toNat = 0
            · exact .inl (by rw [hlen]; exact h0)
            · refine .inr ?_
              rcases hrest with hrest | ⟨b, o, rfl, hok, hrest⟩
              · omega
              · refine ⟨b, o + m.toNat * e.size, ?_, hok, fun i hi => ?_⟩
                · rw [if_neg (by omega)]; simp [add_mk]
                · have hle : n.toNat ≤ xs.length := by omega
                  rw [sliceA_get hle hi]
                  obtain ⟨cs, c1, c2, c3⟩ := hrest (m.toNat + i) (by rw [hlen] at hi; omega)
                  refine ⟨cs, c1, ?_, c3⟩
                  rw [Nat.add_mul] at c2
                  rw [Nat.add_assoc]
                  exact c2
          · simp at h
        · obtain ⟨p1, m, h, h1⟩ := optI_sound hs h
          obtain ⟨p2, n, h, h2⟩ := optI_sound hs h
          simp only [Option.some.injEq, Prod.mk.injEq] at h
          obtain ⟨rfl, rfl, rfl⟩ := h
          have q1 := h1 fun p hp => hq p (mem_appA.2 (.inl hp))
          have q2 := h2 fun p hp => hq p (mem_appA.2 (.inr (mem_appA.2 (.inl hp))))
          obtain ⟨rfl, rfl⟩ : m = 0 ∧ n = 0 := hq _ (mem_appA.2 (.inr (mem_appA.2 (.inr (List.Mem.head _)))))
          simp only [VR] at hx
          subst hx
          exact ⟨E, _, run_sliceAt_slice E.w hT hsz q1 q2 ⟨by omega, by omega, by simp⟩ (Nat.le_refl _), Evo.refl' hs.env, by simp [VR], by simp [AV.nm]⟩
        · rename_i nn e off len
          split at h
          · rename_i hb
            have hse := beq_true hb
            subst hse
            obtain ⟨p1, m, h, h1⟩ := optI_sound hs h
            obtain ⟨p2, n, h, h2⟩ := optI_sound hs h
            simp only [Option.some.injEq, Prod.mk.injEq] at h
            obtain ⟨rfl, rfl, rfl⟩ := h
            have q1 := h1 fun p hp => hq p (mem_appA.2 (.inl hp))
            have q2 := h2 fun p hp => hq p (mem_appA.2 (.inr (mem_appA.2 (.inl hp))))
            have q3 : 0 ≤ m ∧ m ≤ n ∧ n ≤ (len : Int) := hq _ (mem_appA.2 (.inr (mem_appA.2 (.inr (List.Mem.head _)))))
            obtain ⟨w, w1, w2⟩ := slice_rsl hs hT hsz hl hx q1 q2 q3
            exact ⟨E, w, w1, Evo.refl' hs.env, VR.mono (Evo.refl hs.env |>.goes hs.env) _ _ hn w2, .inl hn⟩
          · simp at h
        · rename_i nn e
          split at h
          · rename_i hb
            have hse := beq_true hb
            subst hse
            have fin : ∀ {e' : Sh} {xs : List e'.T}, (ObjR E nn (.rows e' xs) ∨ ObjR E nn (.frz e' xs)) → (optI tm lo 0 fun p a => optI tm hi xs.length fun q b =>
                some (appA p (appA q [0 ≤ a ∧ a ≤ b ∧ b ≤ (xs.length : Int)]), AV.rsl nn e a.toNat (b.toNat - a.toNat), ([] : Upd))) = some (q, r, u) →
                ∃ E' w, (Instr.sliceAt T v (lo.map a.eval) (hi.map a.eval) none).run P E.w = .ok w E'.w ∧ Evo W0 okIn B us (usn us nm) E E' u ∧ VR E' r w ∧ r.nm (usn us nm) := by
              intro e' xs ho h
              obtain ⟨p1, m, h, h1⟩ := optI_sound hs h
              obtain ⟨p2, n, h, h2⟩ := optI_sound hs h
              simp only [Option.some.injEq, Prod.mk.injEq] at h
              obtain ⟨rfl, rfl, rfl⟩ := h
              have q1 := h1 fun p hp => hq p (mem_appA.2 (.inl hp))
              have q2 := h2 fun p hp => hq p (mem_appA.2 (.inr (mem_appA.2 (.inl hp))))
              have q3 : 0 ≤ m ∧ m ≤ n ∧ n ≤ (xs.length : Int) := hq _ (mem_appA.2 (.inr (mem_appA.2 (.inr (List.Mem.head _)))))
              obtain ⟨w, w1, w2⟩ := slice_rsl hs hT hsz hl (own_rsl ho hx) q1 q2 q3
              rw [Nat.zero_add] at w2
              exact ⟨E, w, w1, Evo.refl' hs.env, w2, .inl hn⟩
            split at h
            · rename_i hob; exact fin (.inl (hs.obj _ _ hob).1) h
            · rename_i hob; exact fin (.inr (hs.obj _ _ hob).1) h
            · simp at h
          · simp at h
        · rename_i nn off len
          obtain ⟨p1, m, h, h1⟩ := optI_sound hs h
          obtain ⟨p2, n, h, h2⟩ := optI_sound hs h
          simp only [Option.some.injEq, Prod.mk.injEq] at h
          obtain ⟨rfl, rfl, rfl⟩ := h
          have q1 := h1 fun p hp => hq p (mem_appA.2 (.inl hp))
          have q2 := h2 fun p hp => hq p (mem_appA.2 (.inr (mem_appA.2 (.inl hp))))
          have q3 : 0 ≤ m ∧ m ≤ n ∧ n ≤ (len : Int) := hq _ (mem_appA.2 (.inr (mem_appA.2 (.inr (List.Mem.head _)))))
          simp only [VR] at hx
          obtain ⟨L, hL, hLb⟩ := live_loc hs hl
          obtain ⟨b, o, cap, k1, rfl, k2, k3⟩ := hx.2 L hL
          refine ⟨E, _, run_sliceAt_slice E.w hT hsz q1 q2 q3 k2, Evo.refl' hs.env, ?_, .inl hn⟩
          simp only [VR, leafV, true_and]
          intro L' hL'
          obtain rfl : L = L' := Option.some.inj (hL.symm.trans hL')
          by_cases hc : cap = m.toNat
          · rw [if_pos hc]
            exact ⟨b, o, _, k1, rfl, by omega, fun h0 => by omega⟩
          · rw [if_neg hc]
            refine ⟨b, o + m.toNat * s, _, k1, by rw [Option.map_some, add_mk], by omega, fun h0 => by rw [k3 (by omega)]⟩
        · simp at h
      · simp at h
    · rename_i mm el hT
      split at h
      · rename_i s hsz
        split at h
        · rename_i nn off
          obtain ⟨p1, m, h, h1⟩ := optI_sound hs h
          obtain ⟨p2, n, h, h2⟩ := optI_sound hs h
          simp only [Option.some.injEq, Prod.mk.injEq] at h
          obtain ⟨rfl, rfl, rfl⟩ := h
          have q1 := h1 fun p hp => hq p (mem_appA.2 (.inl hp))
          have q2 := h2 fun p hp => hq p (mem_appA.2 (.inr (mem_appA.2 (.inl hp))))
          have q3 : 0 ≤ m ∧ m ≤ n ∧ n ≤ (mm : Int) := hq _ (mem_appA.2 (.inr (mem_appA.2 (.inr (List.Mem.head _)))))
          simp only [VR] at hx
          obtain ⟨L, hL, hLb⟩ := live_loc hs hl
          obtain ⟨b, k1, rfl⟩ := hx.2 L hL
          have hb := run_bounds (P := P) E.w (sl := false) (len := mm) (cap := mm) q1 q2 q3 (Nat.le_refl _)
          refine ⟨E, .slice (some (if mm = m.toNat then ⟨b, off, none⟩ else (⟨b, off, none⟩ : Addr).add (m.toNat * s))) (n.toNat - m.toNat) (mm - m.toNat), ?_, Evo.refl' hs.env, ?_, .inl hn⟩
          · simp [Instr.sliceAt, run_underlying hT, Instr.sureAddr, hb, run_sizeT E.w hsz]
          · simp only [VR, leafV, true_and]
            intro L' hL'
            obtain rfl : L = L' := Option.some.inj (hL.symm.trans hL')
            by_cases hc : mm = m.toNat
            · rw [if_pos hc]
              exact ⟨b, off, _, k1, rfl, by omega, fun h0 => by omega⟩
            · rw [if_neg hc]
              refine ⟨b, off + m.toNat * s, _, k1, by rw [add_mk], by omega, fun h0 => rfl⟩
        · simp at h
      · simp at h
    · simp at h
end
end Go.Tr
namespace Go.Tr
open Go
set_option linter.unusedVariables false
set_option linter.unusedSimpArgs false
section
variable {W0 : WX} {okIn B us : Nat → Prop} {tm : Nat → Option AV} {ob : Nat → Option AO} {nt : Nat} {E : Env} {a : Act}
theorem wrap64_of {n : Int} (h0 : -9223372036854775808 ≤ n) (h : n < 9223372036854775808) : IntKind.i64.wrap n = n := by
  simp only [IntKind.wrap, IntKind.bits, IntKind.signed]
  simp only [Bool.true_and]
  split <;> rename_i hh <;> simp at hh <;> omega
theorem repeat_chunk {z : Array Value} {s N i : Nat} (hz : z.size = s) (h : (i + 1) * s ≤ N) : ((((Array.range N).map (z[· % z.size]!)).toList.drop (i * s)).take s) = z.toList := by
  apply List.ext_getElem?
  intro j
  simp only [List.getElem?_take, List.getElem?_drop]
  rw [Nat.add_mul] at h
  by_cases hj : j < s
  · rw [if_pos hj]
    have hlt : i * s + j < N := by omega
    have hmod : (i * s + j) % s = j := by rw [Nat.add_comm, Nat.mul_comm, Nat.add_mul_mod_self_left, Nat.mod_eq_of_lt hj]
    simp [hlt, hz, hmod, hj]
  · rw [if_neg hj]
    rw [List.getElem?_eq_none (by simp; omega)]
theorem opMakeSlice_sound {P : Program} (hs : SimE W0 okIn B us tm ob nt E a) {nm : Nat} (hnm : ¬ us nm) {T el : TypeId} {e : Sh} {z : List AV} {t : e.T} {k k' : IntKind} {n m : Int} (hT : P.underlying T = some (.slice el)) (he : shE P el = some e) (hz : zeroT P el = some z)
    (hd : decS e z = some (t, [])) (h : 0 ≤ n ∧ n ≤ m ∧ m < 9223372036854775808 ∧ roomy P el m.toNat) :
    ∃ E' y, (Instr.makeSlice T (.int k n) (.int k' m)).run P E.w = .ok y E'.w ∧ Evo W0 okIn B us (usn us nm) E E' [(nm, some (.rows e (List.replicate n.toNat t)))] ∧ VR E' (.own nm e) y := by
  obtain ⟨h1, h2, h3, h4⟩ := h
  obtain ⟨zv, hzr, rfl⟩ := zeroT_run hz E.w
  have hl := decS_all hd (cvals_sound E zv.cells.toList)
  have hzs : zv.cells.size = e.size := by have := LRs.length e _ _ hl; simpa using this
  obtain ⟨i, hi, hisz⟩ := sizeT_info (shE_size he).1
  obtain ⟨r1, r2⟩ := roomy_info hi h4
  obtain ⟨zero, hzero⟩ : ∃ zero : Array Value, zero = if m.toNat * e.size = 0 then #[] else zv.cells := ⟨_, rfl⟩
  have hm : (m.toNat : Int) = m := by omega
  have hbig : ¬ ((i.bytes : Int) * m > 281474976710656) := by
    rw [← hm]
    have : ((i.bytes : Int) * (m.toNat : Int)) = ((m.toNat * i.bytes : Nat) : Int) := by rw [Int.natCast_mul, Int.mul_comm]
    rw [this]; omega
  have hwm : IntKind.i64.wrap m = m := wrap64_of (by omega) h3
  have hwn : IntKind.i64.wrap n = n := wrap64_of (by omega) (by omega)
  obtain ⟨E', hE, hev, hvr⟩ := evo_rows hs.env hs.lo hnm (e := e) (xs := List.replicate n.toNat t) (T := el) (fr := (0, 0)) (cap := m.toNat) (push_ext E.w (.cells ((Array.range (m.toNat * e.size)).map (zero[· % zero.size]!)) el)) (push_last _ _) (by simp) rfl rfl rfl (fun i _ => by omega) (by simp) (by simp; omega)
    (fun j hj => by
      have hj' : j < n.toNat := by simpa using hj
      have hmul := Nat.mul_le_mul_right e.size (show j + 1 ≤ m.toNat by omega)
      simp only [List.getElem_replicate]
      by_cases h0 : e.size = 0
      · have hnil : zv.cells.toList = [] := by apply List.eq_nil_of_length_eq_zero; simp [hzs, h0]
        rw [hnil] at hl
        simpa [h0] using hl
      · have hne : m.toNat * e.size ≠ 0 := by
          have : 0 < (j + 1) * e.size := Nat.mul_pos (by omega) (by omega)
          omega
        rw [hzero, if_neg hne, repeat_chunk hzs hmul]
        exact hl)
  refine ⟨E', _, ?_, hev, by simpa using hvr⟩
  rw [hE]
  have hti : (typeInfo el).run P E.w = .ok i E.w := by simp [typeInfo, hi]
  have hsz := run_sizeT E.w (shE_size he).1
  simp only [Instr.makeSlice, Sem.run_bind, run_underlying hT, Result.andThen_ok, asInt, asIntOf, Sem.run_pure, hti, hwm, hwn]
  have hc : (((decide (m < 0) || decide ((i.bytes : Int) * m > 2 ^ 48)) || decide (n < 0)) || decide (n > m)) = false := by
    have e1 : decide (m < 0) = false := decide_eq_false (by omega)
    have e2 : decide ((i.bytes : Int) * m > 2 ^ 48) = false := decide_eq_false (by simpa using hbig)
    have e3 : decide (n < 0) = false := decide_eq_false (by omega)
    have e4 : decide (n > m) = false := decide_eq_false (by omega)
    rw [e1, e2, e3, e4]; rfl
  rw [if_neg (by rw [hc]; simp)]
  simp only [Sem.run_bind, run_askRoom, Result.andThen_ok, hsz]
  by_cases h0 : m.toNat * e.size = 0
  · rw [if_pos h0] at hzero
    subst hzero
    rw [if_pos h0]
    simp only [Sem.run_bind, Sem.run_pure, Result.andThen_ok, newRow, run_newObj, List.length_replicate]
  · rw [if_neg h0] at hzero
    subst hzero
    rw [if_neg h0]
    simp only [Sem.run_bind, hzr, Sem.run_pure, Result.andThen_ok, newRow, run_newObj, List.length_replicate]
theorem strip_sound {t want : Bool} {v v' : AV} {q : List Prop} {x : Value} (h : pickA.strip t want v = (q, v')) (hq : ∀ p ∈ q, p) (ht : t = want) (hx : VR E v x) : VR E v' x := by
  unfold pickA.strip at h
  split at h
  · simp only [Prod.mk.injEq] at h
    obtain ⟨rfl, rfl⟩ := h
    simp only [VR] at hx
    exact hx.1 (hq _ (List.Mem.head _) ht)
  · simp only [Prod.mk.injEq] at h
    obtain ⟨rfl, rfl⟩ := h
    exact hx
theorem pickA_sound {ca cb : Operand} {t : Bool} {x y r : AV} {u v : Value} {q : List Prop} (h : pickA ca cb t x y = some (q, r)) (hq : ∀ p ∈ q, p) (hx : VR E x u) (hy : VR E y v)
    (hca : ∀ c, ca = .const c → x = cval c) (hcb : ∀ c, cb = .const c → y = cval c) :
    VR E r (if t then u else v) ∧ ∀ p, r.nm p := by
  unfold pickA at h
  generalize hsa : pickA.strip t true x = sa at h
  generalize hsb : pickA.strip t false y = sb at h
  obtain ⟨pa, x'⟩ := sa
  obtain ⟨pb, y'⟩ := sb
  simp only at h
  split at h
  · rename_i x0 y0
    have ex : (∀ p ∈ pa, p) → t = true → u = .bool x0 := fun hp ht => by have := strip_sound hsa hp ht hx; simpa only [VR] using this
    have ey : (∀ p ∈ pb, p) → t = false → v = .bool y0 := fun hp ht => by have := strip_sound hsb hp ht hy; simpa only [VR] using this
    -- a constant is not bound to a guard
    have noguard : ∀ c, pickA.strip t true (cval c) = ([], cval c) := by
      intro c; unfold cval; split <;> rfl
    have noguard' : ∀ c, pickA.strip t false (cval c) = ([], cval c) := by
      intro c; unfold cval; split <;> rfl
    split at h
    · rename_i c
      have hpa : pa = [] := by
        have := hca c rfl
        rw [this, noguard] at hsa
        exact (Prod.mk.inj hsa).1.symm
      split at h
      · simp only [Option.some.injEq, Prod.mk.injEq] at h
        obtain ⟨rfl, rfl⟩ := h
        refine ⟨?_, by simp [AV.nm]⟩
        cases t
        · simp only [Bool.false_eq_true, if_false, Bool.false_or, VR]; exact ey hq rfl
        · simp only [if_true, Bool.true_or, VR]; exact ex (by simp [hpa]) rfl
      · simp only [Option.some.injEq, Prod.mk.injEq] at h
        obtain ⟨rfl, rfl⟩ := h
        refine ⟨?_, by simp [AV.nm]⟩
        cases t
        · simp only [Bool.false_eq_true, if_false, Bool.not_false, Bool.true_and, VR]; exact ey hq rfl
        · simp only [if_true, Bool.not_true, Bool.false_and, VR]; exact ex (by simp [hpa]) rfl
    · rename_i c hne
      have hpb : pb = [] := by
        have := hcb c rfl
        rw [this, noguard'] at hsb
        exact (Prod.mk.inj hsb).1.symm
      split at h
      · simp only [Option.some.injEq, Prod.mk.injEq] at h
        obtain ⟨rfl, rfl⟩ := h
        refine ⟨?_, by simp [AV.nm]⟩
        cases t
        · simp only [Bool.false_eq_true, if_false, Bool.false_and, VR]; exact ey (by simp [hpb]) rfl
        · simp only [if_true, Bool.true_and, VR]; exact ex hq rfl
      · simp only [Option.some.injEq, Prod.mk.injEq] at h
        obtain ⟨rfl, rfl⟩ := h
        refine ⟨?_, by simp [AV.nm]⟩
        cases t
        · simp only [Bool.false_eq_true, if_false, Bool.not_false, Bool.true_or, VR]; exact ey (by simp [hpb]) rfl
        · simp only [if_true, Bool.not_true, Bool.false_or, VR]; exact ex hq rfl
    · simp only [Option.some.injEq, Prod.mk.injEq] at h
      obtain ⟨rfl, rfl⟩ := h
      refine ⟨?_, by simp [AV.nm]⟩
      cases t
      · simp only [Bool.false_eq_true, if_false, cond_false, VR]; exact ey (fun p hp => hq p (mem_appA.2 (.inr hp))) rfl
      · simp only [if_true, cond_true, VR]; exact ex (fun p hp => hq p (mem_appA.2 (.inl hp))) rfl
  · simp at h
theorem max_sound {P : Program} (w : World) : ∀ {l : List AV} {v r : AV} {u : Value} {vs : List Value}, minmaxA true v l = some r → VR E v u → VRL E l vs →
    ∃ z, (vs.foldlM Builtin.max2 u : Sem Value).run P w = .ok z w ∧ VR E r z ∧ ((∀ p, v.nm p) → ∀ p, r.nm p)
  | [], v, r, u, vs, h, hu, hv => by
    simp only [VRL] at hv
    subst hv
    have : some v = some r := by cases v <;> simpa [minmaxA] using h
    simp only [Option.some.injEq] at this
    subst this
    exact ⟨u, by simp, hu, fun hp => hp⟩
  | x :: l, v, r, u, vs, h, hu, hv => by
    simp only [VRL] at hv
    obtain ⟨y, ys, rfl, hy, hys⟩ := hv
    cases v <;> cases x <;> simp only [minmaxA, reduceCtorEq] at h
    simp only [VR] at hu hy
    subst hu; subst hy
    obtain ⟨z, h1, h2, h3⟩ := max_sound w h VR.int hys
    refine ⟨z, ?_, h2, fun _ => h3 (by simp [AV.nm])⟩
    simp only [List.foldlM_cons, Sem.run_bind, Builtin.max2, Sem.run_pure, Result.andThen_ok]
    exact h1
theorem min_sound {P : Program} (w : World) : ∀ {l : List AV} {v r : AV} {u : Value} {vs : List Value}, minmaxA false v l = some r → VR E v u → VRL E l vs →
    ∃ z, (vs.foldlM Builtin.min2 u : Sem Value).run P w = .ok z w ∧ VR E r z ∧ ((∀ p, v.nm p) → ∀ p, r.nm p)
  | [], v, r, u, vs, h, hu, hv => by
    simp only [VRL] at hv
    subst hv
    have : some v = some r := by cases v <;> simpa [minmaxA] using h
    simp only [Option.some.injEq] at this
    subst this
    exact ⟨u, by simp, hu, fun hp => hp⟩
  | x :: l, v, r, u, vs, h, hu, hv => by
    simp only [VRL] at hv
    obtain ⟨y, ys, rfl, hy, hys⟩ := hv
    cases v <;> cases x <;> simp only [minmaxA, reduceCtorEq] at h
    simp only [VR] at hu hy
    subst hu; subst hy
    obtain ⟨z, h1, h2, h3⟩ := min_sound w h VR.int hys
    refine ⟨z, ?_, h2, fun _ => h3 (by simp [AV.nm])⟩
    simp only [List.foldlM_cons, Sem.run_bind, Builtin.min2, Sem.run_pure, Result.andThen_ok]
    exact h1
theorem arrV_sound {w : World} {ok : Nat → Prop} {e : Sh} {xs : List e.T} {b o : Nat} (hx : ∀ i (h : i < xs.length), ∃ cs, cs.length = e.size ∧ Row w b (o + i * e.size) cs ∧ LRs w ok e (xs[i]'h) cs) :
    ∀ (n i : Nat) (s : Sh) (t : s.T), arrV e xs n i s = some t → i + n ≤ xs.length → ∃ cs, cs.length = s.size ∧ s.size = n * e.size ∧ Row w b (o + i * e.size) cs ∧ LRs w ok s t cs
  | 0, i, s, t, h, _ => by simp [arrV] at h
  | 1, i, s, t, h, hle => by
    simp only [arrV] at h
    split at h
    · rename_i he
      subst he
      simp only [Option.some.injEq] at h
      subst h
      have hi : i < xs.length := by omega
      obtain ⟨cs, h1, h2, h3⟩ := hx i hi
      rw [getD_eq hi]
      exact ⟨cs, h1, by omega, h2, h3⟩
    · simp at h
  | n + 2, i, s, t, h, hle => by
    cases s with
    | pair p q =>
      simp only [arrV] at h
      split at h
      · rename_i he
        subst he
        split at h
        · rename_i r hr
          simp only [Option.some.injEq] at h
          subst h
          have hi : i < xs.length := by omega
          obtain ⟨c1, h1, h2, h3⟩ := hx i hi
          obtain ⟨c2, g1, g2, g3, g4⟩ := arrV_sound hx (n + 1) (i + 1) q r hr (by omega)
          refine ⟨c1 ++ c2, by simp [Sh.size, h1, g1], by simp [Sh.size, g2, Nat.add_mul]; omega, h2.append ?_, ?_⟩
          · rw [h1]
            rwa [show o + (i + 1) * e.size = o + i * e.size + e.size by rw [Nat.add_mul]; omega] at g3
          · simp only [LRs]
            exact ⟨c1, c2, rfl, by rw [getD_eq hi]; exact h3, g4⟩
        · simp at h
      · simp at h
    | _ => simp [arrV] at h
end
end Go.Tr
namespace Go.Tr
open Go
set_option linter.unusedVariables false
set_option linter.unusedSimpArgs false
section
variable {W0 : WX} {okIn B us : Nat → Prop} {tm : Nat → Option AV} {ob : Nat → Option AO} {nt : Nat} {E : Env} {a : Act}
def FrzU (ob : Nat → Option AO) (u : Upd) : Prop := ∀ m r, (m, r) ∈ u → ∃ e xs, ob m = some (.rows e xs) ∧ r = some (.frz e xs)
theorem lkA_mem' {α : Type} {l : List (Nat × α)} {n : Nat} {x : α} (h : lkA l n = some x) : (n, x) ∈ l := by
  induction l with
  | nil => simp [lkA] at h
  | cons y r ih =>
    obtain ⟨m, z⟩ := y
    simp only [lkA] at h
    cases hb : Nat.beq n m with
    | true =>
      rw [hb] at h
      simp only [Option.some.injEq] at h
      have := beq_true hb
      subst this; subst h
      exact List.mem_cons_self ..
    | false => rw [hb] at h; exact List.mem_cons_of_mem _ (ih h)
theorem lkA_app' {α : Type} (u w : List (Nat × α)) (n : Nat) : lkA (appA u w) n = match lkA u n with | some r => some r | none => lkA w n := by
  induction u with
  | nil => rfl
  | cons x r ih =>
    obtain ⟨m, y⟩ := x
    simp only [appA, lkA]
    cases Nat.beq n m with
    | true => rfl
    | false => exact ih
theorem FrzU.app {u w : Upd} (hu : FrzU ob u) (hw : FrzU ob w) : FrzU ob (appA u w) := fun m r h => by
  rw [appA_eq] at h
  rcases List.mem_append.1 h with h | h
  · exact hu m r h
  · exact hw m r h
theorem frzU_ok (v : AV) : FrzU ob (frzU ob v) := by
  intro m r h
  unfold frzU at h
  split at h
  · split at h
    · rename_i e xs hob
      split at h
      · simp only [List.mem_singleton, Prod.mk.injEq] at h
        obtain ⟨rfl, rfl⟩ := h
        exact ⟨e, xs, hob, rfl⟩
      · simp at h
    · simp at h
  · simp at h
theorem frzUs_ok : ∀ l : List AV, FrzU ob (frzUs ob l)
  | [] => fun m r h => by simp [frzUs] at h
  | v :: r => (frzU_ok v).app (frzUs_ok r)
theorem frzW_ok (v : AV) : FrzU ob (frzW ob v) := by
  unfold frzW
  split
  · exact frzUs_ok _
  · exact frzU_ok _
theorem frzQ_ok : ∀ l : List (Nat × AV), FrzU ob (frzQ ob l)
  | [] => fun m r h => by simp [frzQ] at h
  | (i, v) :: r => (frzW_ok v).app (frzQ_ok r)
def frzE (E : Env) (u : Upd) : Env := ⟨E.w, fun n => match lkA u n with | some _ => (E.mu n).map fun L => { L with own := false } | none => E.mu n, fun b => E.ok b ∨ ∃ n, (lkA u n).isSome = true ∧ owns E n b⟩
theorem frzE_mu {u : Upd} {n : Nat} {L' : Loc} (h : (frzE E u).mu n = some L') : ∃ L, E.mu n = some L ∧ L.base = L'.base ∧ L.cap = L'.cap ∧ L.len = L'.len ∧ (L'.own = true → L.own = true ∧ lkA u n = none) := by
  simp only [frzE] at h
  split at h
  · cases hm : E.mu n with
    | none => rw [hm] at h; simp at h
    | some L =>
      rw [hm] at h
      simp only [Option.map_some, Option.some.injEq] at h
      subst h
      exact ⟨L, rfl, rfl, rfl, rfl, fun h => by simp at h⟩
  · rename_i hn
    exact ⟨L', h, rfl, rfl, rfl, fun h => ⟨h, hn⟩⟩
theorem frzE_own {u : Upd} {n b : Nat} (h : owns (frzE E u) n b) : owns E n b ∧ lkA u n = none := by
  obtain ⟨L', h1, h2, h3⟩ := h
  obtain ⟨L, k1, k2, _, _, k5⟩ := frzE_mu h1
  obtain ⟨k6, k7⟩ := k5 h2
  exact ⟨⟨L, k1, k6, k2.trans h3⟩, k7⟩
theorem frzE_frz (hs : SimE W0 okIn B us tm ob nt E a) {u : Upd} (hu : FrzU ob u) {n : Nat} {e : Sh} {xs : List e.T} (h : lkA u n = some (some (.frz e xs))) : ObjR (frzE E u) n (.frz e xs) := by
  obtain ⟨e', xs', hob, hr⟩ := hu _ _ (lkA_mem' h)
  simp only [Option.some.injEq, AO.frz.injEq] at hr
  obtain ⟨rfl, hr⟩ := hr
  obtain rfl := eq_of_heq hr
  obtain ⟨L, k1, kl, k2⟩ := (hs.obj n _ hob).1
  refine ⟨{ L with own := false }, by simp [frzE, h, k1], kl, rfl, ?_, ?_⟩
  · rcases k2 with ⟨g1, _, _⟩ | ⟨b, cs, T, fr, g1, _⟩
    · exact .inl g1
    · exact .inr ⟨b, g1⟩
  · simp only [LRs]
    rcases k2 with ⟨g1, g2, _⟩ | ⟨b, cs, T, fr, g1, g2, g3, g4, g5, g6, g7⟩
    · exact ⟨L.base, L.cap, rfl, by omega, .inl g2⟩
    · refine ⟨L.base, L.cap, rfl, g5, .inr ⟨b, 0, g1, .inr ⟨n, by simp [h], L, k1, g2, g1⟩, fun i hi => ?_⟩⟩
      have hc : (i + 1) * e.size ≤ L.cap * e.size := Nat.mul_le_mul_right _ (by omega)
      rw [Nat.succ_mul] at hc
      have hlr := g7 i hi
      refine ⟨_, ?_, ?_, LRs.mono (fun _ _ => rfl) (fun b hb => .inl hb) _ _ _ hlr⟩
      · simp; omega
      · intro t ht
        have ht' : t < e.size := by simp at ht; omega
        show (match E.w.heap[b]? with
          | some (.cells c _ _) => c[0 + i * e.size + t]?
          | _ => none) = _
        rw [g3]
        simp only [Nat.zero_add]
        rw [← List.getElem?_eq_getElem ht, List.getElem?_take_of_lt ht', List.getElem?_drop, Array.getElem?_toList]
theorem frzE_evo (hs : SimE W0 okIn B us tm ob nt E a) {u : Upd} (hu : FrzU ob u) : Evo W0 okIn B us us E (frzE E u) u := by
  have hsome : ∀ n r, lkA u n = some r → ∃ e xs, ob n = some (.rows e xs) ∧ r = some (.frz e xs) := fun n r h => hu n r (lkA_mem' h)
  refine ⟨fun _ h => h, fun n h => by simp [frzE, h], fun n _ L' h => ?_, fun n h => ?_, fun n o h => ?_, fun _ _ _ => rfl, fun b h => .inl h, ?_⟩
  · obtain ⟨L, k1, k2, k3, k4, _⟩ := frzE_mu h
    exact ⟨L, k1, k2, k3, k4⟩
  · obtain ⟨e, xs, _, h2⟩ := hsome n _ h
    simp at h2
  · obtain ⟨e, xs, h1, h2⟩ := hsome n _ h
    simp only [Option.some.injEq] at h2
    subst h2
    exact ⟨frzE_frz hs hu h, by simp [AO.nm], (hs.obj n _ h1).2.2⟩
  · have he := hs.env
    refine ⟨fun n m b h1 h2 => he.inj n m b (frzE_own h1).1 (frzE_own h2).1, fun n b h => ?_, fun b h => ?_, fun b h => .inl (he.oki b h), he.fr, he.sz, he.new, he.os, he.tape, he.output, fun n L h hn => ?_⟩
    · obtain ⟨k1, k2⟩ := frzE_own h
      have := he.own n b k1
      refine ⟨this.1, this.2.1, fun hb => ?_⟩
      rcases hb with hb | ⟨m, hm, hb⟩
      · exact this.2.2 hb
      · have := he.inj n m b k1 hb
        subst this
        rw [k2] at hm
        simp at hm
    · rcases h with h | ⟨m, _, h⟩
      · exact he.okl b h
      · have := he.own m b h
        exact ⟨this.2.1, .inr this.1⟩
    · obtain ⟨L0, k1, k2, k3, k4, _⟩ := frzE_mu h
      obtain ⟨L1, g1, g2, g3, g4⟩ := he.li n L0 k1 hn
      exact ⟨L1, g1, g2.trans k2, g3.trans k3, g4.trans k4⟩
theorem frzE_sim (hs : SimE W0 okIn B us tm ob nt E a) {u : Upd} (hu : FrzU ob u) : SimE W0 okIn B us tm (updO u ob) nt (frzE E u) a := by
  have := hs.evo (frzE_evo hs hu) (d := none) rfl (v := .unk) (x := undef) (by simp [VR]) (by simp [AV.nm])
  exact this
theorem frz1_sound (hs : SimE W0 okIn B us tm ob nt E a) {u : Upd} (hu : FrzU ob u) {v : AV} {x : Value} (hv : VR E v x) (hn : v.nm us) (hin : ∀ m r, (m, r) ∈ frzU ob v → lkA u m = some r) :
    VR (frzE E u) (frz1 ob v) x ∧ (frz1 ob v).nm us := by
  have g := (frzE_evo hs hu).goes hs.env
  have keep : VR (frzE E u) v x ∧ v.nm us := ⟨VR.mono g _ _ hn hv, hn⟩
  unfold frz1
  split
  · rename_i m e
    split
    · rename_i e' xs hob
      split
      · rename_i hee
        subst hee
        have hl : lkA u m = some (some (.frz e' xs)) := hin m _ (by simp [frzU, hob])
        obtain ⟨L, h1, h2, h3, h4, h5⟩ := frzE_frz hs hu hl
        refine ⟨?_, by simp [AV.nm]⟩
        simp only [VR]
        have hk := keep.1
        simp only [VR] at hk
        rw [hk.2 L h1, h2]
        exact h5
      · exact keep
    · rename_i e' xs hob
      split
      · rename_i hee
        subst hee
        obtain ⟨L, h1, h2, h3, h4, h5⟩ := (hs.obj m _ hob).1
        refine ⟨?_, by simp [AV.nm]⟩
        simp only [VR] at hv ⊢
        rw [hv.2 L h1, h2]
        exact LRs.mono g.hw g.ho _ _ _ h5
      · exact keep
    · exact keep
  · exact keep
theorem frzs_sound (hs : SimE W0 okIn B us tm ob nt E a) {u : Upd} (hu : FrzU ob u) : ∀ {l : List AV} {vs : List Value}, VRL E l vs → AV.nms us l → (∀ m r, (m, r) ∈ frzUs ob l → lkA u m = some r) →
    VRL (frzE E u) (frzs ob l) vs ∧ AV.nms us (frzs ob l)
  | [], vs, h, _, _ => ⟨by simpa [frzs, VRL] using h, by simp [frzs, AV.nms]⟩
  | v :: l, vs, h, hn, hin => by
    simp only [VRL, AV.nms, frzs] at h hn ⊢
    obtain ⟨x, r, rfl, h1, h2⟩ := h
    obtain ⟨a1, a2⟩ := frz1_sound hs hu h1 hn.1 fun m r hm => hin m r (by simp only [frzUs, appA_eq]; exact List.mem_append_left _ hm)
    obtain ⟨b1, b2⟩ := frzs_sound hs hu h2 hn.2 fun m r hm => hin m r (by simp only [frzUs, appA_eq]; exact List.mem_append_right _ hm)
    exact ⟨⟨x, r, rfl, a1, b1⟩, a2, b2⟩
theorem frzV_sound (hs : SimE W0 okIn B us tm ob nt E a) {u : Upd} (hu : FrzU ob u) {v : AV} {x : Value} (hv : VR E v x) (hn : v.nm us) (hin : ∀ m r, (m, r) ∈ frzW ob v → lkA u m = some r) :
    VR (frzE E u) (frzV ob v) x ∧ (frzV ob v).nm us := by
  unfold frzV
  split
  · rename_i l
    simp only [VR, AV.nm] at hv hn ⊢
    obtain ⟨vs, h1, h2⟩ := hv
    obtain ⟨k1, k2⟩ := frzs_sound hs hu h2 hn hin
    exact ⟨⟨vs, h1, k1⟩, k2⟩
  · rename_i h
    refine frz1_sound hs hu hv hn fun m r hm => hin m r ?_
    unfold frzW
    split
    · exact absurd rfl (h _)
    · exact hm
theorem frzP_len : ∀ l : List (Nat × AV), (frzP ob l).length = l.length
  | [] => rfl
  | (i, v) :: r => by simp [frzP, frzP_len r]
theorem frzP_sound (hs : SimE W0 okIn B us tm ob nt E a) {u : Upd} (hu : FrzU ob u) : ∀ {l : List (Nat × AV)} {vs : List (Nat × Value)}, VRP E l vs → nmp us l → (∀ m r, (m, r) ∈ frzQ ob l → lkA u m = some r) →
    VRP (frzE E u) (frzP ob l) vs
  | [], vs, h, _, _ => by simpa [frzP, VRP] using h
  | (i, v) :: l, vs, h, hn, hin => by
    simp only [VRP, nmp, frzP] at h hn ⊢
    obtain ⟨x, r, rfl, h1, h2⟩ := h
    obtain ⟨a1, a2⟩ := frzV_sound hs hu h1 hn.1 fun m r hm => hin m r (by simp only [frzQ, appA_eq]; exact List.mem_append_left _ hm)
    exact ⟨x, r, rfl, a1, frzP_sound hs hu h2 hn.2 fun m r hm => hin m r (by simp only [frzQ, appA_eq]; exact List.mem_append_right _ hm)⟩
theorem FrzU.look {u : Upd} (hu : FrzU ob u) {m : Nat} {r : Option AO} (h : (m, r) ∈ u) : lkA u m = some r := by
  obtain ⟨e, xs, h1, h2⟩ := hu m r h
  have key : ∀ w : Upd, FrzU ob w → (m, r) ∈ w → lkA w m = some r := by
    intro w
    induction w with
    | nil => intro _ h; simp at h
    | cons y l ih =>
      intro hw hm
      obtain ⟨n, z⟩ := y
      simp only [lkA]
      cases hb : Nat.beq m n with
      | true =>
        have := beq_true hb
        subst this
        obtain ⟨e', xs', k1, k2⟩ := hw m z (List.mem_cons_self ..)
        rw [h1] at k1
        simp only [Option.some.injEq, AO.rows.injEq] at k1
        obtain ⟨rfl, k1⟩ := k1
        obtain rfl := eq_of_heq k1
        rw [h2, k2]
      | false =>
        rcases List.mem_cons.1 hm with h | h
        · simp only [Prod.mk.injEq] at h
          rw [h.1, beq_self] at hb
          simp at hb
        · exact ih (fun a b hab => hw a b (List.mem_cons_of_mem _ hab)) h
  exact key u hu h
theorem Evo.frz (hs : SimE W0 okIn B us tm ob nt E a) {u1 u2 : Upd} (hu : FrzU ob u1) {nm : Nat} {E2 : Env} (h2 : Evo W0 okIn B us (usn us nm) (frzE E u1) E2 u2) : Evo W0 okIn B us (usn us nm) E E2 (appA u2 u1) := by
  have h1 := frzE_evo hs hu
  have g := h2.goes h1.env
  refine ⟨h2.sub, fun n h => ?_, fun n hn L' h => ?_, fun n h => ?_, fun n o h => ?_, fun b hb h => ?_, fun b h => h2.ho b (.inl h), h2.env⟩
  · rw [lkA_app'] at h
    split at h
    · simp at h
    · rename_i h3
      rw [h2.mu n h3, h1.mu n h]
  · obtain ⟨L, k1, k2, k3, k4⟩ := h2.muo n hn L' h
    obtain ⟨L0, g1, g2, g3, g4⟩ := h1.muo n hn L k1
    exact ⟨L0, g1, g2.trans k2, g3.trans k3, g4.trans k4⟩
  · rw [lkA_app'] at h
    split at h
    · rename_i r hr
      simp only [Option.some.injEq] at h
      subst h
      exact h2.non n hr
    · rename_i h3
      rw [h2.mu n h3, h1.non n h]
  · rw [lkA_app'] at h
    split at h
    · rename_i r hr
      simp only [Option.some.injEq] at h
      subst h
      exact h2.obj n o hr
    · rename_i h3
      obtain ⟨k1, k2, k3⟩ := h1.obj n o h
      refine ⟨ObjR.mono g k2 (h2.mu n h3) (fun b hb => h2.keep b (h1.env.own n b hb).2.1 fun m hm => ?_) k1, AO.nm_mono h2.sub _ k2, h2.sub n k3⟩
      rw [h1.env.inj m n b hm hb]; exact h3
  · have : (frzE E u1).w = E.w := rfl
    refine (h2.keep b hb fun n hn => ?_).trans rfl
    have := h n (frzE_own hn).1
    rw [lkA_app'] at this
    split at this
    · simp at this
    · assumption
theorem cellsE_goes {n : Nat} {l : List AV} : Goes us E (frzE E [(n, some (.fcl l))]) := ⟨fun _ _ => rfl, fun b h => .inl h, fun m _ L' h => by
  obtain ⟨L, k1, k2, k3, k4, _⟩ := frzE_mu h
  exact ⟨L, k1, k2, k3, k4⟩⟩
theorem cellsE_obj (hs : SimE W0 okIn B us tm ob nt E a) {n : Nat} {l : List AV} (hob : ob n = some (.cells l)) : ∃ b cs T fr, E.mu n = some ⟨some ⟨b, 0, none⟩, 1, true, 0⟩ ∧ E.w.heap[b]? = some (.cells cs T fr) ∧ VRL E l cs.toList ∧
    (frzE E [(n, some (.fcl l))]).ok b ∧ ObjR (frzE E [(n, some (.fcl l))]) n (.fcl l) ∧ AV.nms us l ∧ us n := by
  obtain ⟨⟨b, cs, T, fr, h1, h2, h3, h4⟩, h5, h6⟩ := hs.obj n _ hob
  have hl : lkA [(n, some (AO.fcl l))] n = some (some (.fcl l)) := by simp [lkA]
  have hok : (frzE E [(n, some (.fcl l))]).ok b := .inr ⟨n, by simp [hl], ⟨_, h1, rfl, rfl⟩⟩
  exact ⟨b, cs, T, fr, h1, h2, h4, hok, ⟨b, cs, T, fr, by simp [frzE, hl, h1], hok, h2, VRL.mono cellsE_goes _ _ h5 h4⟩, h5, h6⟩
theorem cellsE_evo (hs : SimE W0 okIn B us tm ob nt E a) {n : Nat} {l : List AV} (hob : ob n = some (.cells l)) (nm : Nat) : Evo W0 okIn B us (usn us nm) E (frzE E [(n, some (.fcl l))]) [(n, some (.fcl l))] := by
  obtain ⟨b0, cs, T, fr, h1, h2, h3, hok, hobj, hnm, hus⟩ := cellsE_obj hs hob
  have hsome : ∀ m r, lkA [(n, some (AO.fcl l))] m = some r → m = n ∧ r = some (.fcl l) := fun m r h => by
    simp only [lkA] at h
    cases hb : Nat.beq m n with
    | true =>
      rw [hb] at h
      simp only [Option.some.injEq] at h
      exact ⟨beq_true hb, h.symm⟩
    | false => rw [hb] at h; simp at h
  refine ⟨fun _ h => .inl h, fun n h => by simp [frzE, h], fun m _ L' h => ?_, fun m h => ?_, fun m o h => ?_, fun _ _ _ => rfl, fun b h => .inl h, ?_⟩
  · obtain ⟨L, k1, k2, k3, k4, _⟩ := frzE_mu h
    exact ⟨L, k1, k2, k3, k4⟩
  · have := (hsome m _ h).2
    simp at this
  · obtain ⟨rfl, h4⟩ := hsome m _ h
    simp only [Option.some.injEq] at h4
    subst h4
    exact ⟨hobj, AV.nms_mono (fun _ h => .inl h) _ hnm, .inl hus⟩
  · have he := hs.env
    refine ⟨fun n m b h1 h2 => he.inj n m b (frzE_own h1).1 (frzE_own h2).1, fun n b h => ?_, fun b h => ?_, fun b h => .inl (he.oki b h), he.fr, he.sz, he.new, he.os, he.tape, he.output, fun n L h hn => ?_⟩
    · obtain ⟨k1, k2⟩ := frzE_own h
      have := he.own _ b k1
      refine ⟨this.1, this.2.1, fun hb => ?_⟩
      rcases hb with hb | ⟨m, hm, hb⟩
      · exact this.2.2 hb
      · have := he.inj _ m b k1 hb
        subst this
        rw [k2] at hm
        simp at hm
    · rcases h with h | ⟨m, _, h⟩
      · exact he.okl b h
      · have := he.own m b h
        exact ⟨this.2.1, .inr this.1⟩
    · obtain ⟨L0, k1, k2, k3, k4, _⟩ := frzE_mu h
      obtain ⟨L1, g1, g2, g3, g4⟩ := he.li _ L0 k1 hn
      exact ⟨L1, g1, g2.trans k2, g3.trans k3, g4.trans k4⟩
theorem errP_sound (hs : SimE W0 okIn B us tm ob nt E a) {T : TypeId} {v : AV} {x : Value} {t : TErr} {u : Upd} (h : errP ob T v = some (t, u)) (hv : VR E v x) (nm : Nat) :
    ∃ E', E'.w = E.w ∧ Evo W0 okIn B us (usn us nm) E E' u ∧ VR E' (.er t) (.iface T x) := by
  unfold errP at h
  split at h
  · rename_i n off
    split at h
    · rename_i l hoff hob
      have hoff := beq_true hoff
      subst hoff
      split at h
      · rename_i y z
        split at h
        · rename_i e he
          obtain ⟨b, cs, T', fr, h1, h2, h3, hok, _, _, _⟩ := cellsE_obj hs hob
          have hx : x = .pointer (some ⟨b, 0, none⟩) := by
            simp only [VR] at hv
            obtain ⟨b', hb, hv⟩ := hv.2 _ h1
            simp only [Option.some.injEq, Addr.mk.injEq] at hb
            rw [hv, ← hb.1]
          have row : ∀ c d, cs.toList = [c, d] → Row E.w b 0 [c, d] := fun c d hcd => by
            have := cells_row h2
            rw [hcd] at this
            exact this
          have hev : ∀ c, VR E z c → ErrR (frzE E [(n, some (.fcl [y, z]))]).w (frzE E [(n, some (.fcl [y, z]))]).ok e c := fun c hc => ErrR.mono (w := E.w) (ok := E.ok) (fun _ _ => rfl) (fun _ h => .inl h) _ _ (errA_sound (E := E) he hc)
          split at h
          · rename_i k m
            split at h
            · simp only [Option.some.injEq, Prod.mk.injEq] at h
              obtain ⟨rfl, rfl⟩ := h
              refine ⟨frzE E _, rfl, cellsE_evo hs hob nm, ?_⟩
              simp only [VRL, VR] at h3
              obtain ⟨c, r, h3, rfl, d, r', rfl, hd, rfl⟩ := h3
              simp only [VR, ErrR]
              exact ⟨b, d, by rw [hx], hok, row _ _ h3, hev d hd⟩
            · simp at h
          · simp only [Option.some.injEq, Prod.mk.injEq] at h
            obtain ⟨rfl, rfl⟩ := h
            refine ⟨frzE E _, rfl, cellsE_evo hs hob nm, ?_⟩
            simp only [VRL, VR] at h3
            obtain ⟨c, r, h3, rfl, d, r', rfl, hd, rfl⟩ := h3
            simp only [VR, ErrR]
            exact ⟨b, d, by rw [hx], hok, row _ _ h3, hev d hd⟩
          · simp at h
        · simp at h
      · split at h
        · simp only [Option.some.injEq, Prod.mk.injEq] at h
          obtain ⟨rfl, rfl⟩ := h
          exact ⟨frzE E _, rfl, cellsE_evo hs hob nm, by simp only [VR, ErrR]; exact ⟨_, rfl⟩⟩
        · simp at h
      · simp at h
    · simp at h
  · simp at h
end
end Go.Tr
namespace Go.Tr
open Go
set_option linter.unusedVariables false
set_option linter.unusedSimpArgs false
def CallOK (P : Program) [Tabs P] (F : FuncId) (args : List AV) (ob : Nat → Option AO) (nm : Nat) (r : AV) (u : Upd) : Prop :=
  (∃ fn, P.funcs[F]? = some fn ∧ (fn.name == "runtime.NumGoroutine") = false ∧ fn.body.isNone = false) ∧
  ∀ (W0 : WX) (okIn B us : Nat → Prop) (E : Env) (vs : List Value), TabIn P W0 B → EnvOk W0 okIn B E → (∀ n, n < 16 → us n) → ¬ us nm → (∀ n o, ob n = some o → ObjR E n o ∧ o.nm us ∧ us n) → (∀ n L, E.mu n = some L → ∃ o, ob n = some o) →
    VRL E args vs → AV.nms us args →
    Calls P F vs.toArray E.w fun e w' => ∃ E' x, E'.w = w' ∧ e = .returned x ∧ Evo W0 okIn B us (usn us nm) E E' u ∧ VR E' r x ∧ r.nm (usn us nm)
structure CtxOK1 (P : Program) [Tabs P] (C : Ctx) : Prop where
  ok : ∀ F args ob nm p r u, C F args ob nm = some (p, r, u) → p → CallOK P F args ob nm r u
structure CtxOK (P : Program) [Tabs P] (C : Ctx) : Prop extends CtxOK1 P C where
  cong : ∀ F args ob ob' nm, (∀ n, AV.hass n args = true → ob n = ob' n) → C F args ob nm = C F args ob' nm
section
variable {W0 : WX} {okIn B us : Nat → Prop} {tm : Nat → Option AV} {ob : Nat → Option AO} {nt : Nat} {E : Env} {a : Act}
theorem exec_v {P : Program} {w w' : World} {s : Sem Value} {x : Value} (h : s.run P w = .ok x w') : ((do pure (.value (← s))) : Sem Next).run P w = .ok (.value x) w' := by
  simp [h]
theorem hq_l {p q : List Prop} (hq : ∀ r ∈ appA p q, r) : ∀ r ∈ p, r := fun r hr => hq r (mem_appA.2 (.inl hr))
theorem hq_r {p q : List Prop} (hq : ∀ r ∈ appA p q, r) : ∀ r ∈ q, r := fun r hr => hq r (mem_appA.2 (.inr hr))
theorem call_sound {P : Program} [Tabs P] {C : Ctx} (hC : CtxOK1 P C) (hT : TabIn P W0 B) (hs : SimE W0 okIn B us tm ob nt E a) {nm : Nat} (hnm : ¬ us nm) {o : Oper} {c : Call} {f : Operand} (hop : o.op = .call c) (hc : c.callee = .value f)
    {F : FuncId} {first cap args : List AV} (hf : VR E (.fn F first cap) (a.eval f)) (hfn : (AV.fn F first cap).nm us) (hargs : VRL E args (c.args.toList.map a.eval)) (hargsn : AV.nms us args)
    {p : Prop} {r : AV} {u : Upd} (h : C F (appA first (appA args cap)) ob nm = some (p, r, u)) (hp : p) : StepOK P o a W0 okIn B us nm E r u := by
  intro K Q hK
  obtain ⟨⟨fn, h1, h2, h3⟩, hcall⟩ := hC.ok _ _ _ _ _ _ _ h hp
  simp only [VR] at hf
  obtain ⟨x, y, hv, hx, hy⟩ := hf
  have hlist : appA first (appA args cap) = first ++ (args ++ cap) := by rw [appA_eq, appA_eq]
  rw [hlist] at hcall
  have hall := hx.append (hargs.append hy)
  have hcalls := hcall W0 okIn B us E _ hT hs.env hs.lo hnm (fun n o hn => hs.obj n o hn) hs.dom hall (nms_append hfn.1 (nms_append hargsn hfn.2))
  unfold Oper.wp
  have hrun : (execOp a.eval o).run P E.w = .ok (.enter F (x ++ (c.args.toList.map a.eval ++ y)).toArray) E.w := by
    simp only [execOp, hop, resolve, hc, hv, Deferred.ofValue, Sem.run_bind, Sem.run_pure, Result.andThen_ok, invoke, callFunc, run_program, h1, h2, h3, Bool.false_eq_true, if_false]
    congr 2
    apply Array.ext'
    simp
  rw [hrun]
  simp only [Oper.upon]
  refine Calls.mono hcalls fun e w' he => ?_
  obtain ⟨E', z, rfl, rfl, hev, hz, hzn⟩ := he
  exact hK E' z hev hz hzn
theorem opA_sound {P : Program} [Tabs P] {C : Ctx} (hC : CtxOK1 P C) (hT : TabIn P W0 B) (hs : SimE W0 okIn B us tm ob nt E a) {nm : Nat} (hnm : ¬ us nm) {o : Oper} {R : OpR} (h : opA P C tm ob nm o = some R) (hq : ∀ p ∈ R.obs, p) :
    StepOK P o a W0 okIn B us nm E R.v R.u := by
  unfold opA at h
  split at h
  · -- move
    rename_i x hop
    obtain ⟨p, v, h1, h2, h3⟩ := fe_sound hs h
    simp only [Option.some.injEq] at h1
    subst h1
    exact StepOK.value hs (by simp [execOp, hop]) (h2 hq) (h3 hq)
  · -- assign
    rename_i x hop
    obtain ⟨p, v, h1, h2, h3⟩ := fe_sound hs h
    simp only [Option.some.injEq] at h1
    subst h1
    exact StepOK.value hs (by simp [execOp, hop]) (h2 hq) (h3 hq)
  · -- pick
    rename_i c x y hop
    obtain ⟨p, v, h1, h2, h3⟩ := fe_sound hs h
    split at h1
    · rename_i t
      split at h1
      · rename_i q r hp
        simp only [Option.some.injEq] at h1
        subst h1
        have hc := h2 (hq_l hq)
        simp only [VR] at hc
        obtain ⟨g1, g2⟩ := pickA_sound hp (hq_r hq) (opv_sound hs x).1 (opv_sound hs y).1 (fun c hc => by rw [hc]; rfl) (fun c hc => by rw [hc]; rfl)
        refine StepOK.value hs (x := if t then a.eval x else a.eval y) ?_ g1 (g2 us)
        simp only [execOp, hop, hc, asBool, Sem.run_bind, Sem.run_pure, Result.andThen_ok]
      · simp at h1
    · simp at h1
  · -- alloc
    rename_i T hop
    split at h
    · rename_i l hz
      split at h
      · rw [fvl_eq] at h
        simp only [Option.some.injEq] at h
        subst h
        obtain ⟨E', z, h1, h2, h3⟩ := opAlloc_sound hs hnm hz
        exact StepOK.valueE (by simp only [execOp, hop]; exact exec_v h1) h2 h3 (.inr rfl)
      · simp at h
    · simp at h
  · -- box
    rename_i T x hop
    obtain ⟨p, v, h1, h2, h3⟩ := fe_sound hs h
    split at h1
    · rename_i l hl
      simp only [Option.some.injEq] at h1
      subst h1
      obtain ⟨E', z, g1, g2, g3⟩ := opBox_sound (T := T) hs hnm hl (h2 hq) (h3 hq)
      exact StepOK.valueE (by simp only [execOp, hop]; exact exec_v g1) g2 g3 (.inr rfl)
    · simp at h1
  · -- build
    rename_i T parts hop
    split at h
    · rename_i z pl hz hpl
      obtain ⟨p, l, h1, h2, h3⟩ := fep_sound hs h
      split at h1
      · rename_i l' hl
        rw [fvl_eq] at h1
        simp only [Option.some.injEq] at h1
        subst h1
        obtain ⟨y, g1, g2, g3⟩ := opBuild_sound hz hpl hl (h2 hq) (h3 hq) E.w
        refine StepOK.value hs ?_ g2 g3
        simp only [execOp, hop]
        refine exec_v ?_
        have : (parts.map fun (i, x) => (i, a.eval x)) = (parts.toList.map fun x => (x.1, a.eval x.2)).toArray := by
          apply Array.ext'; simp
        rw [this]
        exact g1
      · simp at h1
    · simp at h
  · -- buildSlice
    rename_i T n parts hop
    split at h
    · rename_i el hT
      split at h
      · rename_i e he
        obtain ⟨p, l, h1, h2, h3⟩ := fep_sound hs h
        split at h1
        · rename_i ts hb1 hb2 hl
          split at h1
          · rename_i z hz
            simp only [Option.some.injEq] at h1
            subst h1
            have e1 := beq_true hb1
            rw [lenA_eq] at e1
            obtain ⟨E', y, g1, g2, g3⟩ := opBuildSlice_sound hs hnm hT he hz e1 (Nat.le_of_ble_eq_true hb2) hl (h2 hq)
            refine StepOK.valueE ?_ g2 g3 (.inr rfl)
            simp only [execOp, hop]
            refine exec_v ?_
            have : (parts.map fun (i, x) => (i, a.eval x)) = (parts.toList.map fun x => (x.1, a.eval x.2)).toArray := by
              apply Array.ext'; simp
            rw [this]
            exact g1
          · simp at h1
        · rename_i hb1 hb2 hl
          split at h1
          · rename_i ts z hl2 hz
            simp only [Option.some.injEq] at h1
            subst h1
            have e1 := beq_true hb1
            rw [lenA_eq] at e1
            have hu := frzQ_ok (ob := ob) l
            have hsim := frzE_sim hs hu
            obtain ⟨E', y, g1, g2, g3⟩ := opBuildSlice_sound hsim hnm hT he hz ((frzP_len l).trans e1) (Nat.le_of_ble_eq_true hb2) hl2 (frzP_sound hs hu (h2 hq) (h3 hq) fun m r hm => hu.look hm)
            refine StepOK.valueE ?_ (Evo.frz hs hu g2) g3 (.inr rfl)
            simp only [execOp, hop]
            refine exec_v ?_
            have : (parts.map fun (i, x) => (i, a.eval x)) = (parts.toList.map fun x => (x.1, a.eval x.2)).toArray := by
              apply Array.ext'; simp
            rw [this]
            exact g1
          · simp at h1
        · simp at h1
      · simp at h
    · simp at h
  · -- load
    rename_i T x hop
    obtain ⟨p, v, h1, h2, h3⟩ := fe_sound hs h
    split at h1
    · rename_i q r hl
      rw [fv_eq] at h1
      simp only [Option.some.injEq] at h1
      subst h1
      obtain ⟨z, g1, g2, g3⟩ := opLoad_sound hs hl (hq_r hq) (h2 (hq_l hq))
      exact StepOK.value hs (by simp only [execOp, hop]; exact exec_v g1) g2 g3
    · simp at h1
  · -- store
    rename_i T x y hop
    obtain ⟨p, v, h1, h2, h3⟩ := fe_sound hs h
    obtain ⟨p', v', h1', h2', h3'⟩ := fe_sound hs h1
    split at h1'
    · rename_i q u hl
      simp only [Option.some.injEq] at h1'
      subst h1'
      obtain ⟨E', g1, g2⟩ := opStore_sound (nm := nm) hs hl (hq_r (hq_r hq)) (h2 (hq_l hq)) (h2' (hq_l (hq_r hq))) (h3' (hq_l (hq_r hq)))
      refine StepOK.skip ?_ g2
      simp [execOp, hop, g1]
    · split at h1'
      · rename_i q u hl
        simp only [Option.some.injEq] at h1'
        subst h1'
        have hu := frzW_ok (ob := ob) v'
        have hsim := frzE_sim hs hu
        obtain ⟨k1, k2⟩ := frzV_sound hs hu (h2' (hq_l (hq_r hq))) (h3' (hq_l (hq_r hq))) fun m r hm => hu.look hm
        have hx := VR.mono ((frzE_evo hs hu).goes hs.env) _ _ (h3 (hq_l hq)) (h2 (hq_l hq))
        obtain ⟨E', g1, g2⟩ := opStore_sound (nm := nm) hsim hl (hq_r (hq_r hq)) hx k1 k2
        refine StepOK.skip ?_ (Evo.frz hs hu g2)
        have g1' : (Instr.storeAt T (a.eval x) (a.eval y)).run P E.w = .ok () E'.w := g1
        simp [execOp, hop, g1']
      · simp at h1'
  · -- nilCheck
    rename_i x hop
    obtain ⟨p, v, h1, h2, h3⟩ := fe_sound hs h
    split at h1
    · rename_i hl
      split at h1
      · simp only [Option.some.injEq] at h1
        subst h1
        have hv := h2 hq
        have hv' := hv
        simp only [VR] at hv
        obtain ⟨L, hL, _⟩ := live_loc hs hl
        obtain ⟨b, _, hb⟩ := hv.2 L hL
        exact StepOK.value hs (by simp [execOp, hop, hb]; rfl) (by rw [← hb]; exact hv') (h3 hq)
      · simp only [Option.some.injEq] at h1
        subst h1
        have hv := h2 hq
        have hv' := hv
        simp only [VR] at hv
        obtain ⟨b, o', cs, hb, _⟩ := hv
        exact StepOK.value hs (by simp [execOp, hop, hb]; rfl) (by rw [← hb]; exact hv') (h3 hq)
      · simp only [Option.some.injEq] at h1
        subst h1
        have hv := h2 hq
        have hv' := hv
        simp only [VR] at hv
        obtain ⟨L, hL, _⟩ := live_loc hs hl
        obtain ⟨b, _, hb⟩ := hv.2 L hL
        exact StepOK.value hs (by simp [execOp, hop, hb]; rfl) (by rw [← hb]; exact hv') (h3 hq)
      · simp only [Option.some.injEq] at h1
        subst h1
        have hv := h2 hq
        have hv' := hv
        simp only [VR] at hv
        obtain ⟨y, z, hb, _⟩ := hv
        exact StepOK.value hs (by simp [execOp, hop, hb]; rfl) (by rw [← hb]; exact hv') (h3 hq)
      · simp at h1
    · simp at h1
  · -- binOp
    rename_i op T x y yT hop
    obtain ⟨p, v, h1, h2, h3⟩ := fe_sound hs h
    obtain ⟨p', v', h1', h2', h3'⟩ := fe_sound hs h1
    split at h1'
    · rename_i r hl
      simp only [Option.some.injEq] at h1'
      subst h1'
      obtain ⟨z, g1, g2, g3⟩ := nilCmp_sound (v := a.eval y) E.w x y hl (h2 (hq_l hq)) (fun c hc => by subst hc; rfl)
      exact StepOK.value hs (by simp only [execOp, hop]; exact exec_v g1) g2 (g3 us)
    split at h1'
    · rename_i q r hl
      simp only [Option.some.injEq] at h1'
      subst h1'
      obtain ⟨z, g1, g2, g3⟩ := opBin_sound E.w x y hl (hq_r (hq_r hq)) (h2 (hq_l hq)) (h2' (hq_l (hq_r hq)))
      exact StepOK.value hs (by simp only [execOp, hop]; exact exec_v g1) g2 (g3 us)
    · simp at h1'
  · -- unOp
    rename_i op T x hop
    obtain ⟨p, v, h1, h2, h3⟩ := fe_sound hs h
    split at h1
    · simp only [Option.some.injEq] at h1
      subst h1
      have hv := h2 hq
      simp only [VR] at hv
      exact StepOK.value hs (by simp only [execOp, hop, hv]; exact exec_v (by simp [Op.unary])) VR.bool (by simp [AV.nm])
    · simp only [Option.some.injEq] at h1
      subst h1
      have hv := h2 hq
      simp only [VR] at hv
      exact StepOK.value hs (by simp only [execOp, hop, hv]; exact exec_v (by simp only [Op.unary, Op.intArith, Sem.run_pure])) VR.int (by simp [AV.nm])
    · simp only [Option.some.injEq] at h1
      subst h1
      have hv := h2 hq
      simp only [VR] at hv
      exact StepOK.value hs (by simp only [execOp, hop, hv]; exact exec_v (by simp only [Op.unary, Op.intBits, bxorI, Sem.run_pure])) VR.int (by simp [bxorI, AV.nm])
    · simp at h1
  · -- convert
    rename_i src dst x hop
    obtain ⟨p, v, h1, h2, h3⟩ := fe_sound hs h
    split at h1
    · rename_i q w u hl
      simp only [Option.some.injEq] at h1
      subst h1
      obtain ⟨E', z, g1, g2, g3, g4⟩ := opConvert_sound hs hnm hl (hq_r hq) (h2 (hq_l hq))
      exact StepOK.valueE (by simp only [execOp, hop]; exact exec_v g1) g2 g3 g4
    · simp at h1
  · -- sliceToArrayPointer
    rename_i arr x hop
    obtain ⟨p, v, h1, h2, h3⟩ := fe_sound hs h
    split at h1
    · rename_i e xs n e0 s hT hsh
      split at h1
      · rename_i t ht
        simp only [Option.some.injEq] at h1
        subst h1
        have hle : n ≤ xs.length := hq _ (mem_appA.2 (.inr (List.Mem.head _)))
        have hv := h2 (hq_l hq)
        simp only [VR, LRs] at hv
        obtain ⟨base, cap, hv, hc, hr⟩ := hv
        simp only [List.cons.injEq, and_true] at hv
        have hn0 : n ≠ 0 := by intro h0; subst h0; simp [arrV] at ht
        rcases hr with hr | ⟨b, o', rfl, hok, hr⟩
        · omega
        · obtain ⟨cs, c1, c2, c3, c4⟩ := arrV_sound hr n 0 s t ht (by omega)
          refine StepOK.value hs (x := .pointer (some ⟨b, o', none⟩)) ?_ ?_ (by simp [AV.nm])
          · simp only [execOp, hop, hv]
            refine exec_v ?_
            simp [Instr.arrayAt, run_underlying hT]
            omega
          · simp only [VR]
            exact ⟨b, o', cs, rfl, hok, c1, by simpa using c3, c4⟩
      · simp at h1
    · simp at h1
  · -- makeInterface
    rename_i T x hop
    obtain ⟨p, v, h1, h2, h3⟩ := fe_sound hs h
    split at h1
    · simp at h1
    · rename_i d hne hT
      have hex : (execOp a.eval o).run P E.w = .ok (.value (.iface T (a.eval x))) E.w := by
        simp only [execOp, hop]
        refine exec_v ?_
        simp only [Instr.makeInterface, Sem.run_bind, run_underlying hT, Result.andThen_ok]
        rfl
      split at h1
      · rename_i t u he
        simp only [Option.some.injEq] at h1
        subst h1
        obtain ⟨E', e1, e2, e3⟩ := errP_sound hs he (h2 hq) _
        exact StepOK.valueE (by rw [e1]; exact hex) e2 e3 (by simp [AV.nm])
      · simp only [Option.some.injEq] at h1
        subst h1
        refine StepOK.value hs (x := .iface T (a.eval x)) hex ?_ (h3 hq)
        simp only [VR]
        exact ⟨_, rfl, h2 hq⟩
    · simp at h1
  · -- makeFunc
    rename_i fn first cap hop
    split at h
    · rename_i f
      obtain ⟨p, v, h1, h2, h3⟩ := fel_sound hs h
      obtain ⟨p', v', h1', h2', h3'⟩ := fel_sound hs h1
      simp only [Option.some.injEq] at h1'
      subst h1'
      refine StepOK.value hs (x := .func (.func f) (first.toList.map a.eval).toArray (cap.toList.map a.eval).toArray) ?_ ?_ ⟨h3 (hq_l hq), h3' (hq_r hq)⟩
      · simp only [execOp, hop]
        refine exec_v ?_
        have e1 : Array.map a.eval first = (List.map a.eval first.toList).toArray := by apply Array.ext'; simp
        have e2 : Array.map a.eval cap = (List.map a.eval cap.toList).toArray := by apply Array.ext'; simp
        simp only [Instr.makeFunc, Sem.run_pure, e1, e2]
      · simp only [VR]
        exact ⟨_, _, rfl, h2 (hq_l hq), h2' (hq_r hq)⟩
    · simp at h
  · -- makeSlice
    rename_i T l c hop
    obtain ⟨p, v, h1, h2, h3⟩ := fe_sound hs h
    obtain ⟨p', v', h1', h2', h3'⟩ := fe_sound hs h1
    split at h1'
    · rename_i k n k' m el hT
      split at h1'
      · rename_i e z he hz
        split at h1'
        · rename_i t ht
          simp only [Option.some.injEq] at h1'
          subst h1'
          have hv := h2 (hq_l hq)
          have hv' := h2' (hq_l (hq_r hq))
          simp only [VR] at hv hv'
          have hcond := hq _ (mem_appA.2 (.inr (mem_appA.2 (.inr (List.Mem.head _)))))
          obtain ⟨E', y, g1, g2, g3⟩ := opMakeSlice_sound (k := k) (k' := k') hs hnm hT he hz ht hcond
          exact StepOK.valueE (by simp only [execOp, hop, hv, hv']; exact exec_v g1) g2 g3 (.inr rfl)
        · simp at h1'
      · simp at h1'
    · simp at h1'
  · -- slice
    rename_i T x lo hi mx hop
    obtain ⟨p, v, h1, h2, h3⟩ := fe_sound hs h
    split at h1
    · rename_i q w u hl hsl
      simp only [Option.some.injEq] at h1
      subst h1
      obtain ⟨E', z, g1, g2, g3, g4⟩ := opSlice_sound hs hnm hl hsl (hq_r hq) (h2 (hq_l hq)) (h3 (hq_l hq))
      exact StepOK.valueE (by simp only [execOp, hop]; exact exec_v g1) g2 g3 g4
    · simp at h1
  · -- fieldAddr
    rename_i T x f hop
    obtain ⟨p, v, h1, h2, h3⟩ := fe_sound hs h
    split at h1
    · rename_i w hl hf
      simp only [Option.some.injEq] at h1
      subst h1
      obtain ⟨z, g1, g2, g3⟩ := opFieldAddr_sound hs hl hf (h2 hq) (h3 hq) E.w
      exact StepOK.value hs (by simp only [execOp, hop]; exact exec_v g1) g2 g3
    · simp at h1
  · -- field
    rename_i T x f hop
    obtain ⟨p, v, h1, h2, h3⟩ := fe_sound hs h
    split at h1
    · rename_i l g hf
      split at h1
      · rename_i w hw
        rw [fv_eq] at h1
        simp only [Option.some.injEq] at h1
        subst h1
        obtain ⟨z, g1, g2, g3⟩ := opField_sound hf hw (h2 hq) (h3 hq) E.w
        exact StepOK.value hs (by simp only [execOp, hop]; exact exec_v g1) g2 g3
      · simp at h1
    · simp at h1
  · -- indexAddr
    rename_i T x i hop
    obtain ⟨p, v, h1, h2, h3⟩ := fe_sound hs h
    obtain ⟨p', v', h1', h2', h3'⟩ := fe_sound hs h1
    split at h1'
    · rename_i q w hl hi
      simp only [Option.some.injEq] at h1'
      subst h1'
      obtain ⟨z, g1, g2, g3⟩ := opIndexAddr_sound hs hl hi (hq_r (hq_r hq)) (h2 (hq_l hq)) (h2' (hq_l (hq_r hq))) (h3 (hq_l hq)) E.w
      exact StepOK.value hs (by simp only [execOp, hop]; exact exec_v g1) g2 g3
    · simp at h1'
  · -- index
    rename_i T x i hop
    obtain ⟨p, v, h1, h2, h3⟩ := fe_sound hs h
    obtain ⟨p', v', h1', h2', h3'⟩ := fe_sound hs h1
    split at h1'
    · rename_i q w hi
      rw [fv_eq] at h1'
      simp only [Option.some.injEq] at h1'
      subst h1'
      obtain ⟨z, g1, g2, g3⟩ := opIndex_sound hi (hq_r (hq_r hq)) (h2 (hq_l hq)) (h2' (hq_l (hq_r hq))) (h3 (hq_l hq)) E.w
      exact StepOK.value hs (by simp only [execOp, hop]; exact exec_v g1) g2 g3
    · simp at h1'
  · -- extract
    rename_i x i hop
    obtain ⟨p, v, h1, h2, h3⟩ := fe_sound hs h
    split at h1
    · rename_i l
      split at h1
      · rename_i w hw
        rw [fv_eq] at h1
        simp only [Option.some.injEq] at h1
        subst h1
        have hv := h2 hq
        simp only [VR] at hv
        obtain ⟨vs, hv, hvl⟩ := hv
        rw [nth_eq] at hw
        obtain ⟨y, hy, hyv⟩ := hvl.nth hw
        refine StepOK.value hs (x := y) ?_ hyv (nms_nth (h3 hq) hw)
        simp only [execOp, hop, hv]
        refine exec_v ?_
        simp [Instr.extract, hy]
      · simp at h1
    · simp at h1
  · -- call
    rename_i c hop
    split at h
    · rename_i f hc
      obtain ⟨p, v, h1, h2, h3⟩ := fe_sound hs h
      obtain ⟨p', args, h1', h2', h3'⟩ := fel_sound hs h1
      split at h1'
      · rename_i F first cap
        split at h1'
        · rename_i r w u hctx
          rw [fv_eq] at h1'
          simp only [Option.some.injEq] at h1'
          subst h1'
          have hp : r := hq _ (mem_appA.2 (.inr (mem_appA.2 (.inr (List.Mem.head _)))))
          exact call_sound hC hT hs hnm hop hc (h2 (hq_l hq)) (h3 (hq_l hq)) (h2' (hq_l (hq_r hq))) (h3' (hq_l (hq_r hq))) hctx hp
        · simp at h1'
      · simp at h1'
    · -- len
      rename_i hc
      split at h
      · rename_i x T hx hT
        obtain ⟨p, v, h1, h2, h3⟩ := fe_sound hs h
        split at h1
        · rename_i w hl hlen
          simp only [Option.some.injEq] at h1
          subst h1
          obtain ⟨z, g1, g2, g3⟩ := opLen_sound (ty := o.type) hs hl hlen (h2 hq) E.w
          refine StepOK.value hs (x := z) ?_ g2 (g3 us)
          have e1 : c.args = #[x] := by apply Array.ext'; simpa using hx
          have e2 : c.argTypes = #[T] := by apply Array.ext'; simpa using hT
          simp only [execOp, hop, resolve, hc, Sem.run_bind, Sem.run_pure, Result.andThen_ok, invoke, builtin, e1, e2, List.map_toArray, List.map_cons, List.map_nil, g1]
        · simp at h1
      · simp at h
    · -- append
      rename_i hc
      split at h
      · rename_i x y T T' hx hT
        obtain ⟨p, v, h1, h2, h3⟩ := fe_sound hs h
        obtain ⟨p', v', h1', h2', h3'⟩ := fe_sound hs h1
        split at h1'
        · rename_i q w u hap
          simp only [Option.some.injEq] at h1'
          subst h1'
          obtain ⟨E', z, g1, g2, g3, g4⟩ := opAppend_sound (ty := o.type) hs hnm hap (hq_r (hq_r hq)) (h2 (hq_l hq)) (h2' (hq_l (hq_r hq)))
          refine StepOK.valueE (x := z) ?_ g2 g3 g4
          have e1 : c.args = #[x, y] := by apply Array.ext'; simpa using hx
          have e2 : c.argTypes = #[T, T'] := by apply Array.ext'; simpa using hT
          simp only [execOp, hop, resolve, hc, Sem.run_bind, Sem.run_pure, Result.andThen_ok, invoke, builtin, e1, e2, List.map_toArray, List.map_cons, List.map_nil, g1]
        · simp at h1'
      · simp at h
    · -- max
      rename_i hc
      obtain ⟨p, l, h1, h2, h3⟩ := fel_sound hs h
      split at h1
      · rename_i v r
        split at h1
        · rename_i w hw
          simp only [Option.some.injEq] at h1
          subst h1
          have hv := h2 hq
          simp only [VRL] at hv
          obtain ⟨u, us', hl, hu, hus⟩ := hv
          obtain ⟨z, g1, g2, g3⟩ := max_sound (P := P) E.w hw hu hus
          have hwn : w.nm us := by
            have : ∀ (l : List AV) (v r : AV), minmaxA true v l = some r → v.nm us → r.nm us := by
              intro l
              induction l with
              | nil => intro v r h hn; have : some v = some r := by cases v <;> simpa [minmaxA] using h
                       exact (Option.some.inj this) ▸ hn
              | cons x l ih => intro v r h hn; cases v <;> cases x <;> simp only [minmaxA, reduceCtorEq] at h; exact ih _ _ h (by simp [AV.nm])
            exact this _ _ _ hw (h3 hq).1
          refine StepOK.value hs (x := z) ?_ g2 hwn
          have e1 : c.args.map a.eval = (u :: us').toArray := by apply Array.ext'; simpa using hl
          simp only [execOp, hop, resolve, hc, Sem.run_bind, Sem.run_pure, Result.andThen_ok, invoke, builtin, Builtin.max_, e1, g1]
        · simp at h1
      · simp at h1
    · -- min
      rename_i hc
      obtain ⟨p, l, h1, h2, h3⟩ := fel_sound hs h
      split at h1
      · rename_i v r
        split at h1
        · rename_i w hw
          simp only [Option.some.injEq] at h1
          subst h1
          have hv := h2 hq
          simp only [VRL] at hv
          obtain ⟨u, us', hl, hu, hus⟩ := hv
          obtain ⟨z, g1, g2, g3⟩ := min_sound (P := P) E.w hw hu hus
          have hwn : w.nm us := by
            have : ∀ (l : List AV) (v r : AV), minmaxA false v l = some r → v.nm us → r.nm us := by
              intro l
              induction l with
              | nil => intro v r h hn; have : some v = some r := by cases v <;> simpa [minmaxA] using h
                       exact (Option.some.inj this) ▸ hn
              | cons x l ih => intro v r h hn; cases v <;> cases x <;> simp only [minmaxA, reduceCtorEq] at h; exact ih _ _ h (by simp [AV.nm])
            exact this _ _ _ hw (h3 hq).1
          refine StepOK.value hs (x := z) ?_ g2 hwn
          have e1 : c.args.map a.eval = (u :: us').toArray := by apply Array.ext'; simpa using hl
          simp only [execOp, hop, resolve, hc, Sem.run_bind, Sem.run_pure, Result.andThen_ok, invoke, builtin, Builtin.min_, e1, g1]
        · simp at h1
      · simp at h1
    · -- copy
      rename_i hc
      split at h
      · rename_i x y T T' hx hT
        obtain ⟨p, v, h1, h2, h3⟩ := fe_sound hs h
        obtain ⟨p', v', h1', h2', h3'⟩ := fe_sound hs h1
        split at h1'
        · rename_i q w u hap
          simp only [Option.some.injEq] at h1'
          subst h1'
          obtain ⟨E', z, g1, g2, g3, g4⟩ := opCopy_sound (ty := o.type) (T' := T') (nm := nm) hs hap (hq_r (hq_r hq)) (h2 (hq_l hq)) (h2' (hq_l (hq_r hq)))
          refine StepOK.valueE (x := z) ?_ g2 g3 g4
          have e1 : c.args = #[x, y] := by apply Array.ext'; simpa using hx
          have e2 : c.argTypes = #[T, T'] := by apply Array.ext'; simpa using hT
          simp only [execOp, hop, resolve, hc, Sem.run_bind, Sem.run_pure, Result.andThen_ok, invoke, builtin, e1, e2, List.map_toArray, List.map_cons, List.map_nil, g1]
        · simp at h1'
      · simp at h
    · simp at h
  · simp at h
end
end Go.Tr
namespace Go.Tr
open Go
set_option linter.unusedVariables false
set_option linter.unusedSimpArgs false
theorem hass_iff (n : Nat) : ∀ l : List AV, AV.hass n l = true ↔ ∃ a ∈ l, AV.has n a = true
  | [] => by simp [AV.hass]
  | a :: l => by simp [AV.hass, hass_iff n l]
theorem hass_opvs (tm : Nat → Option AV) (n : Nat) : ∀ l : List Operand, AV.hass n (opvs tm l) = true ↔ ∃ x ∈ l, AV.has n (opv tm x) = true
  | [] => by simp [opvs, AV.hass]
  | x :: l => by simp [opvs, AV.hass, hass_opvs tm n l]
section
variable {tm tm' : Nat → Option AV} {ob ob' : Nat → Option AO}
theorem fe_congr {α : Type} {x : Operand} {k k' : List Prop → AV → Option α} (hx : opv tm x = opv tm' x) (h : ∀ p v, (∀ n, v.has n = true → (opv tm x).has n = true) → k p v = k' p v) : fe tm x k = fe tm' x k' := by
  unfold fe
  rw [← hx]
  split
  · rename_i g v hv
    rw [fv_eq, fv_eq]
    exact h _ _ fun n hn => by rw [hv]; simpa [AV.has] using hn
  · rw [fv_eq, fv_eq]
    exact h _ _ fun n hn => hn
theorem fel_congr {α : Type} : ∀ {xs : List Operand} {k k' : List Prop → List AV → Option α}, (∀ x ∈ xs, opv tm x = opv tm' x) → (∀ p vs, (∀ n, AV.hass n vs = true → ∃ x ∈ xs, (opv tm x).has n = true) → k p vs = k' p vs) → fel tm xs k = fel tm' xs k'
  | [], k, k', _, h => h _ _ (by simp [AV.hass])
  | x :: xs, k, k', hx, h => by
    simp only [fel]
    refine fe_congr (hx x (by simp)) fun p v hv => fel_congr (fun y hy => hx y (by simp [hy])) fun q vs hvs => h _ _ fun n hn => ?_
    simp only [AV.hass, Bool.or_eq_true] at hn
    rcases hn with hn | hn
    · exact ⟨x, by simp, hv n hn⟩
    · obtain ⟨y, hy, hy'⟩ := hvs n hn
      exact ⟨y, by simp [hy], hy'⟩
theorem fep_congr {α : Type} : ∀ {xs : List (Nat × Operand)} {k : List Prop → List (Nat × AV) → Option α}, (∀ x ∈ xs, opv tm x.2 = opv tm' x.2) → fep tm xs k = fep tm' xs k
  | [], k, _ => rfl
  | (i, x) :: xs, k, hx => by
    simp only [fep]
    exact fe_congr (hx (i, x) (by simp)) fun p v _ => fep_congr (fun y hy => hx y (by simp [hy]))
theorem optI_congr {α : Type} {x : Option Operand} {d : Int} {k : List Prop → Int → Option α} (hx : ∀ o, x = some o → opv tm o = opv tm' o) : optI tm x d k = optI tm' x d k := by
  unfold optI
  cases x with
  | none => rfl
  | some o => exact fe_congr (hx o rfl) fun p v _ => rfl
theorem lvA_congr {n : Nat} (h : ob n = ob' n) : lvA ob n = lvA ob' n := by simp [lvA, h]
theorem liveA_congr {v : AV} (h : ∀ n, v.has n = true → ob n = ob' n) : liveA ob v = liveA ob' v := by
  unfold liveA
  split <;> first | rfl | exact lvA_congr (h _ (by simp [AV.has, beq_self]))
theorem opLoad_congr {P : Program} {T : TypeId} {v : AV} (h : ∀ n, v.has n = true → ob n = ob' n) : opLoad P T ob v = opLoad P T ob' v := by
  unfold opLoad
  cases v <;> try rfl
  case ptr n off => have e := h n (by simp [AV.has, beq_self]); simp only [e]
  case epr n s i off => have e := h n (by simp [AV.has, beq_self]); simp only [e]
  case cpr n off i m => have e := h n (by simp [AV.has, beq_self]); simp only [e]
theorem opStore_congr {P : Program} {T : TypeId} {v y : AV} (h : ∀ n, v.has n = true → ob n = ob' n) : opStore P T ob v y = opStore P T ob' v y := by
  unfold opStore
  cases v <;> try rfl
  case ptr n off => have e := h n (by simp [AV.has, beq_self]); simp only [e]
  case epr n s i off => have e := h n (by simp [AV.has, beq_self]); simp only [e]
  case cpr n off i m => have e := h n (by simp [AV.has, beq_self]); simp only [e]
theorem readA_congr {e : Sh} {v : AV} (h : ∀ n, v.has n = true → ob n = ob' n) : readA ob e v = readA ob' e v := by
  unfold readA
  cases v <;> try rfl
  case rsl n s off len => have e := h n (by simp [AV.has, beq_self]); simp only [e]
  case own n s => have e := h n (by simp [AV.has, beq_self]); simp only [e]
  case csl n off len => have e := h n (by simp [AV.has, beq_self]); simp only [e]
theorem opConvert_congr {P : Program} {src dst : TypeId} {nm : Nat} {v : AV} (h : ∀ n, v.has n = true → ob n = ob' n) : opConvert P src dst ob nm v = opConvert P src dst ob' nm v := by
  unfold opConvert
  simp only [readA_congr (e := .int .u8) h]
theorem apSrc_congr {P : Program} {T : TypeId} {e : Sh} {v : AV} (h : ∀ n, v.has n = true → ob n = ob' n) : apSrc P T ob e v = apSrc P T ob' e v := by
  unfold apSrc
  simp only [readA_congr (e := e) h]
theorem opAppend_congr {P : Program} {T T' : TypeId} {nm : Nat} {v y : AV} (h : ∀ n, v.has n = true → ob n = ob' n) (hy : ∀ n, y.has n = true → ob n = ob' n) : opAppend P T T' ob nm v y = opAppend P T T' ob' nm v y := by
  unfold opAppend
  simp only [apSrc_congr (P := P) (T := T') hy]
  cases v <;> try rfl
  case rsl n s off len => have e := h n (by simp [AV.has, beq_self]); simp only [e]
  case own n s => have e := h n (by simp [AV.has, beq_self]); simp only [e]
theorem opSlice_congr {P : Program} {T : TypeId} {v : AV} {lo hi mx : Option Operand} {nm : Nat} (h : ∀ o, lo = some o ∨ hi = some o ∨ mx = some o → opv tm o = opv tm' o) (hv : ∀ n, v.has n = true → ob n = ob' n) : opSlice P T tm ob v lo hi mx nm = opSlice P T tm' ob' v lo hi mx nm := by
  have hlo : ∀ {α : Type} (d : Int) (k : List Prop → Int → Option α), optI tm lo d k = optI tm' lo d k := fun d k => optI_congr fun o ho => h o (.inl ho)
  have hhi : ∀ {α : Type} (d : Int) (k : List Prop → Int → Option α), optI tm hi d k = optI tm' hi d k := fun d k => optI_congr fun o ho => h o (.inr (.inl ho))
  have hmx : ∀ {α : Type} (d : Int) (k : List Prop → Int → Option α), optI tm mx d k = optI tm' mx d k := fun d k => optI_congr fun o ho => h o (.inr (.inr ho))
  unfold opSlice
  cases mx with
  | none =>
    simp only [hlo, hhi]
    cases v <;> try rfl
    case own n s => have e := hv n (by simp [AV.has, beq_self]); simp only [e]
  | some m =>
    cases hi with
    | none => rfl
    | some hh => simp only [hlo, hhi, hmx]
theorem opCopy_congr {P : Program} {T : TypeId} {v y : AV} (h : ∀ n, v.has n = true → ob n = ob' n) (hy : ∀ n, y.has n = true → ob n = ob' n) : opCopy P T ob v y = opCopy P T ob' v y := by
  unfold opCopy
  cases v <;> try rfl
  case rsl n s off len => have e := h n (by simp [AV.has, beq_self]); simp only [e, readA_congr hy]
theorem frz1_congr {v : AV} (h : ∀ n, v.has n = true → ob n = ob' n) : frz1 ob v = frz1 ob' v ∧ frzU ob v = frzU ob' v := by
  unfold frz1 frzU
  cases v <;> try exact ⟨rfl, rfl⟩
  case own n s => have e := h n (by simp [AV.has, beq_self]); simp only [e, and_self]
theorem frzs_congr : ∀ {l : List AV}, (∀ n, AV.hass n l = true → ob n = ob' n) → frzs ob l = frzs ob' l ∧ frzUs ob l = frzUs ob' l
  | [], _ => ⟨rfl, rfl⟩
  | v :: l, h => by
    obtain ⟨a1, a2⟩ := frz1_congr (ob := ob) (ob' := ob') (v := v) fun n hn => h n (by simp [AV.hass, hn])
    obtain ⟨b1, b2⟩ := frzs_congr (l := l) fun n hn => h n (by simp [AV.hass, hn])
    simp only [frzs, frzUs, a1, a2, b1, b2, and_self]
theorem frzV_congr {v : AV} (h : ∀ n, v.has n = true → ob n = ob' n) : frzV ob v = frzV ob' v ∧ frzW ob v = frzW ob' v := by
  unfold frzV frzW
  split
  · rename_i l
    obtain ⟨e1, e2⟩ := frzs_congr (ob := ob) (ob' := ob') (l := l) fun n hn => h n (by simpa [AV.has] using hn)
    exact ⟨by rw [e1], e2⟩
  · exact frz1_congr h
theorem frzP_congr : ∀ {l : List (Nat × AV)}, (∀ (n : Nat) (v : Nat × AV), v ∈ l → v.2.has n = true → ob n = ob' n) → frzP ob l = frzP ob' l ∧ frzQ ob l = frzQ ob' l
  | [], _ => ⟨rfl, rfl⟩
  | (i, v) :: l, h => by
    obtain ⟨a1, a2⟩ := frzV_congr (ob := ob) (ob' := ob') (v := v) fun n hn => h n (i, v) (by simp) hn
    obtain ⟨b1, b2⟩ := frzP_congr (l := l) fun n w hw hn => h n w (by simp [hw]) hn
    simp only [frzP, frzQ, a1, a2, b1, b2, and_self]
theorem fep_congr2 {α : Type} : ∀ {xs : List (Nat × Operand)} {k k' : List Prop → List (Nat × AV) → Option α}, (∀ x ∈ xs, opv tm x.2 = opv tm' x.2) →
    (∀ p vs, (∀ (n : Nat) (v : Nat × AV), v ∈ vs → v.2.has n = true → ∃ x ∈ xs, (opv tm x.2).has n = true) → k p vs = k' p vs) → fep tm xs k = fep tm' xs k'
  | [], k, k', _, h => h _ _ (fun n v hv => by simp at hv)
  | (i, x) :: xs, k, k', hx, h => by
    simp only [fep]
    refine fe_congr (hx (i, x) (by simp)) fun p v hv => fep_congr2 (fun y hy => hx y (by simp [hy])) fun q vs hvs => h _ _ fun n w hw hn => ?_
    rcases List.mem_cons.1 hw with rfl | hw
    · exact ⟨(i, x), by simp, hv n hn⟩
    · obtain ⟨y, hy, hyn⟩ := hvs n w hw hn
      exact ⟨y, by simp [hy], hyn⟩
theorem opLen_congr {P : Program} {T : TypeId} {v : AV} (h : ∀ n, v.has n = true → ob n = ob' n) : opLen P T ob v = opLen P T ob' v := by
  unfold opLen
  cases v <;> try rfl
  case own n s => have e := h n (by simp [AV.has, beq_self]); simp only [e]
theorem opIndexAddr_congr {P : Program} {T : TypeId} {cst : Bool} {v i : AV} (h : ∀ n, v.has n = true → ob n = ob' n) : opIndexAddr P T cst ob v i = opIndexAddr P T cst ob' v i := by
  unfold opIndexAddr
  cases v <;> try rfl
  case own n s => have e := h n (by simp [AV.has, beq_self]); simp only [e]
theorem errP_congr {T : TypeId} {v : AV} (h : ∀ n, v.has n = true → ob n = ob' n) : errP ob T v = errP ob' T v := by
  unfold errP
  cases v <;> try rfl
  case ptr n off => have e := h n (by simp [AV.has, beq_self]); simp only [e]
theorem opA_congr {P : Program} [Tabs P] {C : Ctx} (hC : CtxOK P C) {nm : Nat} {o : Oper} (hx : ∀ x ∈ o.op.operands.toList, opv tm x = opv tm' x) (hob : rdO o.op = true → ∀ n, AV.hass n (opvs tm o.op.operands.toList) = true → ob n = ob' n) :
    opA P C tm ob nm o = opA P C tm' ob' nm o := by
  have hn : rdO o.op = true → ∀ x ∈ o.op.operands.toList, ∀ n, (opv tm x).has n = true → ob n = ob' n := fun hr x hx n hn => hob hr n ((hass_opvs tm n _).2 ⟨x, hx, hn⟩)
  clear hob
  unfold opA
  cases hop : o.op <;> simp only [hop, Op.operands, rdO, forall_const] at hx hn ⊢
  case move x => exact fe_congr (hx x (by simp)) fun p v _ => rfl
  case assign x => exact fe_congr (hx x (by simp)) fun p v _ => rfl
  case pick c x y =>
    rw [hx x (by simp), hx y (by simp)]
    exact fe_congr (hx c (by simp)) fun p v _ => rfl
  case box T x => exact fe_congr (hx x (by simp)) fun p v _ => rfl
  case build T parts =>
    have : ∀ x ∈ parts.toList, opv tm x.2 = opv tm' x.2 := fun x hxm => hx x.2 (by simp; exact ⟨x.1, by simpa using hxm⟩)
    split
    · exact fep_congr this
    · rfl
  case buildSlice T n parts =>
    have : ∀ x ∈ parts.toList, opv tm x.2 = opv tm' x.2 := fun x hxm => hx x.2 (by simp; exact ⟨x.1, by simpa using hxm⟩)
    split
    · split
      · refine fep_congr2 this fun p l hl => ?_
        obtain ⟨e1, e2⟩ := frzP_congr (ob := ob) (ob' := ob') (l := l) fun n v hv hn' => by
          obtain ⟨x, hxm, hxn⟩ := hl n v hv hn'
          exact hn x.2 (by simp; exact ⟨x.1, by simpa using hxm⟩) n hxn
        rw [e1, e2]
      · rfl
    · rfl
  case load T x => exact fe_congr (hx x (by simp)) fun p v hv => by rw [opLoad_congr fun n h => hn x (by simp) n (hv n h)]
  case store T x y =>
    refine fe_congr (hx x (by simp)) fun p v hv => fe_congr (hx y (by simp)) fun p' v' hv' => ?_
    rw [opStore_congr fun n h => hn x (by simp) n (hv n h)]
    obtain ⟨e1, e2⟩ := frzV_congr (ob := ob) (ob' := ob') (v := v') fun n h => hn y (by simp) n (hv' n h)
    rw [e1, e2]
    rw [opStore_congr (ob := updO (frzW ob' v') ob) (ob' := updO (frzW ob' v') ob') (v := v) fun n h => by
      unfold updO
      split
      · rfl
      · exact hn x (by simp) n (hv n h)]
  case nilCheck x => exact fe_congr (hx x (by simp)) fun p v hv => by rw [liveA_congr fun n h => hn x (by simp) n (hv n h)]
  case binOp op T x y yT => exact fe_congr (hx x (by simp)) fun p v hv => fe_congr (hx y (by simp)) fun p' v' hv' => rfl
  case unOp op T x => exact fe_congr (hx x (by simp)) fun p v _ => rfl
  case convert src dst x => exact fe_congr (hx x (by simp)) fun p v hv => by rw [opConvert_congr fun n h => hn x (by simp) n (hv n h)]
  case sliceToArrayPointer arr x => exact fe_congr (hx x (by simp)) fun p v _ => rfl
  case makeInterface T x => exact fe_congr (hx x (by simp)) fun p v hv => by rw [errP_congr fun n h => hn x (by simp) n (hv n h)]
  case makeFunc fn first cap =>
    split
    · exact fel_congr (fun x hxm => hx x (by simp at hxm ⊢; exact .inl hxm)) fun p vs _ => fel_congr (fun x hxm => hx x (by simp at hxm ⊢; exact .inr hxm)) fun q ws _ => rfl
    · rfl
  case makeSlice T l c => exact fe_congr (hx l (by simp)) fun p v hv => fe_congr (hx c (by simp)) fun p' v' hv' => rfl
  case slice T x lo hi mx =>
    refine fe_congr (hx x (by simp)) fun p v hv => ?_
    rw [liveA_congr fun n h => hn x (by simp) n (hv n h), opSlice_congr (fun o ho => hx o ?_) fun n h => hn x (by simp) n (hv n h)]
    rcases ho with rfl | rfl | rfl <;> simp
  case fieldAddr T x f => exact fe_congr (hx x (by simp)) fun p v hv => by rw [liveA_congr fun n h => hn x (by simp) n (hv n h)]
  case field T x f => exact fe_congr (hx x (by simp)) fun p v _ => rfl
  case indexAddr T x i =>
    refine fe_congr (hx x (by simp)) fun p v hv => fe_congr (hx i (by simp)) fun p' v' hv' => ?_
    rw [liveA_congr fun n h => hn x (by simp) n (hv n h), opIndexAddr_congr fun n h => hn x (by simp) n (hv n h)]
  case index T x i => exact fe_congr (hx x (by simp)) fun p v hv => fe_congr (hx i (by simp)) fun p' v' hv' => rfl
  case extract x i => exact fe_congr (hx x (by simp)) fun p v _ => rfl
  case call c =>
    split
    · rename_i f hc
      simp only [Call.operands, hc] at hx hn
      refine fe_congr (hx f (by simp)) fun p v hv => fel_congr (fun x hxm => hx x (by simp at hxm ⊢; exact .inr hxm)) fun q vs hvs => ?_
      split
      · rename_i F first cap
        rw [hC.cong F _ ob ob' nm fun n h => ?_]
        rw [appA_eq, appA_eq] at h
        obtain ⟨b, hb, hbn⟩ := (hass_iff n _).1 h
        rcases List.mem_append.1 hb with hb | hb
        · exact hn f (by simp) n (hv n (by simp only [AV.has, Bool.or_eq_true]; exact .inl ((hass_iff n _).2 ⟨b, hb, hbn⟩)))
        · rcases List.mem_append.1 hb with hb | hb
          · obtain ⟨x, hxm, hxn⟩ := hvs n ((hass_iff n _).2 ⟨b, hb, hbn⟩)
            exact hn x (by simp at hxm ⊢; exact .inr hxm) n hxn
          · exact hn f (by simp) n (hv n (by simp only [AV.has, Bool.or_eq_true]; exact .inr ((hass_iff n _).2 ⟨b, hb, hbn⟩)))
      · rfl
    · rename_i hc
      simp only [Call.operands, hc] at hx hn
      split
      · rename_i x T hl _
        refine fe_congr (hx x (by simp [hl])) fun p v hv => ?_
        rw [liveA_congr fun n h => hn x (by simp [hl]) n (hv n h), opLen_congr fun n h => hn x (by simp [hl]) n (hv n h)]
      · rfl
    · rename_i hc
      simp only [Call.operands, hc] at hx hn
      split
      · rename_i x y T T' hl _
        refine fe_congr (hx x (by simp [hl])) fun p v hv => fe_congr (hx y (by simp [hl])) fun p' v' hv' => ?_
        rw [opAppend_congr (fun n h => hn x (by simp [hl]) n (hv n h)) (fun n h => hn y (by simp [hl]) n (hv' n h))]
      · rfl
    · rename_i hc
      simp only [Call.operands, hc] at hx hn
      exact fel_congr (fun x hxm => hx x (by simpa using hxm)) fun p vs _ => rfl
    · rename_i hc
      simp only [Call.operands, hc] at hx hn
      exact fel_congr (fun x hxm => hx x (by simpa using hxm)) fun p vs _ => rfl
    · rename_i hc
      simp only [Call.operands, hc] at hx hn
      split
      · rename_i x y T T' hl _
        refine fe_congr (hx x (by simp [hl])) fun p v hv => fe_congr (hx y (by simp [hl])) fun p' v' hv' => ?_
        rw [opCopy_congr (fun n h => hn x (by simp [hl]) n (hv n h)) (fun n h => hn y (by simp [hl]) n (hv' n h))]
      · rfl
    · rfl
end
end Go.Tr
