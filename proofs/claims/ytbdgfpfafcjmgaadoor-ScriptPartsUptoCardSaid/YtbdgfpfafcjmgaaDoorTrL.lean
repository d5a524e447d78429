/- Append.
   Conditions: none. -/
import Derived.Test.YtbdgfpfafcjmgaaDoorTrK
namespace Go.Tr
open Go
set_option linter.unusedVariables false
set_option linter.unusedSimpArgs false

section
variable {W0 : WX} {okIn B us : Nat → Prop} {tm : Nat → Option AV} {ob : Nat → Option AO} {nt : Nat} {E : Env} {a : Act}

theorem shZ_info {P : Program} {t : TypeId} {e : Sh} (h : shZ P t = some e) : ∃ i z, P.info? t = some i ∧ i.size = e.size ∧ i.zero = some z ∧ z.cells.size = e.size ∧ shT P 16 t = some e := by
  unfold shZ at h
  split at h
  · rename_i e' z h1 h2
    split at h
    · rename_i hb
      simp only [Option.some.injEq] at h
      subst h
      obtain ⟨g1, g2⟩ := shE_size h1
      obtain ⟨i, hi, hsz⟩ := sizeT_info g1
      unfold zeroT at h2
      rw [hi] at h2
      simp only at h2
      split at h2
      · rename_i zv hz
        simp only [Option.some.injEq] at h2
        subst h2
        have := beq_true hb
        rw [lenA_eq] at this
        have hl : ∀ l : List Value, (cvals l).length = l.length := by
          intro l; induction l with
          | nil => rfl
          | cons v r ih => simp [cvals, ih]
        rw [hl] at this
        exact ⟨i, zv, hi, hsz, hz, by simpa using this, g2⟩
      · simp at h2
    · simp at h
  · simp at h

theorem zeroCells_size (z : Array Value) (n : Nat) : (Builtin.zeroCells z n).size = n * z.size := by simp [Builtin.zeroCells]

theorem chunk_append_left {l m : List Value} {i s n : Nat} (hl : l.length = n * s) (hi : i < n) : ((l ++ m).drop (i * s)).take s = (l.drop (i * s)).take s := by
  have := Nat.mul_le_mul_right s (show i + 1 ≤ n by omega)
  rw [Nat.add_mul] at this
  rw [List.drop_append_of_le_length (by omega), List.take_append_of_le_length (by simp; omega)]

theorem chunk_append_right {l m : List Value} {i s n : Nat} (hl : l.length = n * s) : ((l ++ m).drop ((n + i) * s)).take s = (m.drop (i * s)).take s := by
  rw [Nat.add_mul, ← hl, List.drop_length_add_append]

/-- A row out of old elements and new ones, with zeros behind. -/
theorem evo_grown (he : EnvOk W0 okIn B E) {nm : Nat} (hnm : ¬ us nm) {P : Program} {el : TypeId} {e : Sh} {xs ys : List e.T} {olds news : List Value} {z : Value} (hz : z.cells.size = e.size) {cap : Nat} (hcap : xs.length + ys.length ≤ cap) (hpos : 0 < cap)
    (ho : olds.length = xs.length * e.size) (hn : news.length = ys.length * e.size)
    (hx : ∀ i (h : i < xs.length), LRs E.w E.ok e (xs[i]'h) ((olds.drop (i * e.size)).take e.size)) (hy : ∀ i (h : i < ys.length), LRs E.w E.ok e (ys[i]'h) ((news.drop (i * e.size)).take e.size)) :
    let cs := (olds ++ news).toArray ++ Builtin.zeroCells z.cells (cap - (xs.length + ys.length))
    cs.size = cap * e.size ∧ ∀ i (h : i < (xs ++ ys).length), LRs E.w E.ok e ((xs ++ ys)[i]'h) ((cs.toList.drop (i * e.size)).take e.size) := by
  intro cs
  refine ⟨?_, fun i hi => ?_⟩
  · simp only [cs, Array.size_append, List.size_toArray, List.length_append, zeroCells_size, hz, ho, hn]
    rw [← Nat.add_mul, ← Nat.add_mul]
    congr 1
    omega
  · have hcs : cs.toList = olds ++ (news ++ (Builtin.zeroCells z.cells (cap - (xs.length + ys.length))).toList) := by simp [cs]
    rw [hcs]
    by_cases hlt : i < xs.length
    · rw [List.getElem_append_left hlt, chunk_append_left ho hlt]
      exact hx i hlt
    · have hlen : i - xs.length < ys.length := by simp at hi; omega
      rw [List.getElem_append_right (by omega)]
      have : i = xs.length + (i - xs.length) := by omega
      rw [show (olds ++ (news ++ (Builtin.zeroCells z.cells (cap - (xs.length + ys.length))).toList)).drop (i * e.size) = (olds ++ (news ++ (Builtin.zeroCells z.cells (cap - (xs.length + ys.length))).toList)).drop ((xs.length + (i - xs.length)) * e.size) by rw [← this]]
      rw [chunk_append_right ho, chunk_append_left hn hlen]
      exact hy _ hlen

theorem roomy_info {P : Program} {e : TypeId} {n : Nat} {i : TypeInfo} (hi : P.info? e = some i) (h : roomy P e n) : n * i.bytes ≤ 140737488355328 ∧ n ≤ 140737488355328 := by
  unfold roomy at h
  rw [hi] at h
  simp only [room] at h
  split at h
  · rename_i h0; rw [h0]; exact ⟨by omega, h⟩
  · rename_i b h0
    rw [h0]
    exact ⟨h, Nat.le_trans (Nat.le_mul_of_pos_right _ (Nat.succ_pos _)) h⟩

theorem append_nil {P : Program} (hs : SimE W0 okIn B us tm ob nt E a) {nm : Nat} (hnm : ¬ us nm) {T tx ty el : TypeId} {e : Sh} {ys : List e.T} {y : Value} (hT : P.underlying T = some (.slice el)) (he : shZ P el = some e)
    (hap : Ap P E e ys tx y) (hr : roomy P el ys.length) :
    ∃ E' z, (Builtin.append_ #[T, tx] ty #[.slice none 0 0, y]).run P E.w = .ok z E'.w ∧ Evo W0 okIn B us (usn us nm) E E' [(nm, some (.rows e ys))] ∧ VR E' (.own nm e) z := by
  obtain ⟨i, z, hi, hsz, hz, hzs, _⟩ := shZ_info he
  obtain ⟨news, hsrc, hn⟩ := hap
  rw [← hsz] at hsrc
  obtain ⟨r1, r2⟩ := roomy_info hi hr
  by_cases h0 : ys.length = 0
  · have hn0 : news = [] := by have := hsrc.newsLen; rw [h0] at this; simpa using this
    subst hn0
    rw [h0] at hsrc
    refine ⟨⟨E.w, setMu E.mu nm (some ⟨none, 0, false, 0⟩), E.ok⟩, _, run_append_nothing E.w T tx ty el i hT hi none 0 0 (Nat.le_refl _) y hsrc, ?_, ?_⟩
    · refine Evo.new hs.env hs.lo hnm (fun _ _ => rfl) (Nat.le_refl _) rfl rfl rfl (fun h => by simp at h) ?_ (by simp [AO.nm])
      exact ⟨_, setMu_same _ _ _, h0.symm, .inl ⟨rfl, h0, rfl⟩⟩
    · simp only [VR, leafV, true_and]
      intro L hL
      simp only [setMu_same, Option.some.injEq] at hL
      subst hL
      rfl
  · have hrun := run_append_grow_src E.w T tx ty el i z hT hi hz none 0 0 [] (run_firstCells_none E.w.drew i.size 0 0 0) y ys.length news hsrc (by omega) (by omega) (growslice_fits (by omega) (by simpa using r1))
    have hcap := grownCap_ge E.w (0 + ys.length) 0 el
    obtain ⟨g1, g2⟩ := evo_grown (P := P) (el := el) hs.env hnm (xs := []) (ys := ys) (olds := []) (news := news) hzs (cap := grownCap E.w (0 + ys.length) 0 el) (by simpa using hcap) (by omega) (by simp) (by rw [hsrc.newsLen, hsz]) (fun i hi => by simp at hi) hn
    obtain ⟨E', hE, hev, hvr⟩ := evo_rows hs.env hs.lo hnm (xs := ys) (T := el) (fr := (0, 0)) (w' := E.w.drew.alloc (.cells (([] ++ news).toArray ++ Builtin.zeroCells z.cells (grownCap E.w (0 + ys.length) 0 el - (0 + ys.length))) el))
      (fun b hb => push_ext E.w _ b hb) (push_last E.w _) (by show _ < (E.w.heap.push _).size; simp) rfl rfl rfl (fun i _ => by omega) (by simpa using g1) (by simpa using hcap) (fun i hi => by simpa using g2 i (by simpa using hi))
    refine ⟨E', _, ?_, hev, hvr⟩
    rw [hE, hrun]
    simp

theorem append_rows {P : Program} (hs : SimE W0 okIn B us tm ob nt E a) {nm n : Nat} (hnm : ¬ us nm) {T tx ty el : TypeId} {e : Sh} {xs ys : List e.T} {v y : Value} (hT : P.underlying T = some (.slice el)) (he : shZ P el = some e)
    (hob : ob n = some (.rows e xs)) (hx : ∀ L, E.mu n = some L → v = .slice L.base xs.length L.cap ∧ xs.length ≤ L.cap) (hap : Ap P E e ys tx y) (hr : roomy P el (xs.length + ys.length)) :
    ∃ E' z, (Builtin.append_ #[T, tx] ty #[v, y]).run P E.w = .ok z E'.w ∧ Evo W0 okIn B us (usn us nm) E E' [(n, none), (nm, some (.rows e (xs ++ ys)))] ∧ VR E' (.own nm e) z := by
  obtain ⟨i, z, hi, hsz, hz, hzs, _⟩ := shZ_info he
  obtain ⟨news, hsrc, hn⟩ := hap
  have hsrc' := hsrc
  rw [← hsz] at hsrc
  obtain ⟨r1, r2⟩ := roomy_info hi hr
  obtain ⟨h1, h2, h3⟩ := hs.obj n _ hob
  obtain ⟨L, g1, gl, g2⟩ := h1
  obtain ⟨rfl, k1⟩ := hx L g1
  -- the new row's step, common to the arms that grow
  have grow : ∀ (olds : List Value), (Builtin.firstCells i.size xs.length (.slice L.base xs.length L.cap)).run P E.w.drew = .ok olds.toArray E.w.drew → olds.length = xs.length * e.size →
      (∀ i (h : i < xs.length), LRs E.w E.ok e (xs[i]'h) ((olds.drop (i * e.size)).take e.size)) → L.cap < xs.length + ys.length →
      ∃ E' z, (Builtin.append_ #[T, tx] ty #[.slice L.base xs.length L.cap, y]).run P E.w = .ok z E'.w ∧ Evo W0 okIn B us (usn us nm) E E' [(n, none), (nm, some (.rows e (xs ++ ys)))] ∧ VR E' (.own nm e) z := by
    intro olds ho1 ho2 ho3 hlt
    have hrun := run_append_grow_src E.w T tx ty el i z hT hi hz L.base xs.length L.cap olds ho1 y ys.length news hsrc hlt (by omega) (growslice_fits hlt r1)
    have hcap := grownCap_ge E.w (xs.length + ys.length) L.cap el
    obtain ⟨c1, c2⟩ := evo_grown (P := P) (el := el) hs.env hnm (xs := xs) (ys := ys) (olds := olds) (news := news) hzs (cap := grownCap E.w (xs.length + ys.length) L.cap el) hcap (by omega) ho2 (by rw [hsrc.newsLen, hsz]) ho3 hn
    have hext : ∀ b, b < E.w.heap.size → (E.w.drew.alloc (.cells ((olds ++ news).toArray ++ Builtin.zeroCells z.cells (grownCap E.w (xs.length + ys.length) L.cap el - (xs.length + ys.length))) el)).heap[b]? = E.w.heap[b]? := fun b hb => push_ext E.w _ b hb
    refine ⟨⟨_, setMu (setMu E.mu n none) nm (some ⟨some ⟨E.w.heap.size, 0, none⟩, grownCap E.w (xs.length + ys.length) L.cap el, true, xs.length + ys.length⟩), E.ok⟩, _, hrun, ?_, ?_⟩
    · refine Evo.move hs.env hs.lo hnm h3 (fun b hb _ => hext b hb) (by show _ ≤ (E.w.heap.push _).size; simp) rfl rfl rfl (fun _ => ⟨_, rfl, by show _ < (E.w.heap.push _).size; simp, .inl (Nat.le_refl _)⟩) ?_ (by simp [AO.nm])
      exact ⟨_, setMu_same _ _ _, by simp, .inr ⟨E.w.heap.size, _, el, (0, 0), rfl, rfl, push_last E.w _, c1, by simpa using hcap, fun i _ => by omega, fun i hi =>
        LRs.mono (fun b hb => hext b (hs.env.okl b hb).1) (fun _ h => h) _ _ _ (c2 i hi)⟩⟩
    · simp only [VR, leafV, true_and]
      intro L' hL'
      simp only [setMu_same, Option.some.injEq] at hL'
      subst hL'
      rfl
  rcases g2 with ⟨g2, g3, g4⟩ | ⟨b, cs, T', fr, f1, f2, f3, f4, f5, f6, f7⟩
  · -- no capacity
    by_cases h0 : ys.length = 0
    · have hn0 : news = [] := by have := hsrc.newsLen; rw [h0] at this; simpa using this
      subst hn0
      rw [h0] at hsrc
      refine ⟨⟨E.w, setMu (setMu E.mu n none) nm (some L), E.ok⟩, _, run_append_nothing E.w T tx ty el i hT hi L.base xs.length L.cap k1 y hsrc, ?_, ?_⟩
      · refine Evo.move hs.env hs.lo hnm h3 (fun _ _ _ => rfl) (Nat.le_refl _) rfl rfl rfl (fun h => by rw [g4] at h; simp at h) ?_ (by simp [AO.nm])
        exact ⟨_, setMu_same _ _ _, by rw [List.length_append]; omega, .inl ⟨g2, by rw [List.length_append]; omega, g4⟩⟩
      · simp only [VR, leafV, true_and]
        intro L' hL'
        simp only [setMu_same, Option.some.injEq] at hL'
        subst hL'
        rw [gl]
    · refine grow [] ?_ (by simp [g3]) (fun i hi => by omega) (by omega)
      rw [g3]
      cases L.base with
      | none => exact run_firstCells_none E.w.drew i.size 0 0 L.cap
      | some ad => exact run_firstCells_some E.w.drew i.size 0 ad 0 L.cap [] (by simp) (fun j v hj => by simp at hj)
  · by_cases hroom : xs.length + ys.length ≤ L.cap
    · -- there is room
      rw [f1]
      have hown : owns E n b := ⟨L, g1, f2, f1⟩
      have hnl : news.length = ys.length * e.size := by rw [hsrc.newsLen, hsz]
      have hbound : xs.length * e.size + 0 + news.length ≤ cs.size := by
        rw [f4, hnl]
        have := Nat.mul_le_mul_right e.size hroom
        rw [Nat.add_mul] at this; omega
      have hst := run_storeCells_row (P := P) b T' fr news (xs.length * e.size) 0 cs E.w f3 f6 hbound (fun v hv => by
        have := hsrc.one v hv
        cases v <;> first | trivial | (simp [Value.oneCell'] at this))
      simp only [Nat.add_zero] at hst hbound
      have hcellb : ∀ j, j < news.length → (E.w.cell? ⟨b, 0 + xs.length * i.size + j, none⟩).isSome = true := by
        intro j hj
        rw [hsz]
        simp [World.cell?, f3, show xs.length * e.size + j < cs.size by omega]
      have hfro : ∀ j, j < news.length → E.w.frozen? ⟨b, 0 + xs.length * i.size + j, none⟩ = false := by
        intro j hj
        have := f6 (xs.length * e.size + j) (by omega)
        simp only [World.frozen?, f3, hsz, Nat.zero_add]
        by_cases h : fr.1 ≤ xs.length * e.size + j
        · have h2 : ¬ (xs.length * e.size + j < fr.2) := fun hh => this ⟨h, hh⟩
          simp [h2]
        · simp [h]
      have hrun := run_append_room_src E.w T tx ty el i hT hi b 0 xs.length L.cap y ys.length news hsrc hroom hcellb hfro
      have hset := run_storeCells_cells (P := P) b (xs.length * e.size) news 0 E.w (by
        intro j hj
        have := hcellb j hj
        rwa [hsz, Nat.zero_add] at this) (by
        intro j hj
        have := hfro j hj
        rwa [hsz, Nat.zero_add] at this) hsrc.one
      have heq : E.w.setCells b (0 + xs.length * i.size) news = E.w.setRow b (cs.toList.take (xs.length * e.size) ++ news ++ cs.toList.drop (xs.length * e.size + news.length)).toArray := by
        rw [hst] at hset
        simp only [Nat.add_zero, Result.ok.injEq, true_and] at hset
        rw [Nat.zero_add, hsz]
        exact hset.symm
      rw [heq] at hrun
      have hext : ∀ c, c < E.w.heap.size → ¬ owns E n c → (E.w.setRow b (cs.toList.take (xs.length * e.size) ++ news ++ cs.toList.drop (xs.length * e.size + news.length)).toArray).heap[c]? = E.w.heap[c]? :=
        fun c hc hno => setRow_other _ _ _ _ fun hcb => hno (hcb ▸ hown)
      have hok := ok_ext hs.env hext
      have hlen : (cs.toList.take (xs.length * e.size) ++ news ++ cs.toList.drop (xs.length * e.size + news.length)).length = cs.size := by simp; omega
      have hb' : b < E.w.heap.size := (hs.env.own n b hown).2.1
      refine ⟨⟨_, setMu (setMu E.mu n none) nm (some ⟨L.base, L.cap, L.own, xs.length + ys.length⟩), E.ok⟩, _, hrun, ?_, ?_⟩
      · refine Evo.move hs.env hs.lo hnm h3 hext (Nat.le_of_eq (setRow_size _ _ _).symm) rfl rfl rfl (fun _ => ⟨b, f1, Nat.lt_of_lt_of_eq hb' (setRow_size E.w b _).symm, .inr hown⟩) ?_ (by simp [AO.nm])
        refine ⟨_, setMu_same _ _ _, by simp, .inr ⟨b, _, T', fr, f1, f2, setRow_heap E.w b cs _ T' fr f3, by rw [List.size_toArray, hlen]; exact f4, by simpa using hroom, fun j hj => f6 j (by rw [List.size_toArray, hlen] at hj; exact hj), fun j hj => ?_⟩⟩
        refine LRs.mono hok (fun _ h => h) _ _ _ ?_
        rw [List.toList_toArray]
        have htl : (cs.toList.take (xs.length * e.size)).length = xs.length * e.size := by simp; omega
        by_cases hlt : j < xs.length
        · rw [List.getElem_append_left hlt, List.append_assoc, chunk_append_left htl hlt]
          have := Nat.mul_le_mul_right e.size (show j + 1 ≤ xs.length by omega)
          rw [Nat.add_mul] at this
          have h7 := f7 j hlt
          rwa [List.drop_take, List.take_take, show min e.size (xs.length * e.size - j * e.size) = e.size by omega]
        · have hjy : j - xs.length < ys.length := by simp at hj; omega
          rw [List.getElem_append_right (by omega)]
          have : j = xs.length + (j - xs.length) := by omega
          rw [List.append_assoc, show (cs.toList.take (xs.length * e.size) ++ (news ++ cs.toList.drop (xs.length * e.size + news.length))).drop (j * e.size) = (cs.toList.take (xs.length * e.size) ++ (news ++ cs.toList.drop (xs.length * e.size + news.length))).drop ((xs.length + (j - xs.length)) * e.size) by rw [← this]]
          rw [chunk_append_right htl, chunk_append_left hnl hjy]
          exact hn _ hjy
      · simp only [VR, leafV, true_and]
        intro L' hL'
        simp only [setMu_same, Option.some.injEq] at hL'
        subst hL'
        simp [f1]
    · have hcl : xs.length * e.size ≤ cs.size := by rw [f4]; exact Nat.mul_le_mul_right _ f5
      have htl : (cs.toList.take (xs.length * e.size)).length = xs.length * e.size := by simp; omega
      refine grow (cs.toList.take (xs.length * e.size)) ?_ htl (fun i hi => ?_) (by omega)
      · rw [f1]
        refine run_firstCells_some E.w.drew i.size xs.length _ _ _ _ (by rw [htl, hsz]) (fun j v hj => ?_)
        have hjl : j < (cs.toList.take (xs.length * e.size)).length := by
          rcases Nat.lt_or_ge j (cs.toList.take (xs.length * e.size)).length with hlt | hge
          · exact hlt
          · rw [List.getElem?_eq_none hge] at hj; simp at hj
        rw [List.getElem?_eq_getElem hjl] at hj
        have := ((cells_row f3).take (xs.length * e.size)) j hjl
        rw [add_mk]
        exact this.trans hj
      · have := Nat.mul_le_mul_right e.size (show i + 1 ≤ xs.length by omega)
        rw [Nat.add_mul] at this
        rw [List.drop_take, List.take_take, show min e.size (xs.length * e.size - i * e.size) = e.size by omega]
        exact f7 i hi

end
end Go.Tr
