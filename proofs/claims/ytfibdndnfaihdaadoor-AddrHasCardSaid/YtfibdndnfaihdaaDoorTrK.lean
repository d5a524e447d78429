/- What is read of a slice; append; texts and bytes; made slices.
   Conditions: none. -/
import Derived.Test.YtfibdndnfaihdaaDoorTrJ
import Derived.Lib.ConvBytes
import Derived.Laws.BytesArg
import Derived.Deep.Upon
namespace Go.Tr
open Go
set_option linter.unusedVariables false
set_option linter.unusedSimpArgs false

section
variable {W0 : WX} {okIn B us : Nat → Prop} {tm : Nat → Option AV} {ob : Nat → Option AO} {nt : Nat} {E : Env} {a : Act}

/-- A slice that reads as rows, whoever owns it. -/
def Rd (w : World) (ok okb : Nat → Prop) (e : Sh) (xs : List e.T) (v : Value) : Prop :=
  ∃ base cap, v = .slice base xs.length cap ∧ xs.length ≤ cap ∧ (xs.length = 0 ∨ ∃ b o, base = some ⟨b, o, none⟩ ∧ okb b ∧ ∀ i (h : i < xs.length), ∃ cs, cs.length = e.size ∧ Row w b (o + i * e.size) cs ∧ LRs w ok e (xs[i]'h) cs)

/-- What is frozen, or owned under a name that stands in a value. -/
def okV (E : Env) (x : AV) (b : Nat) : Prop := E.ok b ∨ ∃ n, x.has n = true ∧ owns E n b

theorem Rd.of_fsl {w : World} {ok : Nat → Prop} {e : Sh} {xs : List e.T} {v : Value} (h : LRs w ok (.sl e) xs [v]) : Rd w ok ok e xs v := by
  simp only [LRs] at h
  obtain ⟨base, cap, hv, hc, h⟩ := h
  simp only [List.cons.injEq, and_true] at hv
  subst hv
  refine ⟨base, cap, rfl, hc, ?_⟩
  rcases h with h | ⟨b, o, h1, h2, h3⟩
  · exact .inl h
  · exact .inr ⟨b, o, h1, h2, h3⟩

theorem Rd.weak {w : World} {ok okb okb' : Nat → Prop} {e : Sh} {xs : List e.T} {v : Value} (h : Rd w ok okb e xs v) (hb : ∀ b, okb b → okb' b) : Rd w ok okb' e xs v := by
  obtain ⟨base, cap, h1, h2, h3⟩ := h
  refine ⟨base, cap, h1, h2, ?_⟩
  rcases h3 with h3 | ⟨b, o, h4, h5, h6⟩
  · exact .inl h3
  · exact .inr ⟨b, o, h4, hb _ h5, h6⟩

theorem sliceA_length {α : Type} {lo hi : Nat} {xs : List α} (h1 : lo ≤ hi) (h : hi ≤ xs.length) : (sliceA lo hi xs).length = hi - lo := by
  simp [sliceA]; omega

theorem sliceA_get {α : Type} {lo hi : Nat} {xs : List α} {i : Nat} (h : hi ≤ xs.length) (hi' : i < (sliceA lo hi xs).length) : (sliceA lo hi xs)[i] = xs[lo + i]'(by simp [sliceA] at hi'; omega) := by
  simp [sliceA]

theorem litRows_cells {e : Sh} : ∀ {l : List AV} {vs : List Value} {i : Nat} {ts : List e.T}, litRows e i (idxA i l) = some ts → VRL E l vs → (∀ v ∈ vs, leafV v) →
    ts.length = l.length ∧ ∀ j (h : j < ts.length) (g : j < vs.length), LRs E.w E.ok e (ts[j]'h) [vs[j]'g] ∧ e.size = 1
  | [], vs, i, ts, h, hv, _ => by
    simp only [idxA, litRows, Option.some.injEq] at h
    subst h
    exact ⟨rfl, fun j hj => by simp at hj⟩
  | x :: l, vs, i, ts, h, hv, hlf => by
    simp only [VRL] at hv
    obtain ⟨v, r, rfl, hv1, hr⟩ := hv
    simp only [idxA] at h
    unfold litRows at h
    split at h
    · rename_i cs1 hb hcs1
      split at h
      · rename_i t hdec
        split at h
        · rename_i ts' hts
          simp only [Option.some.injEq] at h
          subst h
          obtain ⟨g1, g2, g3⟩ := cellsA_sound hcs1 hv1
          rw [leafV_cells (hlf v (by simp))] at g1
          have hl := decS_all hdec g1
          obtain ⟨k1, k2⟩ := litRows_cells hts hr (fun y hy => hlf y (by simp [hy]))
          refine ⟨by simp [k1], fun j hj hj' => ?_⟩
          cases j with
          | zero => exact ⟨hl, by have := LRs.length e _ _ hl; simpa using this.symm⟩
          | succ j => exact k2 j (by simpa using hj) (by simpa using hj')
        · simp at h
      · simp at h
    · simp at h

theorem readA_sound (hs : ObS E us ob) {x : AV} {v : Value} {e : Sh} {xs : List e.T} {q : List Prop} (h : readA ob e x = some (xs, q)) (hq : ∀ p ∈ q, p) (hx : VR E x v) : Rd E.w E.ok (okV E x) e xs v := by
  unfold readA at h
  split at h
  · split at h
    · rename_i he
      subst he
      simp only [Option.some.injEq, Prod.mk.injEq] at h
      obtain ⟨rfl, rfl⟩ := h
      simp only [VR] at hx
      exact (Rd.of_fsl hx).weak fun b hb => .inl hb
    · simp at h
  · simp only [Option.some.injEq, Prod.mk.injEq] at h
    obtain ⟨rfl, rfl⟩ := h
    simp only [VR] at hx
    exact ⟨none, 0, hx, Nat.le_refl _, .inl rfl⟩
  · rename_i n e1 off len
    split at h
    · rename_i e' ys hob
      split at h
      · rename_i he
        subst he
        split at h
        case isFalse => simp at h
        rename_i he
        subst he
        simp only [Option.some.injEq, Prod.mk.injEq] at h
        obtain ⟨rfl, rfl⟩ := h
        have hle : off + len ≤ ys.length := hq _ (List.Mem.head _)
        obtain ⟨h1, h2, h3⟩ := hs.obj n _ hob
        obtain ⟨L, g1, _, g2⟩ := h1
        simp only [VR] at hx
        obtain ⟨base, rfl, k1, k2, k3⟩ := hx.2 L g1
        have hlen : (sliceA off (off + len) ys).length = len := by rw [sliceA_length (by omega) hle]; omega
        refine ⟨base, L.cap - off, by rw [hlen], by rw [hlen]; omega, ?_⟩
        by_cases h0 : len = 0
        · exact .inl (by rw [hlen]; exact h0)
        · refine .inr ?_
          rcases g2 with g2 | ⟨b, cs, T, fr, f1, f2, f3, f4, f5, f6, f7⟩
          · omega
          · refine ⟨b, off * e1.size, ?_, .inr ⟨n, by simp [AV.has, beq_self], L, g1, f2, f1⟩, fun i hi => ?_⟩
            · rw [k3 (by omega), f1]; simp [add_mk]
            · rw [sliceA_get hle hi]
              have hi' : off + i < ys.length := by rw [hlen] at hi; omega
              refine ⟨_, ?_, ?_, f7 (off + i) hi'⟩
              · exact LRs.length e1 _ _ (f7 (off + i) hi')
              · have hrow := ((cells_row f3).drop ((off + i) * e1.size)).take e1.size
                rw [Nat.zero_add, Nat.add_mul] at hrow
                rw [Nat.add_mul]
                exact hrow
      · simp at h
    · rename_i e' ys hob
      split at h
      · rename_i he
        subst he
        split at h
        case isFalse => simp at h
        rename_i he
        subst he
        simp only [Option.some.injEq, Prod.mk.injEq] at h
        obtain ⟨rfl, rfl⟩ := h
        have hle : off + len ≤ ys.length := hq _ (List.Mem.head _)
        obtain ⟨h1, h2, h3⟩ := hs.obj n _ hob
        obtain ⟨L, g1, _, g2, g3, g4⟩ := h1
        simp only [VR] at hx
        obtain ⟨base, rfl, k1, k2, k3⟩ := hx.2 L g1
        have hlen : (sliceA off (off + len) ys).length = len := by rw [sliceA_length (by omega) hle]; omega
        refine ⟨base, L.cap - off, by rw [hlen], by rw [hlen]; omega, ?_⟩
        by_cases h0 : len = 0
        · exact .inl (by rw [hlen]; exact h0)
        · refine .inr ?_
          have hr := Rd.of_fsl g4
          obtain ⟨base', cap', hv, _, hh⟩ := hr
          simp only [Value.slice.injEq] at hv
          obtain ⟨rfl, _, rfl⟩ := hv
          rcases hh with hh | ⟨b, o, f1, f0, f2⟩
          · omega
          · refine ⟨b, o + off * e1.size, ?_, .inl f0, fun i hi => ?_⟩
            · rw [k3 (by omega), f1]; simp [add_mk]
            · rw [sliceA_get hle hi]
              have hi' : off + i < ys.length := by rw [hlen] at hi; omega
              obtain ⟨cs, c1, c2, c3⟩ := f2 (off + i) hi'
              refine ⟨cs, c1, ?_, c3⟩
              rw [Nat.add_mul] at c2
              rw [Nat.add_assoc]
              exact c2
      · simp at h
    · simp at h
  · rename_i n e1
    split at h
    · rename_i e' ys hob
      split at h
      · rename_i he
        subst he
        split at h
        case isFalse => simp at h
        rename_i he
        subst he
        simp only [Option.some.injEq, Prod.mk.injEq] at h
        obtain ⟨rfl, rfl⟩ := h
        obtain ⟨h1, h2, h3⟩ := hs.obj n _ hob
        obtain ⟨L0, k1, rfl, k2, _⟩ := own_val (.inl h1) hx
        obtain ⟨L, g1, gl, g2⟩ := h1
        obtain rfl : L0 = L := Option.some.inj (k1.symm.trans g1)
        refine ⟨L0.base, L0.cap, rfl, k2, ?_⟩
        rcases g2 with g2 | ⟨b, cs, T, fr, f1, f2, f3, f4, f5, f6, f7⟩
        · exact .inl g2.2.1
        · refine .inr ⟨b, 0, f1, .inr ⟨n, by simp [AV.has, beq_self], L0, g1, f2, f1⟩, fun i hi => ?_⟩
          refine ⟨_, LRs.length e1 _ _ (f7 i hi), ?_, f7 i hi⟩
          exact ((cells_row f3).drop (i * e1.size)).take e1.size
      · simp at h
    · rename_i e' ys hob
      split at h
      · rename_i he
        subst he
        split at h
        case isFalse => simp at h
        rename_i he
        subst he
        simp only [Option.some.injEq, Prod.mk.injEq] at h
        obtain ⟨rfl, rfl⟩ := h
        obtain ⟨h1, h2, h3⟩ := hs.obj n _ hob
        obtain ⟨L0, k1, rfl, k2, _⟩ := own_val (.inr h1) hx
        obtain ⟨L, g1, gl, g2, g3, g4⟩ := h1
        obtain rfl : L0 = L := Option.some.inj (k1.symm.trans g1)
        exact (Rd.of_fsl g4).weak fun b hb => .inl hb
      · simp at h
    · simp at h
  · rename_i n off len
    split at h
    · rename_i l hob
      split at h
      · rename_i ts hb hlv hl
        simp only [Option.some.injEq, Prod.mk.injEq] at h
        obtain ⟨rfl, rfl⟩ := h
        have hle := Nat.le_of_ble_eq_true hb
        rw [lenA_eq] at hle
        rw [takeA_eq, dropA_eq] at hl hlv
        obtain ⟨h1, h2, h3⟩ := hs.obj n _ hob
        obtain ⟨b, cs, T, fr, g1, g2, g3, g4⟩ := h1
        simp only [VR] at hx
        obtain ⟨b', o, cap, hb', rfl, k1, k2⟩ := hx.2 _ g1
        simp only [Option.some.injEq, Addr.mk.injEq, and_true] at hb'
        subst hb'
        have hcl := g4.length
        obtain ⟨f1, f2⟩ := litRows_cells hl ((g4.drop off).take len) (leaves_of hlv ((g4.drop off).take len))
        have hlen : ts.length = len := by rw [f1]; simp; omega
        refine ⟨some ⟨b, o, none⟩, cap, by rw [hlen], by rw [hlen]; exact k1, ?_⟩
        by_cases h0 : len = 0
        · exact .inl (by omega)
        · refine .inr ⟨b, o, rfl, .inr ⟨n, by simp [AV.has, beq_self], _, g1, rfl, rfl⟩, fun i hi => ?_⟩
          have hio : o = off := k2 (by omega)
          subst hio
          have hi' : i < ((cs.toList.drop o).take len).length := by simp at hcl ⊢; omega
          obtain ⟨m1, m2⟩ := f2 i hi hi'
          refine ⟨_, by simp [m2], ?_, m1⟩
          intro j hj
          have hj0 : j = 0 := by simp at hj; exact hj
          subst hj0
          have hrow := cells_row g2 (o + i) (by simp at hi' ⊢; omega)
          simp only [List.getElem_cons_zero, Nat.add_zero, m2, Nat.mul_one]
          simp only [Nat.zero_add] at hrow
          rw [hrow]
          simp
      · simp at h
    · rename_i l hob
      split at h
      · rename_i ts hb hlv hl
        simp only [Option.some.injEq, Prod.mk.injEq] at h
        obtain ⟨rfl, rfl⟩ := h
        have hle := Nat.le_of_ble_eq_true hb
        rw [lenA_eq] at hle
        rw [takeA_eq, dropA_eq] at hl hlv
        obtain ⟨h1, h2, h3⟩ := hs.obj n _ hob
        obtain ⟨b, cs, T, fr, g1, g3, g2, g4⟩ := h1
        simp only [VR] at hx
        obtain ⟨b', o, cap, hb', rfl, k1, k2⟩ := hx.2 _ g1
        simp only [Option.some.injEq, Addr.mk.injEq, and_true] at hb'
        subst hb'
        have hcl := g4.length
        obtain ⟨f1, f2⟩ := litRows_cells hl ((g4.drop off).take len) (leaves_of hlv ((g4.drop off).take len))
        have hlen : ts.length = len := by rw [f1]; simp; omega
        refine ⟨some ⟨b, o, none⟩, cap, by rw [hlen], by rw [hlen]; exact k1, ?_⟩
        by_cases h0 : len = 0
        · exact .inl (by omega)
        · refine .inr ⟨b, o, rfl, .inl g3, fun i hi => ?_⟩
          have hio : o = off := k2 (by omega)
          subst hio
          have hi' : i < ((cs.toList.drop o).take len).length := by simp at hcl ⊢; omega
          obtain ⟨m1, m2⟩ := f2 i hi hi'
          refine ⟨_, by simp [m2], ?_, m1⟩
          intro j hj
          have hj0 : j = 0 := by simp at hj; exact hj
          subst hj0
          have hrow := cells_row g2 (o + i) (by simp at hi' ⊢; omega)
          simp only [List.getElem_cons_zero, Nat.add_zero, m2, Nat.mul_one]
          simp only [Nat.zero_add] at hrow
          rw [hrow]
          simp
      · simp at h
    · simp at h
  · simp at h

theorem Row.append {w : World} {b o : Nat} {c1 c2 : List Value} (h1 : Row w b o c1) (h2 : Row w b (o + c1.length) c2) : Row w b o (c1 ++ c2) := by
  intro j hj
  by_cases hlt : j < c1.length
  · rw [List.getElem_append_left hlt]; exact h1 j hlt
  · rw [List.getElem_append_right (by omega)]
    have := h2 (j - c1.length) (by simp at hj; omega)
    rwa [show o + c1.length + (j - c1.length) = o + j by omega] at this

/-- All cells of rows, one behind the other. -/
theorem flat_rows {w : World} {ok : Nat → Prop} {e : Sh} (b : Nat) : ∀ (xs : List e.T) (o : Nat), (∀ i (h : i < xs.length), ∃ cs, cs.length = e.size ∧ Row w b (o + i * e.size) cs ∧ LRs w ok e (xs[i]'h) cs) →
    ∃ news : List Value, news.length = xs.length * e.size ∧ Row w b o news ∧ ∀ i (h : i < xs.length), LRs w ok e (xs[i]'h) ((news.drop (i * e.size)).take e.size)
  | [], o, h => ⟨[], by simp, fun j hj => by simp at hj, fun i hi => by simp at hi⟩
  | x :: r, o, h => by
    obtain ⟨cs, h1, h2, h3⟩ := h 0 (by simp)
    obtain ⟨news, g1, g2, g3⟩ := flat_rows b r (o + e.size) (fun i hi => by
      obtain ⟨cs, k1, k2, k3⟩ := h (i + 1) (by simpa using hi)
      exact ⟨cs, k1, by rwa [show o + (i + 1) * e.size = o + e.size + i * e.size by rw [Nat.add_mul]; omega] at k2, k3⟩)
    simp only [Nat.zero_mul, Nat.add_zero, List.getElem_cons_zero] at h2 h3
    refine ⟨cs ++ news, by simp [h1, g1, Nat.add_mul]; omega, h2.append (by rw [h1]; exact g2), fun i hi => ?_⟩
    cases i with
    | zero =>
      simp only [Nat.zero_mul, List.drop_zero, List.getElem_cons_zero]
      rw [List.take_append_of_le_length (by omega), ← h1, List.take_length]
      exact h3
    | succ i =>
      simp only [List.getElem_cons_succ]
      have := g3 i (by simpa using hi)
      rwa [show (i + 1) * e.size = cs.length + i * e.size by rw [Nat.add_mul, h1]; omega, List.drop_length_add_append]

theorem LRs.leaf {w : World} {ok : Nat → Prop} : ∀ (s : Sh) (x : s.T) (vs : List Value), LRs w ok s x vs → ∀ v ∈ vs, v.oneCell' = true
  | .int k, x, vs, h, v, hv => by simp only [LRs] at h; subst h; simp at hv; subst hv; rfl
  | .bool, x, vs, h, v, hv => by simp only [LRs] at h; subst h; simp at hv; subst hv; rfl
  | .str, x, vs, h, v, hv => by simp only [LRs] at h; subst h; simp at hv; subst hv; rfl
  | .unit, x, vs, h, v, hv => by simp only [LRs] at h; subst h; simp at hv
  | .sl e, x, vs, h, v, hv => by simp only [LRs] at h; obtain ⟨_, _, rfl, _⟩ := h; simp at hv; subst hv; rfl
  | .arr n e, x, vs, h, v, hv => by
    simp only [LRs] at h
    obtain ⟨h1, h2, h3⟩ := h
    obtain ⟨j, hj, rfl⟩ := List.getElem_of_mem hv
    have hs : 0 < e.size := by
      rcases Nat.eq_zero_or_pos e.size with h0 | h0
      · rw [h0] at h2; simp at h2; subst h2; simp at hj
      · exact h0
    have hjn : j / e.size < List.length x := by
      rw [h1]
      exact Nat.div_lt_of_lt_mul (by rw [Nat.mul_comm]; omega)
    refine LRs.leaf e _ _ (h3 (j / e.size) hjn) vs[j] ?_
    rw [List.mem_iff_getElem?]
    refine ⟨j % e.size, ?_⟩
    rw [List.getElem?_take, if_pos (Nat.mod_lt _ hs), List.getElem?_drop]
    have : j / e.size * e.size + j % e.size = j := by rw [Nat.mul_comm]; exact Nat.div_add_mod j e.size
    rw [this, List.getElem?_eq_getElem hj]
  | .pair p q, x, vs, h, v, hv => by
    simp only [LRs] at h
    obtain ⟨v1, v2, rfl, h1, h2⟩ := h
    rcases List.mem_append.1 hv with hv | hv
    · exact LRs.leaf p _ _ h1 v hv
    · exact LRs.leaf q _ _ h2 v hv

/-- All cells of rows are leaves. -/
theorem rows_leaf {w : World} {ok : Nat → Prop} {e : Sh} {xs : List e.T} {news : List Value} (hl : news.length = xs.length * e.size)
    (h : ∀ i (h : i < xs.length), LRs w ok e (xs[i]'h) ((news.drop (i * e.size)).take e.size)) : ∀ v ∈ news, v.oneCell' = true := by
  have : LRs w ok (.arr xs.length e) xs news := ⟨rfl, hl, h⟩
  exact LRs.leaf _ _ _ this

/-- What is appended, as the model's laws want it. -/
structure Ap (P : Program) (E : Env) (e : Sh) (ys : List e.T) (tx : TypeId) (y : Value) : Prop where
  ex : ∃ news : List Value, Src P e.size tx y ys.length news E.w ∧ ∀ i (h : i < ys.length), LRs E.w E.ok e (ys[i]'h) ((news.drop (i * e.size)).take e.size)

theorem Ap.of_rd {P : Program} {e : Sh} {ys : List e.T} {tx e' : TypeId} {y : Value} (hk : P.underlying tx = some (.slice e')) {okb : Nat → Prop} (h : Rd E.w E.ok okb e ys y) : Ap P E e ys tx y := by
  obtain ⟨base, cap, rfl, _, h⟩ := h
  rcases h with h | ⟨b, o, rfl, _, h⟩
  · refine ⟨[], ?_, fun i hi => by omega⟩
    rw [h]
    cases base with
    | none => exact Src.ofNil E.w hk cap
    | some ad => exact Src.ofSlice E.w hk ad 0 cap [] (by simp) (fun j u hj => by simp at hj) (fun u hu => by simp at hu)
  · obtain ⟨news, g1, g2, g3⟩ := flat_rows b ys o h
    refine ⟨news, Src.ofSlice E.w hk _ _ cap news g1 (fun j u hj => ?_) (rows_leaf g1 g3), g3⟩
    have hjl : j < news.length := by
      rcases Nat.lt_or_ge j news.length with hlt | hge
      · exact hlt
      · rw [List.getElem?_eq_none hge] at hj; simp at hj
    rw [add_mk, g2 j hjl]
    rw [List.getElem?_eq_getElem hjl] at hj
    exact hj

theorem Ap.of_str {P : Program} {tx : TypeId} (hk : P.underlying tx = some .string) (l : List UInt8) : Ap P E (.int .u8) (ofBytes l) tx (.string ⟨l.toArray⟩) := by
  refine ⟨byteCells ⟨l.toArray⟩, ?_, fun i hi => ?_⟩
  · have := Src.ofString E.w hk ⟨l.toArray⟩
    have hl : (ofBytes l).length = (⟨l.toArray⟩ : ByteArray).size := by simp [ofBytes, ByteArray.size]
    rw [hl]
    exact this
  · have hi' : i < l.length := by simpa [ofBytes] using hi
    simp only [Sh.size, Nat.mul_one, LRs, byteCells, ofBytes]
    rw [List.getElem_map]
    have hd : (l.map fun b : UInt8 => Value.int .u8 (b.toNat : Int)).drop i = Value.int .u8 ((l[i]'hi').toNat : Int) :: (l.map fun b : UInt8 => Value.int .u8 (b.toNat : Int)).drop (i + 1) := by
      rw [List.drop_eq_getElem_cons (by simpa using hi')]
      simp
    simp only [hd]
    simp

end
end Go.Tr
