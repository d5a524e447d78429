/- Structs, arrays and slices as literals; made slices; conversions.
   Conditions: none. -/
import Derived.Test.YtbdgfpfafcjmgaaDoorTrH
namespace Go.Tr
open Go
set_option linter.unusedVariables false
set_option linter.unusedSimpArgs false

section
variable {W0 : WX} {okIn B us : Nat → Prop} {tm : Nat → Option AV} {ob : Nat → Option AO} {nt : Nat} {E : Env} {a : Act}

theorem zeroT_run {P : Program} {T : TypeId} {l : List AV} (h : zeroT P T = some l) (w : World) : ∃ z, (zeroValue T).run P w = .ok z w ∧ l = cvals z.cells.toList := by
  unfold zeroT at h
  split at h
  · rename_i i hi
    split at h
    · rename_i z hz
      simp only [Option.some.injEq] at h
      exact ⟨z, by simp [zeroValue, typeInfo, hi, hz], h.symm⟩
    · simp at h
  · simp at h

theorem run_places {P : Program} (w : World) : ∀ (fs : List Field) (q : List (Nat × Nat)), fldPl P fs = some q →
    (fs.mapM (fun f : Field => (do pure (f.offset, ← sizeOf f.type) : Sem (Nat × Nat)))).run P w = .ok q w
  | [], q, h => by simp only [fldPl, Option.some.injEq] at h; subst h; simp
  | f :: r, q, h => by
    unfold fldPl at h
    split at h
    · rename_i s hs
      split at h
      · rename_i q' hq'
        simp only [Option.some.injEq] at h
        subst h
        have ih := run_places w r q' hq'
        simp only [List.mapM_cons, Sem.run_bind, run_sizeT w hs, Result.andThen_ok, Sem.run_pure, ih]
      · simp at h
    · simp at h

theorem opBuild_sound {P : Program} {T : TypeId} {z l' : List AV} {pl : Nat → Option (Nat × Nat)} {l : List (Nat × AV)} {vs : List (Nat × Value)} (hz : zeroT P T = some z) (hpl : placeT P T = some pl) (h : fillA pl z l = some l')
    (hv : VRP E l vs) (hn : nmp us l) (w : World) : ∃ y, (Instr.build T vs.toArray).run P w = .ok y w ∧ VR E (.agg l') y ∧ (AV.agg l').nm us := by
  obtain ⟨zv, hzr, rfl⟩ := zeroT_run hz w
  have hcv := cvals_sound E zv.cells.toList
  have hnm : AV.nms us l' := fillA_nms (fun v cs => cellsA_nms) h hn (cvals_nm us _)
  unfold placeT at hpl
  split at hpl
  · rename_i fs hT
    split at hpl
    · rename_i q hq
      simp only [Option.some.injEq] at hpl
      subst hpl
      obtain ⟨cs', hf, hr⟩ := fillA_sound (placeM := fun i => q.toArray[i]?) (fun i x hx => by rw [nth_eq] at hx; simpa using hx) h hv hcv
      refine ⟨.agg cs', ?_, ⟨cs'.toList, rfl, hr⟩, hnm⟩
      have hmap : (fs.mapM (fun f : Field => (do pure (f.offset, ← sizeOf f.type) : Sem (Nat × Nat)))).run P w = .ok q.toArray w := by
        rw [Array.mapM_eq_mapM_toList, Sem.run_map, run_places w _ _ hq]
        rfl
      simp only [Instr.build, Sem.run_bind, hzr, Result.andThen_ok, run_underlying hT, hmap, hf, Sem.run_pure]
    · simp at hpl
  · rename_i n e hT
    split at hpl
    · rename_i s hs
      simp only [Option.some.injEq] at hpl
      subst hpl
      obtain ⟨cs', hf, hr⟩ := fillA_sound (placeM := fun i => some (i * s, s)) (fun i x hx => hx) h hv hcv
      refine ⟨.agg cs', ?_, ⟨cs'.toList, rfl, hr⟩, hnm⟩
      simp only [Instr.build, Sem.run_bind, hzr, Result.andThen_ok, run_underlying hT, run_sizeT w hs, hf, Sem.run_pure]
    · simp at hpl
  · simp at hpl

theorem chunk_keep {l v : List Value} {i s j : Nat} (hv : v.length = s) (hle : i * s + s ≤ l.length) (hj : j < i) :
    ((l.take (i * s) ++ v ++ l.drop (i * s + s)).drop (j * s)).take s = (l.drop (j * s)).take s := by
  have h1 : j * s + s ≤ i * s := by
    have := Nat.mul_le_mul_right s (show j + 1 ≤ i by omega)
    rw [Nat.add_mul] at this; omega
  rw [List.append_assoc, List.drop_append_of_le_length (by simp; omega), List.take_append_of_le_length (by simp; omega)]
  rw [List.drop_take, List.take_take]
  congr 1
  omega

theorem chunk_at {l v : List Value} {i s : Nat} (hv : v.length = s) (hle : i * s + s ≤ l.length) :
    ((l.take (i * s) ++ v ++ l.drop (i * s + s)).drop (i * s)).take s = v := by
  have h1 : (l.take (i * s)).length = i * s := by simp; omega
  rw [List.append_assoc, List.drop_append_of_le_length (by omega)]
  have h2 : (l.take (i * s)).drop (i * s) = [] := List.drop_eq_nil_of_le (by omega)
  rw [h2, List.nil_append, List.take_append_of_le_length (by omega)]
  rw [← hv, List.take_length]

theorem litRows_sound {e : Sh} : ∀ {l : List (Nat × AV)} {vs : List (Nat × Value)} {i : Nat} {ts : List e.T} {cs : Array Value}, litRows e i l = some ts → VRP E l vs →
    (i + l.length) * e.size ≤ cs.size → ∃ cs', Instr.fill (fun i => some (i * e.size, e.size)) cs vs = some cs' ∧ cs'.size = cs.size ∧
      (∀ j, j < i → (cs'.toList.drop (j * e.size)).take e.size = (cs.toList.drop (j * e.size)).take e.size) ∧
      ts.length = l.length ∧ ∀ j (h : j < ts.length), LRs E.w E.ok e (ts[j]'h) ((cs'.toList.drop ((i + j) * e.size)).take e.size)
  | [], vs, i, ts, cs, h, hv, hle => by
    simp only [VRP] at hv
    simp only [litRows, Option.some.injEq] at h
    subst hv; subst h
    exact ⟨cs, by simp [Instr.fill], rfl, fun _ _ => rfl, rfl, fun j hj => by simp at hj⟩
  | (k, x) :: l, vs, i, ts, cs, h, hv, hle => by
    simp only [VRP] at hv
    obtain ⟨v, r, rfl, hv1, hr⟩ := hv
    unfold litRows at h
    split at h
    · rename_i cs1 hb hcs1
      have hik := beq_true hb
      subst hik
      split at h
      · rename_i t hdec
        split at h
        · rename_i ts' hts
          simp only [Option.some.injEq] at h
          subst h
          obtain ⟨g1, g2, g3⟩ := cellsA_sound hcs1 hv1
          have hl := decS_all hdec g1
          have hsz : v.cells.size = e.size := by have := LRs.length e _ _ hl; simpa using this
          simp only [List.length_cons] at hle
          have hle1 : i * e.size + e.size ≤ cs.size := by
            have := Nat.mul_le_mul_right e.size (show i + 1 ≤ i + (l.length + 1) by omega)
            rw [Nat.add_mul i 1] at this; omega
          have heq := laid_eq (i * e.size) v cs (by rw [hsz]; exact hle1)
          rw [hsz] at heq
          have hsz1 : (v.cells.zipIdx.foldl (fun cs (p : Value × Nat) => cs.setIfInBounds (i * e.size + p.2) p.1) cs).size = cs.size := by
            rw [← Array.length_toList, heq]
            simp [hsz]
            omega
          obtain ⟨cs', f1, f2, f3, f4, f5⟩ := litRows_sound (i := i + 1) (cs := v.cells.zipIdx.foldl (fun cs (p : Value × Nat) => cs.setIfInBounds (i * e.size + p.2) p.1) cs) hts hr
            (by rw [hsz1, show i + 1 + l.length = i + (l.length + 1) by omega]; exact hle)
          have hvl : v.cells.toList.length = e.size := by simpa using hsz
          refine ⟨cs', ?_, f2.trans hsz1, ?_, by simp [f4], ?_⟩
          · simp only [Instr.fill]
            rw [if_neg (by simp [hsz]; omega)]
            exact f1
          · intro j hj
            rw [f3 j (by omega), heq]
            exact chunk_keep hvl (by simpa using hle1) hj
          · intro j hj
            cases j with
            | zero =>
              simp only [Nat.add_zero, List.getElem_cons_zero]
              rw [f3 i (by omega), heq, chunk_at hvl (by simpa using hle1)]
              exact hl
            | succ j =>
              simp only [List.getElem_cons_succ]
              have := f5 j (by simpa using hj)
              rwa [show i + 1 + j = i + (j + 1) by omega] at this
        · simp at h
      · simp at h
    · simp at h

theorem shE_size {P : Program} {t : TypeId} {e : Sh} (h : shE P t = some e) : sizeT P t = some e.size ∧ shT P 16 t = some e := by
  unfold shE at h
  split at h
  · rename_i e' s h1 h2
    split at h
    · rename_i hb
      simp only [Option.some.injEq] at h
      subst h
      rw [h2, beq_true hb]
      exact ⟨rfl, h1⟩
    · simp at h
  · simp at h

theorem opBuildSlice_sound {P : Program} (hs : SimE W0 okIn B us tm ob nt E a) {nm : Nat} (hnm : ¬ us nm) {T el : TypeId} {e : Sh} {n : Nat} {l : List (Nat × AV)} {vs : List (Nat × Value)} {ts : List e.T} {z : List AV}
    (hT : P.underlying T = some (.slice el)) (he : shE P el = some e) (hz : zeroT P el = some z) (hn : l.length = n) (hc : n * e.size ≤ 16777216) (h : litRows e 0 l = some ts) (hv : VRP E l vs) :
    ∃ E' y, (Instr.buildSlice T n vs.toArray).run P E.w = .ok y E'.w ∧ Evo W0 okIn B us (usn us nm) E E' [(nm, some (.rows e ts))] ∧ VR E' (.own nm e) y := by
  obtain ⟨zv, hzr, _⟩ := zeroT_run hz E.w
  have hsz := run_sizeT E.w (shE_size he).1
  obtain ⟨zero, hzero⟩ : ∃ zero : Array Value, zero = if n * e.size = 0 then #[] else zv.cells := ⟨_, rfl⟩
  obtain ⟨cs', f1, f2, f3, f4, f5⟩ := litRows_sound (cs := (Array.range (n * e.size)).map (zero[· % zero.size]!)) h hv (by simp [hn])
  have hcs : cs'.size = n * e.size := by simp [f2]
  obtain ⟨E', hE, hev, hvr⟩ := evo_rows hs.env hs.lo hnm (xs := ts) (T := el) (fr := (0, 0)) (cap := n) (push_ext E.w (.cells cs' el)) (push_last _ _) (by simp) rfl rfl rfl (fun i _ => by omega) hcs (by omega)
    (fun j hj => by simpa using f5 j hj)
  refine ⟨E', _, ?_, hev, by rw [f4, hn] at hvr; exact hvr⟩
  rw [hE]
  simp only [Instr.buildSlice, Sem.run_bind, run_underlying hT, Result.andThen_ok, hsz]
  rw [if_neg (by omega)]
  by_cases h0 : n * e.size = 0
  · rw [if_pos h0] at hzero
    subst hzero
    rw [if_pos h0]
    simp only [Sem.run_bind, Sem.run_pure, Result.andThen_ok, f1, newRow, run_newObj]
  · rw [if_neg h0] at hzero
    subst hzero
    rw [if_neg h0]
    simp only [Sem.run_bind, hzr, Sem.run_pure, Result.andThen_ok, f1, newRow, run_newObj]

end
end Go.Tr
