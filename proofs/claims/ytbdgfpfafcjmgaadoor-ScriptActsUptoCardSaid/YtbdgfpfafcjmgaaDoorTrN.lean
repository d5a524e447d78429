/- Made slices, choices, the greatest and least, arrays out of slices.
   Conditions: none. -/
import Derived.Test.YtbdgfpfafcjmgaaDoorTrM
namespace Go.Tr
open Go
set_option linter.unusedVariables false
set_option linter.unusedSimpArgs false

section
variable {W0 : WX} {okIn B us : Nat → Prop} {tm : Nat → Option AV} {ob : Nat → Option AO} {nt : Nat} {E : Env} {a : Act}

theorem wrap64_of {n : Int} (h0 : -9223372036854775808 ≤ n) (h : n < 9223372036854775808) : IntKind.i64.wrap n = n := by
  simp only [IntKind.wrap, IntKind.bits, IntKind.signed]
  simp only [Bool.true_and]
  split <;> rename_i hh <;> simp at hh <;> omega

theorem repeat_chunk {z : Array Value} {s N i : Nat} (hz : z.size = s) (h : (i + 1) * s ≤ N) : ((((Array.range N).map (z[· % z.size]!)).toList.drop (i * s)).take s) = z.toList := by
  apply List.ext_getElem?
  intro j
  simp only [List.getElem?_take, List.getElem?_drop]
  rw [Nat.add_mul] at h
  by_cases hj : j < s
  · rw [if_pos hj]
    have hlt : i * s + j < N := by omega
    have hmod : (i * s + j) % s = j := by rw [Nat.add_comm, Nat.mul_comm, Nat.add_mul_mod_self_left, Nat.mod_eq_of_lt hj]
    simp [hlt, hz, hmod, hj]
  · rw [if_neg hj]
    rw [List.getElem?_eq_none (by simp; omega)]

theorem opMakeSlice_sound {P : Program} (hs : SimE W0 okIn B us tm ob nt E a) {nm : Nat} (hnm : ¬ us nm) {T el : TypeId} {e : Sh} {z : List AV} {t : e.T} {k k' : IntKind} {n m : Int} (hT : P.underlying T = some (.slice el)) (he : shE P el = some e) (hz : zeroT P el = some z)
    (hd : decS e z = some (t, [])) (h : 0 ≤ n ∧ n ≤ m ∧ m < 9223372036854775808 ∧ roomy P el m.toNat) :
    ∃ E' y, (Instr.makeSlice T (.int k n) (.int k' m)).run P E.w = .ok y E'.w ∧ Evo W0 okIn B us (usn us nm) E E' [(nm, some (.rows e (List.replicate n.toNat t)))] ∧ VR E' (.own nm e) y := by
  obtain ⟨h1, h2, h3, h4⟩ := h
  obtain ⟨zv, hzr, rfl⟩ := zeroT_run hz E.w
  have hl := decS_all hd (cvals_sound E zv.cells.toList)
  have hzs : zv.cells.size = e.size := by have := LRs.length e _ _ hl; simpa using this
  obtain ⟨i, hi, hisz⟩ := sizeT_info (shE_size he).1
  obtain ⟨r1, r2⟩ := roomy_info hi h4
  obtain ⟨zero, hzero⟩ : ∃ zero : Array Value, zero = if m.toNat * e.size = 0 then #[] else zv.cells := ⟨_, rfl⟩
  have hm : (m.toNat : Int) = m := by omega
  have hbig : ¬ ((i.bytes : Int) * m > 281474976710656) := by
    rw [← hm]
    have : ((i.bytes : Int) * (m.toNat : Int)) = ((m.toNat * i.bytes : Nat) : Int) := by rw [Int.natCast_mul, Int.mul_comm]
    rw [this]; omega
  have hwm : IntKind.i64.wrap m = m := wrap64_of (by omega) h3
  have hwn : IntKind.i64.wrap n = n := wrap64_of (by omega) (by omega)
  obtain ⟨E', hE, hev, hvr⟩ := evo_rows hs.env hs.lo hnm (e := e) (xs := List.replicate n.toNat t) (T := el) (fr := (0, 0)) (cap := m.toNat) (push_ext E.w (.cells ((Array.range (m.toNat * e.size)).map (zero[· % zero.size]!)) el)) (push_last _ _) (by simp) rfl rfl rfl (fun i _ => by omega) (by simp) (by simp; omega)
    (fun j hj => by
      have hj' : j < n.toNat := by simpa using hj
      have hmul := Nat.mul_le_mul_right e.size (show j + 1 ≤ m.toNat by omega)
      simp only [List.getElem_replicate]
      by_cases h0 : e.size = 0
      · have hnil : zv.cells.toList = [] := by apply List.eq_nil_of_length_eq_zero; simp [hzs, h0]
        rw [hnil] at hl
        simpa [h0] using hl
      · have hne : m.toNat * e.size ≠ 0 := by
          have : 0 < (j + 1) * e.size := Nat.mul_pos (by omega) (by omega)
          omega
        rw [hzero, if_neg hne, repeat_chunk hzs hmul]
        exact hl)
  refine ⟨E', _, ?_, hev, by simpa using hvr⟩
  rw [hE]
  have hti : (typeInfo el).run P E.w = .ok i E.w := by simp [typeInfo, hi]
  have hsz := run_sizeT E.w (shE_size he).1
  simp only [Instr.makeSlice, Sem.run_bind, run_underlying hT, Result.andThen_ok, asInt, asIntOf, Sem.run_pure, hti, hwm, hwn]
  have hc : (((decide (m < 0) || decide ((i.bytes : Int) * m > 2 ^ 48)) || decide (n < 0)) || decide (n > m)) = false := by
    have e1 : decide (m < 0) = false := decide_eq_false (by omega)
    have e2 : decide ((i.bytes : Int) * m > 2 ^ 48) = false := decide_eq_false (by simpa using hbig)
    have e3 : decide (n < 0) = false := decide_eq_false (by omega)
    have e4 : decide (n > m) = false := decide_eq_false (by omega)
    rw [e1, e2, e3, e4]; rfl
  rw [if_neg (by rw [hc]; simp)]
  simp only [Sem.run_bind, run_askRoom, Result.andThen_ok, hsz]
  by_cases h0 : m.toNat * e.size = 0
  · rw [if_pos h0] at hzero
    subst hzero
    rw [if_pos h0]
    simp only [Sem.run_bind, Sem.run_pure, Result.andThen_ok, newRow, run_newObj, List.length_replicate]
  · rw [if_neg h0] at hzero
    subst hzero
    rw [if_neg h0]
    simp only [Sem.run_bind, hzr, Sem.run_pure, Result.andThen_ok, newRow, run_newObj, List.length_replicate]

/-! ### choices -/

theorem strip_sound {t want : Bool} {v v' : AV} {q : List Prop} {x : Value} (h : pickA.strip t want v = (q, v')) (hq : ∀ p ∈ q, p) (ht : t = want) (hx : VR E v x) : VR E v' x := by
  unfold pickA.strip at h
  split at h
  · simp only [Prod.mk.injEq] at h
    obtain ⟨rfl, rfl⟩ := h
    simp only [VR] at hx
    exact hx.1 (hq _ (List.Mem.head _) ht)
  · simp only [Prod.mk.injEq] at h
    obtain ⟨rfl, rfl⟩ := h
    exact hx

theorem pickA_sound {ca cb : Operand} {t : Bool} {x y r : AV} {u v : Value} {q : List Prop} (h : pickA ca cb t x y = some (q, r)) (hq : ∀ p ∈ q, p) (hx : VR E x u) (hy : VR E y v)
    (hca : ∀ c, ca = .const c → x = cval c) (hcb : ∀ c, cb = .const c → y = cval c) :
    VR E r (if t then u else v) ∧ ∀ p, r.nm p := by
  unfold pickA at h
  generalize hsa : pickA.strip t true x = sa at h
  generalize hsb : pickA.strip t false y = sb at h
  obtain ⟨pa, x'⟩ := sa
  obtain ⟨pb, y'⟩ := sb
  simp only at h
  split at h
  · rename_i x0 y0
    have ex : (∀ p ∈ pa, p) → t = true → u = .bool x0 := fun hp ht => by have := strip_sound hsa hp ht hx; simpa only [VR] using this
    have ey : (∀ p ∈ pb, p) → t = false → v = .bool y0 := fun hp ht => by have := strip_sound hsb hp ht hy; simpa only [VR] using this
    -- a constant is not bound to a guard
    have noguard : ∀ c, pickA.strip t true (cval c) = ([], cval c) := by
      intro c; unfold cval; split <;> rfl
    have noguard' : ∀ c, pickA.strip t false (cval c) = ([], cval c) := by
      intro c; unfold cval; split <;> rfl
    split at h
    · rename_i c
      have hpa : pa = [] := by
        have := hca c rfl
        rw [this, noguard] at hsa
        exact (Prod.mk.inj hsa).1.symm
      split at h
      · simp only [Option.some.injEq, Prod.mk.injEq] at h
        obtain ⟨rfl, rfl⟩ := h
        refine ⟨?_, by simp [AV.nm]⟩
        cases t
        · simp only [Bool.false_eq_true, if_false, Bool.false_or, VR]; exact ey hq rfl
        · simp only [if_true, Bool.true_or, VR]; exact ex (by simp [hpa]) rfl
      · simp only [Option.some.injEq, Prod.mk.injEq] at h
        obtain ⟨rfl, rfl⟩ := h
        refine ⟨?_, by simp [AV.nm]⟩
        cases t
        · simp only [Bool.false_eq_true, if_false, Bool.not_false, Bool.true_and, VR]; exact ey hq rfl
        · simp only [if_true, Bool.not_true, Bool.false_and, VR]; exact ex (by simp [hpa]) rfl
    · rename_i c hne
      have hpb : pb = [] := by
        have := hcb c rfl
        rw [this, noguard'] at hsb
        exact (Prod.mk.inj hsb).1.symm
      split at h
      · simp only [Option.some.injEq, Prod.mk.injEq] at h
        obtain ⟨rfl, rfl⟩ := h
        refine ⟨?_, by simp [AV.nm]⟩
        cases t
        · simp only [Bool.false_eq_true, if_false, Bool.false_and, VR]; exact ey (by simp [hpb]) rfl
        · simp only [if_true, Bool.true_and, VR]; exact ex hq rfl
      · simp only [Option.some.injEq, Prod.mk.injEq] at h
        obtain ⟨rfl, rfl⟩ := h
        refine ⟨?_, by simp [AV.nm]⟩
        cases t
        · simp only [Bool.false_eq_true, if_false, Bool.not_false, Bool.true_or, VR]; exact ey (by simp [hpb]) rfl
        · simp only [if_true, Bool.not_true, Bool.false_or, VR]; exact ex hq rfl
    · simp only [Option.some.injEq, Prod.mk.injEq] at h
      obtain ⟨rfl, rfl⟩ := h
      refine ⟨?_, by simp [AV.nm]⟩
      cases t
      · simp only [Bool.false_eq_true, if_false, cond_false, VR]; exact ey (fun p hp => hq p (mem_appA.2 (.inr hp))) rfl
      · simp only [if_true, cond_true, VR]; exact ex (fun p hp => hq p (mem_appA.2 (.inl hp))) rfl
  · simp at h

theorem max_sound {P : Program} (w : World) : ∀ {l : List AV} {v r : AV} {u : Value} {vs : List Value}, minmaxA true v l = some r → VR E v u → VRL E l vs →
    ∃ z, (vs.foldlM Builtin.max2 u : Sem Value).run P w = .ok z w ∧ VR E r z ∧ ((∀ p, v.nm p) → ∀ p, r.nm p)
  | [], v, r, u, vs, h, hu, hv => by
    simp only [VRL] at hv
    subst hv
    have : some v = some r := by cases v <;> simpa [minmaxA] using h
    simp only [Option.some.injEq] at this
    subst this
    exact ⟨u, by simp, hu, fun hp => hp⟩
  | x :: l, v, r, u, vs, h, hu, hv => by
    simp only [VRL] at hv
    obtain ⟨y, ys, rfl, hy, hys⟩ := hv
    cases v <;> cases x <;> simp only [minmaxA, reduceCtorEq] at h
    simp only [VR] at hu hy
    subst hu; subst hy
    obtain ⟨z, h1, h2, h3⟩ := max_sound w h VR.int hys
    refine ⟨z, ?_, h2, fun _ => h3 (by simp [AV.nm])⟩
    simp only [List.foldlM_cons, Sem.run_bind, Builtin.max2, Sem.run_pure, Result.andThen_ok]
    exact h1

theorem min_sound {P : Program} (w : World) : ∀ {l : List AV} {v r : AV} {u : Value} {vs : List Value}, minmaxA false v l = some r → VR E v u → VRL E l vs →
    ∃ z, (vs.foldlM Builtin.min2 u : Sem Value).run P w = .ok z w ∧ VR E r z ∧ ((∀ p, v.nm p) → ∀ p, r.nm p)
  | [], v, r, u, vs, h, hu, hv => by
    simp only [VRL] at hv
    subst hv
    have : some v = some r := by cases v <;> simpa [minmaxA] using h
    simp only [Option.some.injEq] at this
    subst this
    exact ⟨u, by simp, hu, fun hp => hp⟩
  | x :: l, v, r, u, vs, h, hu, hv => by
    simp only [VRL] at hv
    obtain ⟨y, ys, rfl, hy, hys⟩ := hv
    cases v <;> cases x <;> simp only [minmaxA, reduceCtorEq] at h
    simp only [VR] at hu hy
    subst hu; subst hy
    obtain ⟨z, h1, h2, h3⟩ := min_sound w h VR.int hys
    refine ⟨z, ?_, h2, fun _ => h3 (by simp [AV.nm])⟩
    simp only [List.foldlM_cons, Sem.run_bind, Builtin.min2, Sem.run_pure, Result.andThen_ok]
    exact h1

/-! ### arrays out of slices -/

theorem arrV_sound {w : World} {ok : Nat → Prop} {e : Sh} {xs : List e.T} {b o : Nat} (hx : ∀ i (h : i < xs.length), ∃ cs, cs.length = e.size ∧ Row w b (o + i * e.size) cs ∧ LRs w ok e (xs[i]'h) cs) :
    ∀ (n i : Nat) (s : Sh) (t : s.T), arrV e xs n i s = some t → i + n ≤ xs.length → ∃ cs, cs.length = s.size ∧ s.size = n * e.size ∧ Row w b (o + i * e.size) cs ∧ LRs w ok s t cs
  | 0, i, s, t, h, _ => by simp [arrV] at h
  | 1, i, s, t, h, hle => by
    simp only [arrV] at h
    split at h
    · rename_i he
      subst he
      simp only [Option.some.injEq] at h
      subst h
      have hi : i < xs.length := by omega
      obtain ⟨cs, h1, h2, h3⟩ := hx i hi
      rw [getD_eq hi]
      exact ⟨cs, h1, by omega, h2, h3⟩
    · simp at h
  | n + 2, i, s, t, h, hle => by
    cases s with
    | pair p q =>
      simp only [arrV] at h
      split at h
      · rename_i he
        subst he
        split at h
        · rename_i r hr
          simp only [Option.some.injEq] at h
          subst h
          have hi : i < xs.length := by omega
          obtain ⟨c1, h1, h2, h3⟩ := hx i hi
          obtain ⟨c2, g1, g2, g3, g4⟩ := arrV_sound hx (n + 1) (i + 1) q r hr (by omega)
          refine ⟨c1 ++ c2, by simp [Sh.size, h1, g1], by simp [Sh.size, g2, Nat.add_mul]; omega, h2.append ?_, ?_⟩
          · rw [h1]
            rwa [show o + (i + 1) * e.size = o + i * e.size + e.size by rw [Nat.add_mul]; omega] at g3
          · simp only [LRs]
            exact ⟨c1, c2, rfl, by rw [getD_eq hi]; exact h3, g4⟩
        · simp at h
      · simp at h
    | _ => simp [arrV] at h

end
end Go.Tr
