/- A prefix that is swept alone: its ticks. A prefix that is swept alone asks each address in time. A prefix that is swept alone asks each address in time: the law. Conditions: none but those that each theorem states. -/
import Derived.Test.YtdbpknejbpiebaaSweepT
namespace Go.Tr
open Go
set_option linter.unusedVariables false
set_option linter.unusedSimpArgs false
set_option maxRecDepth 100000
set_option maxHeartbeats 4000000

/-- A tick's plan of one prefix. -/
theorem plan_one {s : TSweep} (h : swR s) (c : TCfg) (now room : Int) :
    sweep_Plan c [s] now room = some (if s.2.1 ≤ now then (askL s (askN room s []), [nextS c.2.2.2.1 s (askN room s [])], ()) else ([], [s], ())) := by
  have hR : RowR [s] := ⟨by simp, by simpa using h, by simp⟩
  obtain ⟨D, d1, _, d2, _⟩ := Plan_R hR c now room
  have hd : dueL [s] now 1 = if s.2.1 ≤ now then [0] else [] := by
    have := dueL_succ [s] now 0
    rw [this]
    show (dueL [s] now 0) ++ (if s.2.1 ≤ now then [((0 : Nat) : Int)] else []) = _
    simp [dueL]
  rw [show ([s] : List TSweep).length = 1 from rfl, hd] at d1
  rw [d2]
  by_cases hc : s.2.1 ≤ now
  · rw [if_pos hc] at d1 ⊢
    have : D = [0] := List.perm_singleton.1 d1
    subst this
    simp [stepS]
  · rw [if_neg hc] at d1 ⊢
    have : D = [] := List.perm_nil.1 d1
    subst this
    simp

def setN (l : List Int) (p : Nat) (v : Int) (k : Nat) : List Int := (List.range k).foldl (fun l i => l.set (p + i) v) l
theorem setN_succ (l : List Int) (p : Nat) (v : Int) (k : Nat) : setN l p v (k + 1) = (setN l p v k).set (p + k) v := by
  unfold setN; rw [List.range_succ, List.foldl_append]; rfl
theorem setN_len (l : List Int) (p : Nat) (v : Int) (k : Nat) : (setN l p v k).length = l.length := by
  induction k with
  | zero => rfl
  | succ k ih => rw [setN_succ, List.length_set, ih]
theorem setN_get (l : List Int) (p : Nat) (v : Int) (k j : Nat) (hj : j < l.length) : (setN l p v k).getD j 0 = if p ≤ j ∧ j < p + k then v else l.getD j 0 := by
  induction k with
  | zero => rw [if_neg (by omega)]; rfl
  | succ k ih =>
    rw [setN_succ, List.getD_eq_getElem?_getD, List.getElem?_set]
    have hl := setN_len l p v k
    by_cases h : p + k = j
    · rw [if_pos h, if_pos (by omega), if_pos (by omega)]; rfl
    · rw [if_neg h, ← List.getD_eq_getElem?_getD, ih]
      by_cases h2 : p ≤ j ∧ j < p + k
      · rw [if_pos h2, if_pos (by omega)]
      · rw [if_neg h2, if_neg (by omega)]

theorem each_inner (r size start end' now b0 b1 c0 c1 c2 c3 c4 c5 c6 c7 c8 : Int) (ss : List TSweep) (last : List Int) (p m : Nat) (hsz : size = (last.length : Int)) (h64 : last.length ≤ 1000) (hpm : p + m ≤ last.length) (hb : 0 ≤ b0 ∧ b0 < 4294967296) (l : List Int) (hl : l = (List.range m).map (fun i : Nat => b0 + (p : Int) + (i : Int))) :
    terrierlaw14_SweepEach_l1 (r, size, start, end', now, l, l, (l.length : Int), 0, b0, b1, c0, c1, c2, c3, c4, c5, c6, c7, c8, ss, last, ()) = some (.inl (r, size, start, end', now, l, b0, b1, c0, c1, c2, c3, c4, c5, c6, c7, c8, ss, setN last p now m, ())) := by
  have hlen : l.length = m := by rw [hl]; simp
  unfold terrierlaw14_SweepEach_l1
  refine (loopM_steps (n := m) (fun k : Nat => (r, size, start, end', now, l, l, (l.length : Int), (k : Int), b0, b1, c0, c1, c2, c3, c4, c5, c6, c7, c8, ss, setN last p now k, ())) (Nat.zero_le m) fun k _ hk => ?_).trans ?_
  · show terrierlaw14_SweepEach_b1 r size start end' now l l (l.length : Int) (k : Int) b0 b1 c0 c1 c2 c3 c4 c5 c6 c7 c8 ss (setN last p now k) = _
    unfold terrierlaw14_SweepEach_b1
    have hg : l.getD ((k : Int)).toNat 0 = b0 + (p : Int) + (k : Int) := by
      rw [Int.toNat_natCast, hl, List.getD_eq_getElem?_getD, List.getElem?_map, List.getElem?_range hk]; rfl
    have hu : IntKind.u32.wrap (b0 + (p : Int) + (k : Int) - b0) = ((p + k : Nat) : Int) := by
      rw [IntKind.wrap_u32]; omega
    rw [decide_eq_true (by omega), cnd_true, chk_pos (by omega), hg]
    simp only [ltO_def, hu]
    rw [w64 (by omega) (by omega), chk_pos (by omega), w64 (by omega) (by omega)]
    have hm : (((p + k : Nat) : Int)).tmod size = ((p + k : Nat) : Int) := by
      rw [Int.tmod_eq_emod_of_nonneg (by omega), Int.emod_eq_of_lt (by omega) (by omega)]
    have hsl := setN_len last p now k
    rw [hm, chk_pos (by omega), chk_pos (by omega), setN_succ, Int.toNat_natCast]
    rfl
  · refine loopM_last ?_
    show terrierlaw14_SweepEach_b1 r size start end' now l l (l.length : Int) (m : Int) b0 b1 c0 c1 c2 c3 c4 c5 c6 c7 c8 ss (setN last p now m) = _
    unfold terrierlaw14_SweepEach_b1
    rw [decide_eq_false (by omega), cnd_false]

end Go.Tr
namespace Go.Tr
open Go
set_option linter.unusedVariables false
set_option linter.unusedSimpArgs false
set_option maxRecDepth 100000
set_option maxHeartbeats 4000000

structure EachC (b : Int × Int) (S r need E : Int) : Prop where
  b32 : in32 b.1
  rb : rB b = true
  sz : szB b = S
  s1 : 1 ≤ S
  s2 : S ≤ 256
  r1 : 1 ≤ r
  r2 : r ≤ 16
  ne : need = (S + r - 1) / r
  e1 : need ≤ E
  e2 : E ≤ 1000

def lowL (d i E r : Int) (k : Int) : Int := d + k / r - (if k / r < i then 0 else E)
structure EachI (b : Int × Int) (S r need E : Int) (now d i : Int) (ss : List TSweep) (last : List Int) : Prop where
  n : now = d + i
  i0 : 0 ≤ i
  i1 : i < E
  d1 : 1 ≤ d
  ss : ss = [(b, (if i < need then d else d + E), (if i < need then i * r else 0))]
  len : (last.length : Int) = S
  lo : ∀ k : Nat, (k : Int) < S → lowL d i E r (k : Int) ≤ last.getD k 0

theorem need_iff {S r i : Int} (h : 1 ≤ r) : i < (S + r - 1) / r ↔ i * r < S := by
  have : i + 1 ≤ (S + r - 1) / r ↔ (i + 1) * r ≤ S + r - 1 := Int.le_ediv_iff_mul_le (by omega)
  rw [Int.add_mul, Int.one_mul] at this
  omega

theorem each_tick {b : Int × Int} {S r need E : Int} (C : EachC b S r need E) {now d i : Int} {ss : List TSweep} {last : List Int} (I : EachI b S r need E now d i ss last) (hnow : now ≤ 100000) (start end' : Int) (c : TCfg) (hc : c.2.2.2.1 = E) :
    ∃ (l : List Int) (p m : Nat) (ss' : List TSweep), sweep_Plan c ss now r = some (l, ss', ()) ∧ l = (List.range m).map (fun i : Nat => b.1 + (p : Int) + (i : Int)) ∧ (p : Int) + (m : Int) ≤ S ∧ (m : Int) ≤ r ∧
      ∃ d' i', EachI b S r need E (now + 1) d' i' ss' (setN last p now m) := by
  obtain ⟨b32, rb, sz, s1, s2, r1, r2, ne, e1, e2⟩ := C
  obtain ⟨n, i0, i1, d1, hss, len, lo⟩ := I
  have hnd := fun j => need_iff (S := S) (r := r) (i := j) r1
  have hdiv : ∀ k j : Int, k / r < j ↔ k < j * r := fun k j => Int.ediv_lt_iff_lt_mul (by omega)
  have h0 : (0 : Int) < need := by rw [ne, hnd]; omega
  have hkn : ∀ k : Int, 0 ≤ k → k < S → 0 ≤ k / r ∧ k / r < need := fun k h1 h2 => by
    refine ⟨Int.ediv_nonneg h1 (by omega), ?_⟩
    have h3 : ¬ need * r < S := by rw [← hnd, ← ne]; omega
    rw [hdiv]; omega
  have hadd : ∀ t : Int, 1 ≤ t → t ≤ 100000 → addS t E = t + E := fun t h1 h2 => by
    unfold addS clampS
    rw [if_neg (by omega), if_neg (by omega), if_neg (by omega), if_neg (by omega)]
    omega
  subst hss
  by_cases hi : i < need
  · have hir : i * r < S := by rw [← hnd, ← ne]; exact hi
    have hir0 : 0 ≤ i * r := Int.mul_nonneg i0 (by omega)
    simp only [if_pos hi]
    have hR : swR (b, d, i * r) := ⟨b32, rb, by show szB b ≤ 256; omega, ⟨by show 0 ≤ d; omega, by show d ≤ _; omega⟩, ⟨hir0, by show i * r < szB b; omega⟩⟩
    have hm : ((askN r (b, d, i * r) [] : Nat) : Int) = min (S - i * r) r := by
      unfold askN
      show (((min (szB b - i * r) (r - ((0 : Nat) : Int))).toNat : Nat) : Int) = _
      rw [sz]; omega
    refine ⟨askL (b, d, i * r) (askN r (b, d, i * r) []), (i * r).toNat, askN r (b, d, i * r) [], [nextS E (b, d, i * r) (askN r (b, d, i * r) [])], ?_, ?_, by omega, by omega, ?_⟩
    · rw [plan_one hR, if_pos (by show d ≤ now; omega), hc]
    · unfold askL
      apply List.map_congr_left
      intro k _
      show b.1 + i * r + (k : Int) = _
      rw [Int.toNat_of_nonneg hir0]
    · have hnx : (i + 1) * r = i * r + r := by rw [Int.add_mul, Int.one_mul]
      have hstep := hnd (i + 1)
      rw [← ne, hnx] at hstep
      have hlo : ∀ (k : Nat), (k : Int) < S → (d + (k : Int) / r - (if (k : Int) / r < i + 1 then 0 else E)) ≤ (setN last (i * r).toNat now (askN r (b, d, i * r) [])).getD k 0 := fun k hk => by
        rw [setN_get _ _ _ _ _ (by omega)]
        have hl := lo k hk
        unfold lowL at hl
        have q1 := hdiv (k : Int) i
        have q2 := hdiv (k : Int) (i + 1)
        rw [hnx] at q2
        by_cases hin : (i * r).toNat ≤ k ∧ k < (i * r).toNat + askN r (b, d, i * r) []
        · rw [if_pos hin]
          have : (k : Int) / r < i + 1 := q2.2 (by omega)
          rw [if_pos this]; omega
        · rw [if_neg hin]
          by_cases hlt : (k : Int) / r < i
          · rw [if_pos hlt] at hl
            rw [if_pos (by omega)]; exact hl
          · rw [if_neg hlt] at hl
            have hge : i * r ≤ (k : Int) := by
              have := mt q1.2 hlt
              omega
            rw [if_neg (by
              intro h
              have := q2.1 h
              omega)]
            exact hl
      have hsn : nextS E (b, d, i * r) (askN r (b, d, i * r) []) = (b, (if i + 1 < need then d else d + E), (if i + 1 < need then i * r + r else 0)) := by
        unfold nextS
        show (if szB b ≤ i * r + _ then _ else _) = _
        rw [sz]
        by_cases hn2 : i + 1 < need
        · have := hstep.1 hn2
          rw [if_neg (by omega), if_pos hn2, if_pos hn2]
          show (b, d, i * r + _) = _
          rw [hm]
          congr 2
          omega
        · have := mt hstep.2 hn2
          rw [if_pos (by omega), if_neg hn2, if_neg hn2]
          show (b, addS d E, (0 : Int)) = _
          rw [hadd d d1 (by omega)]
      rw [hsn]
      by_cases hE : i + 1 = E
      · refine ⟨d + E, 0, by omega, by omega, by omega, by omega, ?_, by rw [setN_len]; exact len, fun k hk => ?_⟩
        · rw [if_neg (by omega), if_neg (by omega), if_pos h0, if_pos h0, Int.zero_mul]
        · have := hlo k hk
          have hb := hkn (k : Int) (by omega) hk
          unfold lowL
          rw [if_neg (by omega)]
          rw [if_pos (by omega)] at this
          omega
      · refine ⟨d, i + 1, by omega, by omega, by omega, by omega, ?_, by rw [setN_len]; exact len, fun k hk => by unfold lowL; exact hlo k hk⟩
        rw [hnx]
  · simp only [if_neg hi]
    have hR : swR (b, d + E, 0) := ⟨b32, rb, by show szB b ≤ 256; omega, ⟨by show 0 ≤ d + E; omega, by show d + E ≤ _; omega⟩, ⟨Int.le_refl 0, by show 0 < szB b; omega⟩⟩
    refine ⟨[], 0, 0, [(b, d + E, 0)], ?_, by simp, by simp; omega, by simp; omega, ?_⟩
    · rw [plan_one hR, if_neg (by show ¬ d + E ≤ now; omega)]
    · have e0 : setN last 0 now 0 = last := rfl
      rw [e0]
      by_cases hE : i + 1 = E
      · refine ⟨d + E, 0, by omega, by omega, by omega, by omega, by rw [if_pos h0, if_pos h0, Int.zero_mul], len, fun k hk => ?_⟩
        have hl := lo k hk
        have hb := hkn (k : Int) (by omega) hk
        unfold lowL at hl ⊢
        rw [if_pos (by omega)] at hl
        rw [if_neg (by omega)]
        omega
      · refine ⟨d, i + 1, by omega, by omega, by omega, by omega, by rw [if_neg (by omega), if_neg (by omega)], len, fun k hk => ?_⟩
        have hl := lo k hk
        have hb := hkn (k : Int) (by omega) hk
        unfold lowL at hl ⊢
        rw [if_pos (by omega)] at hl
        rw [if_pos (by omega)]
        exact hl

end Go.Tr
namespace Go.Tr
open Go
set_option linter.unusedVariables false
set_option linter.unusedSimpArgs false
set_option maxRecDepth 100000
set_option maxHeartbeats 4000000

theorem each_loop {b : Int × Int} {S r need E : Int} (C : EachC b S r need E) (start end' : Int) (he : end' ≤ 50000) : ∀ (n : Nat) (now d i : Int) (ss : List TSweep) (last : List Int), now + (n : Int) = end' → EachI b S r need E now d i ss last →
    ∃ d' i' ss' last', EachI b S r need E end' d' i' ss' last' ∧ terrierlaw14_SweepEach_l0 (r, S, start, end', now, b.1, b.2, 0, 0, 0, E, 0, 0, 0, 0, 0, ss, last, ()) = some (.inl (start, last', ())) := by
  intro n
  induction n with
  | zero =>
    intro now d i ss last hn I
    have : now = end' := by omega
    subst this
    refine ⟨d, i, ss, last, I, ?_⟩
    unfold terrierlaw14_SweepEach_l0
    refine loopM_last ?_
    show terrierlaw14_SweepEach_b0 r S start now now b.1 b.2 0 0 0 E 0 0 0 0 0 ss last = _
    unfold terrierlaw14_SweepEach_b0
    rw [decide_eq_false (by omega), cnd_false]
  | succ n ih =>
    intro now d i ss last hn I
    have hnn : now + 1 + (n : Int) = end' := by omega
    obtain ⟨l, p, m, ss', t1, t2, t3, t4, d', i', I'⟩ := each_tick C I (by omega) start end' (0, 0, 0, E, 0, 0, 0, 0, 0) rfl
    have hlen := I.len
    have hs2 := C.s2
    have hb : terrierlaw14_SweepEach_b0 r S start end' now b.1 b.2 0 0 0 E 0 0 0 0 0 ss last = some (.inl (r, S, start, end', now + 1, b.1, b.2, 0, 0, 0, E, 0, 0, 0, 0, 0, ss', setN last p now m, ())) := by
      have hd1 := I.d1
      have hi0 := I.i0
      have hnw := I.n
      unfold terrierlaw14_SweepEach_b0
      rw [decide_eq_true (by omega), cnd_true, t1]
      simp only [bnd_val]
      rw [each_inner r S start end' now b.1 b.2 0 0 0 E 0 0 0 0 0 ss' last p m hlen.symm (by omega) (by omega) C.b32 l t2]
      have hl : l.length = m := by rw [t2]; simp
      simp only [bnd_val, sumO_inl, ltO_def]
      rw [decide_eq_false (by omega), cnd_false, w64 (by omega) (by omega)]
    obtain ⟨d2, i2, ss2, last2, I2, h2⟩ := ih (now + 1) d' i' ss' (setN last p now m) hnn I'
    refine ⟨d2, i2, ss2, last2, I2, ?_⟩
    unfold terrierlaw14_SweepEach_l0 at h2 ⊢
    rw [loopM_next hb]
    exact h2

theorem each_check (start : Int) (last : List Int) (hl : last.length ≤ 1000) (h : ∀ k : Nat, k < last.length → start ≤ last.getD k 0) : terrierlaw14_SweepEach_l2 (start, (last.length : Int), 0, last, ()) = some (.inl ()) := by
  unfold terrierlaw14_SweepEach_l2
  refine (loopM_steps (n := last.length) (fun k : Nat => (start, (last.length : Int), (k : Int), last, ())) (Nat.zero_le _) fun k _ hk => ?_).trans ?_
  · show terrierlaw14_SweepEach_b2 start (last.length : Int) (k : Int) last = _
    unfold terrierlaw14_SweepEach_b2
    have := h k hk
    rw [decide_eq_true (by omega), cnd_true, chk_pos (by omega), chk_pos (by omega), Int.toNat_natCast, decide_eq_false (by omega), cnd_false]
    simp only [ltO_def]
    rw [w64 (by omega) (by omega)]
    rfl
  · refine loopM_last ?_
    show terrierlaw14_SweepEach_b2 start (last.length : Int) (last.length : Int) last = _
    unfold terrierlaw14_SweepEach_b2
    rw [decide_eq_false (by omega), cnd_false]

theorem sweepEach_law {base bits rate every from' : Int} (h1 : 0 ≤ base ∧ base < 65536) (h2 : 0 ≤ bits ∧ bits < 256) (h3 : 0 ≤ rate ∧ rate < 256) (h4 : 0 ≤ every ∧ every < 256) (h5 : 0 ≤ from' ∧ from' < 65536) :
    terrierlaw14_SweepEach base bits rate every from' = some (true, ()) := by
  unfold terrierlaw14_SweepEach
  rw [sawake_eq]
  simp only [bnd_val, Bool.not_true, cnd_false, ltO_def]
  have hb : IntKind.u8.wrap (6 + bits.tmod 7) = 6 + bits % 7 := by
    rw [Int.tmod_eq_emod_of_nonneg h2.1, IntKind.wrap_u8]; omega
  rw [chk_pos (by decide), hb, Block_eq (u32_in _) (by omega)]
  have hB := bB_ok (a := IntKind.u32.wrap (167772160 + IntKind.u32.wrap base)) (bits := 6 + bits % 7) (u32_in _) (by omega)
  have hb2 : (bB (IntKind.u32.wrap (167772160 + IntKind.u32.wrap base)) (6 + bits % 7)).2 = 20 + (6 + bits % 7) % 13 := rfl
  generalize bB (IntKind.u32.wrap (167772160 + IntKind.u32.wrap base)) (6 + bits % 7) = b at hB hb2 ⊢
  have hr : IntKind.i64.wrap (rate.tmod 16) = rate % 16 := by
    rw [Int.tmod_eq_emod_of_nonneg h3.1, w64 (by omega) (by omega)]
  have hr2 : IntKind.i64.wrap (1 + rate % 16) = 1 + rate % 16 := w64 (by omega) (by omega)
  simp only [bnd_val]
  rw [chk_pos (by decide), hr, hr2, Size_eq hB.i]
  have hS : szB b = Wd b.2 := by unfold szB; rw [if_pos hB.r]
  have hbo := (rB_bo hB.r).1
  have h256 := (Wd_24 hbo).2 (by omega)
  have hw := hB.w
  rw [hS]
  generalize hSe : Wd b.2 = S at hS h256 hw ⊢
  generalize hre : 1 + rate % 16 = r
  have hrr : 1 ≤ r ∧ r ≤ 16 := by omega
  simp only [bnd_val]
  have w1 : IntKind.i64.wrap (IntKind.i64.wrap (S + r) - 1) = S + r - 1 := by
    rw [w64 (n := S + r) (by omega) (by omega), w64 (by omega) (by omega)]
  have hq : 0 ≤ (S + r - 1) / r ∧ (S + r - 1) / r ≤ 300 := ⟨Int.ediv_nonneg (by omega) (by omega), by
    have := Int.ediv_le_self r (a := S + r - 1) (by omega)
    omega⟩
  have w2 : IntKind.i64.wrap ((S + r - 1).tdiv r) = (S + r - 1) / r := by
    rw [Int.tdiv_eq_ediv_of_nonneg (by omega), w64 (by omega) (by omega)]
  rw [w1, chk_pos (by omega), w2, chk_pos (by decide)]
  generalize hne : (S + r - 1) / r = need at hq ⊢
  have w3 : IntKind.i64.wrap (every.tmod 30) = every % 30 := by
    rw [Int.tmod_eq_emod_of_nonneg h4.1, w64 (by omega) (by omega)]
  rw [w3, w64 (n := need + every % 30) (by omega) (by omega)]
  generalize hEe : need + every % 30 = E
  have hp0 : putE [] b = 0 := by
    unfold putE
    rw [hB.r, hS]
    simp
    omega
  rcases Put_eq RowR_nil hB.i 1 with ⟨h, _⟩ | ⟨_, l, p1, p2, p3, _⟩
  · exact absurd hp0 h
  have hl : l = [newS b 1] := List.perm_singleton.1 (by simpa using p2)
  subst hl
  rw [p1]
  simp only [bnd_val]
  rw [show ((0 : Int) != 0) = false from rfl, cnd_false, chk_pos ⟨by omega, by omega, by omega, by show S.toNat * 8 ≤ 140737488355328; omega⟩, chk_pos (by decide)]
  have w4 : IntKind.i64.wrap (from'.tmod 200) = from' % 200 := by
    rw [Int.tmod_eq_emod_of_nonneg h5.1, w64 (by omega) (by omega)]
  rw [w4, w64 (n := 1 + from' % 200) (by omega) (by omega)]
  generalize hst : 1 + from' % 200 = start
  rw [w64 (n := start + E) (by omega) (by omega), w64 (n := start + E + need) (by omega) (by omega)]
  have hneed : 1 ≤ need := by
    have := (need_iff (S := S) (r := r) (i := 0) hrr.1).2 (by omega)
    omega
  have C : EachC b S r need E := ⟨hB.i, hB.r, hS, by omega, h256, hrr.1, hrr.2, hne.symm, by omega, by omega⟩
  have I : EachI b S r need E 1 1 0 [newS b 1] (List.replicate S.toNat 0) := by
    refine ⟨by omega, by omega, by omega, by omega, ?_, by simp; omega, fun k hk => ?_⟩
    · rw [if_pos (by omega), if_pos (by omega), Int.zero_mul]; rfl
    · have h0 : 0 ≤ (k : Int) / r := Int.ediv_nonneg (by omega) (by omega)
      have hlt : (k : Int) / r < need := by
        have h3 : ¬ need * r < S := by rw [← need_iff hrr.1, hne]; omega
        exact (Int.ediv_lt_iff_lt_mul (by omega)).2 (by omega)
      unfold lowL
      rw [if_neg (by omega), List.getD_eq_getElem?_getD, List.getElem?_replicate]
      split
      · show _ ≤ (0 : Int); omega
      · show _ ≤ (0 : Int); omega
  obtain ⟨d', i', ss', last', I', hloop⟩ := each_loop C start (start + E + need) (by omega) (start + E + need - 1).toNat 1 1 0 _ _ (by omega) I
  rw [hloop]
  simp only [bnd_val, sumO_inl]
  have hll := I'.len
  rw [each_check start last' (by omega) (fun k hk => by
    have hlo := I'.lo k (by omega)
    have hn := I'.n
    have hi1 := I'.i1
    have hi0 := I'.i0
    have h0 : 0 ≤ (k : Int) / r := Int.ediv_nonneg (by omega) (by omega)
    unfold lowL at hlo
    split at hlo <;> omega)]
  simp

end Go.Tr
