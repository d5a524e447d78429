/- The laws of acts of bytes. Conditions: none but the numbers' bounds, and that of the second form. -/
import Derived.Test.YtbdgfpfafcjmgaaDoorScriptL2
namespace Go.Tr
open Go
set_option linter.unusedVariables false
set_option linter.unusedSimpArgs false
set_option maxRecDepth 100000
set_option maxHeartbeats 4000000

theorem actsS_get : ∀ (b : List Int) (i : Nat), i < (actsS b).length → ∃ n x y z, b.drop (4 * i) = n :: x :: y :: z :: b.drop (4 * i + 4) ∧ (actsS b).getD i zAct = oneS n x y z
  | [], i, h => by simp [actsS] at h
  | [_], i, h => by simp [actsS] at h
  | [_, _], i, h => by simp [actsS] at h
  | [_, _, _], i, h => by simp [actsS] at h
  | n :: x :: y :: z :: r, i, h => by
    cases i with
    | zero => exact ⟨n, x, y, z, by simp, by simp [actsS]⟩
    | succ i =>
      simp only [actsS, List.length_cons] at h
      obtain ⟨n', x', y', z', h1, h2⟩ := actsS_get r i (by omega)
      refine ⟨n', x', y', z', ?_, by simpa [actsS] using h2⟩
      rw [show 4 * (i + 1) = 4 * i + 1 + 1 + 1 + 1 from by omega, show 4 * i + 1 + 1 + 1 + 1 + 4 = (4 * i + 4) + 1 + 1 + 1 + 1 from by omega]
      simpa using h1

theorem by8s_drop {b : List Int} (h : by8s b) (k : Nat) : by8s (b.drop k) := fun c hc => h c (List.mem_of_mem_drop hc)
theorem by8s_take {b : List Int} (h : by8s b) (k : Nat) : by8s (b.take k) := fun c hc => h c (List.mem_of_mem_take hc)

theorem scriptActs_law {b : List Int} (hb : by8s b) (hl : b.length ≤ 1000000000000) : terrierlaw22_ScriptActs b = some (true, ()) := by
  unfold terrierlaw22_ScriptActs
  rw [awakeS_eq, Acts_eq hb hl]
  have hlen := actsS_len b
  have L : terrierlaw22_ScriptActs_l0 (b, (((actsS b).length : Nat) : Int), 0, actsS b, ()) = some (.inl ()) := by
    unfold terrierlaw22_ScriptActs_l0
    have := loopM_steps (f := fun s : (List Int) × Int × Int × (List TAct) × Unit => terrierlaw22_ScriptActs_b0 s.1 s.2.1 s.2.2.1 s.2.2.2.1)
      (fun i => (b, (((actsS b).length : Nat) : Int), (i : Int), actsS b, ())) (a := 0) (n := (actsS b).length) (by omega)
      (fun i _ hi => by
        show terrierlaw22_ScriptActs_b0 b (((actsS b).length : Nat) : Int) (i : Int) (actsS b) = _
        unfold terrierlaw22_ScriptActs_b0
        obtain ⟨n, x, y, z, h1, h2⟩ := actsS_get b i hi
        have hd := by8s_drop hb (4 * i)
        rw [h1] at hd
        have hs : sliceA ((4 * i : Nat) : Int).toNat ((4 * i + 4 : Nat) : Int).toNat b = [n, x, y, z] := by
          simp only [sliceA, Int.toNat_natCast]
          rw [h1, show 4 * i + 4 - 4 * i = 4 from by omega]; rfl
        have hbl : 4 * i + 4 ≤ b.length := by omega
        rw [decide_eq_true (by omega), cnd_true, chk_pos (by omega), chk_pos (by omega)]
        simp only [ltO_def]
        rw [w64 (n := 4 * (i : Int)) (by omega) (by omega), w64 (n := 4 * (i : Int) + 4) (by omega) (by omega), w64 (n := (i : Int) + 1) (by omega) (by omega), chk_pos (by omega),
          show (4 * (i : Int) + 4) = ((4 * i + 4 : Nat) : Int) from by omega, show (4 * (i : Int)) = ((4 * i : Nat) : Int) from by omega, hs,
          act_eq (hd n (by simp)) (hd x (by simp)) (hd y (by simp)) (hd z (by simp))]
        simp only [bnd_val, Int.toNat_natCast, h2]
        simp)
    have this' : loopM (fun s : (List Int) × Int × Int × (List TAct) × Unit => terrierlaw22_ScriptActs_b0 s.1 s.2.1 s.2.2.1 s.2.2.2.1) (b, (((actsS b).length : Nat) : Int), 0, actsS b, ()) = _ := this
    rw [this', loopM_last (y := .inl ())]
    show terrierlaw22_ScriptActs_b0 b (((actsS b).length : Nat) : Int) (((actsS b).length : Nat) : Int) (actsS b) = _
    unfold terrierlaw22_ScriptActs_b0
    rw [decide_eq_false (by omega)]; rfl
  simp only [bnd_val, Bool.not_true, cnd_false, ltO_def, L, sumO_inl]
  have e : ((b.length : Nat) : Int).tdiv 4 = ((b.length / 4 : Nat) : Int) := by
    rw [Int.tdiv_eq_ediv_of_nonneg (by omega)]; omega
  rw [chk_pos (by decide), e, w64 (by omega) (by omega), hlen]
  simp

theorem actsS_app : ∀ (m : Nat) (a b : List Int), a.length = 4 * m → actsS (a ++ b) = actsS a ++ actsS b
  | 0, [], b, _ => rfl
  | m + 1, n :: x :: y :: z :: r, b, h => by
    simp only [List.length_cons] at h
    simp only [List.cons_append, actsS]
    rw [actsS_app m r b (by omega)]
  | m + 1, [], b, h => by simp at h
  | m + 1, [_], b, h => by simp at h; omega
  | m + 1, [_, _], b, h => by simp at h; omega
  | m + 1, [_, _, _], b, h => by simp at h; omega

theorem scriptParts_law {a b : List Int} (ha : by8s a) (hb : by8s b) (hla : a.length ≤ 400000000000) (hlb : b.length ≤ 400000000000) : terrierlaw22_ScriptParts a b = some (true, ()) := by
  unfold terrierlaw22_ScriptParts
  rw [awakeS_eq]
  have e : ((a.length : Nat) : Int).tdiv 4 = ((a.length / 4 : Nat) : Int) := by
    rw [Int.tdiv_eq_ediv_of_nonneg (by omega)]; omega
  simp only [bnd_val, Bool.not_true, cnd_false, ltO_def]
  rw [chk_pos (by decide), e, w64 (n := ((a.length / 4 : Nat) : Int)) (by omega) (by omega), w64 (n := ((a.length / 4 : Nat) : Int) * 4) (by omega) (by omega), chk_pos (by omega),
    show ((a.length / 4 : Nat) : Int) * 4 = ((a.length / 4 * 4 : Nat) : Int) from by omega]
  have hs : sliceA 0 ((a.length / 4 * 4 : Nat) : Int).toNat a = a.take (a.length / 4 * 4) := by unfold sliceA; rw [Int.toNat_natCast]; simp
  rw [hs]
  have hat := by8s_take ha (a.length / 4 * 4)
  have hlt : (a.take (a.length / 4 * 4)).length = 4 * (a.length / 4) := by rw [List.length_take]; omega
  generalize a.take (a.length / 4 * 4) = c at hat hlt
  have hcb : by8s (c ++ b) := by
    intro x hx
    rcases List.mem_append.1 hx with h | h
    · exact hat x h
    · exact hb x h
  rw [Acts_eq hat (by omega), Acts_eq hb (by omega), Acts_eq hcb (by rw [List.length_append]; omega), actsS_app _ c b hlt]
  simp only [bnd_val]
  rw [chk_pos (by simp only [room1]; omega), chk_pos (by simp only [room1]; omega)]
  have h1 := actsS_len c
  have h2 := actsS_len b
  generalize actsS c = x at h1
  generalize actsS b = y at h2
  have L : terrierlaw22_ScriptParts_l0 ((((x ++ y).length : Nat) : Int), 0, x, y, x ++ y, ()) = some (.inl ()) := by
    unfold terrierlaw22_ScriptParts_l0
    have := loopM_steps (f := fun s : Int × Int × (List TAct) × (List TAct) × (List TAct) × Unit => terrierlaw22_ScriptParts_b0 s.1 s.2.1 s.2.2.1 s.2.2.2.1 s.2.2.2.2.1)
      (fun i => ((((x ++ y).length : Nat) : Int), (i : Int), x, y, x ++ y, ())) (a := 0) (n := (x ++ y).length) (by omega)
      (fun i _ hi => by
        show terrierlaw22_ScriptParts_b0 (((x ++ y).length : Nat) : Int) (i : Int) x y (x ++ y) = _
        unfold terrierlaw22_ScriptParts_b0
        have hi' := hi
        rw [List.length_append] at hi'
        simp only [chk_same, ltO_def]
        rw [decide_eq_true (by omega), cnd_true, chk_pos (by intro _; omega), chk_pos (by intro _; omega), chk_pos (by intro h; simp at h; omega), chk_pos (by intro h; simp at h; omega)]
        by_cases hx : i < x.length
        · have g1 : (x ++ y).getD (i : Int).toNat zAct = x.getD (i : Int).toNat zAct := by
            simp only [Int.toNat_natCast, List.getD_eq_getElem?_getD]; rw [List.getElem?_append_left hx]
          have d1 : decide ((i : Int) < (x.length : Int)) = true := decide_eq_true (by omega)
          have d2 : decide ((i : Int) ≥ (x.length : Int)) = false := decide_eq_false (by omega)
          rw [g1, d1, d2, w64 (n := (i : Int) + 1) (by omega) (by omega)]
          simp
        · have g1 : (x ++ y).getD (i : Int).toNat zAct = y.getD ((i : Int) - (x.length : Int)).toNat zAct := by
            simp only [Int.toNat_natCast, List.getD_eq_getElem?_getD]; rw [List.getElem?_append_right (by omega), show ((i : Int) - (x.length : Int)).toNat = i - x.length from by omega]
          have d1 : decide ((i : Int) < (x.length : Int)) = false := decide_eq_false (by omega)
          have d2 : decide ((i : Int) ≥ (x.length : Int)) = true := decide_eq_true (by omega)
          rw [g1, d1, d2, w64 (n := (i : Int) + 1) (by omega) (by omega), w64 (n := (i : Int) - (x.length : Int)) (by omega) (by omega)]
          have q1 : x.length ≤ i ∧ (i : Int) - (x.length : Int) < (y.length : Int) := by omega
          have q2 : i - x.length < y.length := by omega
          have q3 : (i : Int) < (x.length : Int) + (y.length : Int) := by omega
          simp [chk_of_pos q1, chk_of_pos q2, chk_of_pos q3, chk_of_pos hi'])
    have this' : loopM (fun s : Int × Int × (List TAct) × (List TAct) × (List TAct) × Unit => terrierlaw22_ScriptParts_b0 s.1 s.2.1 s.2.2.1 s.2.2.2.1 s.2.2.2.2.1) ((((x ++ y).length : Nat) : Int), 0, x, y, x ++ y, ()) = _ := this
    rw [this', loopM_last (y := .inl ())]
    show terrierlaw22_ScriptParts_b0 (((x ++ y).length : Nat) : Int) (((x ++ y).length : Nat) : Int) x y (x ++ y) = _
    unfold terrierlaw22_ScriptParts_b0
    rw [decide_eq_false (by omega)]; rfl
  rw [L]
  simp only [bnd_val, sumO_inl, List.length_append]
  rw [w64 (by omega) (by omega)]
  simp

theorem scriptTail_law {b t : List Int} (hb : by8s b) (ht : by8s t) (hlb : b.length ≤ 400000000000) : terrierlaw22_ScriptTail b t = some (true, ()) := by
  unfold terrierlaw22_ScriptTail
  rw [awakeS_eq]
  have e : ((b.length : Nat) : Int).tdiv 4 = ((b.length / 4 : Nat) : Int) := by
    rw [Int.tdiv_eq_ediv_of_nonneg (by omega)]; omega
  simp only [bnd_val, Bool.not_true, cnd_false, ltO_def]
  rw [chk_pos (by decide), e, w64 (n := ((b.length / 4 : Nat) : Int)) (by omega) (by omega), w64 (n := ((b.length / 4 : Nat) : Int) * 4) (by omega) (by omega), chk_pos (by omega),
    show ((b.length / 4 : Nat) : Int) * 4 = ((b.length / 4 * 4 : Nat) : Int) from by omega]
  have hs : sliceA 0 ((b.length / 4 * 4 : Nat) : Int).toNat b = b.take (b.length / 4 * 4) := by unfold sliceA; rw [Int.toNat_natCast]; simp
  have hm : ∃ k : Nat, k ≤ 3 ∧ k ≤ t.length ∧ (if (3 : Int) < (t.length : Int) then (3 : Int) else (t.length : Int)) = (k : Int) := by
    by_cases h : (3 : Int) < (t.length : Int)
    · exact ⟨3, by omega, by omega, by rw [if_pos h]; rfl⟩
    · exact ⟨t.length, by omega, by omega, by rw [if_neg h]⟩
  obtain ⟨k, hk3, hkt, hk⟩ := hm
  have hs2 : sliceA 0 (k : Int).toNat t = t.take k := by simp [sliceA]
  rw [hk, hs, hs2]
  have hbt := by8s_take hb (b.length / 4 * 4)
  have htt := by8s_take ht k
  have hlt : (b.take (b.length / 4 * 4)).length = 4 * (b.length / 4) := by rw [List.length_take]; omega
  have hlk : (t.take k).length ≤ 3 := by rw [List.length_take]; omega
  generalize b.take (b.length / 4 * 4) = c at hbt hlt
  generalize t.take k = d at htt hlk
  have hcd : by8s (c ++ d) := by
    intro x hx
    rcases List.mem_append.1 hx with h | h
    · exact hbt x h
    · exact htt x h
  rw [Acts_eq hbt (by omega), Acts_eq hcd (by rw [List.length_append]; omega), actsS_app _ c d hlt, actsS_short (b := d) (by omega), List.append_nil]
  simp only [bnd_val]
  rw [chk_pos (by simp only [room1]; omega), chk_pos (by omega), chk_pos (by simp only [room1]; omega)]
  have h1 := actsS_len c
  generalize actsS c = x at h1
  have L : terrierlaw22_ScriptTail_l0 (((x.length : Nat) : Int), 0, x, x, ()) = some (.inl ()) := by
    unfold terrierlaw22_ScriptTail_l0
    have := loopM_steps (f := fun s : Int × Int × (List TAct) × (List TAct) × Unit => terrierlaw22_ScriptTail_b0 s.1 s.2.1 s.2.2.1 s.2.2.2.1)
      (fun i => (((x.length : Nat) : Int), (i : Int), x, x, ())) (a := 0) (n := x.length) (by omega)
      (fun i _ hi => by
        show terrierlaw22_ScriptTail_b0 ((x.length : Nat) : Int) (i : Int) x x = _
        unfold terrierlaw22_ScriptTail_b0
        simp only [ltO_def]
        rw [decide_eq_true (by omega), cnd_true, chk_pos (by omega), chk_pos (by omega), chk_pos (by omega), chk_pos (by omega), w64 (n := (i : Int) + 1) (by omega) (by omega)]
        simp)
    have this' : loopM (fun s : Int × Int × (List TAct) × (List TAct) × Unit => terrierlaw22_ScriptTail_b0 s.1 s.2.1 s.2.2.1 s.2.2.2.1) (((x.length : Nat) : Int), 0, x, x, ()) = _ := this
    rw [this', loopM_last (y := .inl ())]
    show terrierlaw22_ScriptTail_b0 ((x.length : Nat) : Int) ((x.length : Nat) : Int) x x = _
    unfold terrierlaw22_ScriptTail_b0
    rw [decide_eq_false (by omega)]; rfl
  rw [L]
  simp

theorem evS_what (x y z : Int) : 1 ≤ (evS x y z).1 ∧ (evS x y z).1 ≤ 7 := by
  unfold evS
  split
  · exact ⟨by show (1 : Int) ≤ 1; decide, by show (1 : Int) ≤ 7; decide⟩
  split
  · exact ⟨by show 1 ≤ x % 7 + 1; omega, by show x % 7 + 1 ≤ 7; omega⟩
  split
  · exact ⟨by show (1 : Int) ≤ 5; decide, by show (5 : Int) ≤ 7; decide⟩
  · exact ⟨by show 1 ≤ x % 7 + 1; omega, by show x % 7 + 1 ≤ 7; omega⟩

theorem scriptKinds_law {n x y z : Int} (hn : by8 n) (hx : by8 x) (hy : by8 y) (hz : by8 z) : terrierlaw22_ScriptKinds n x y z = some (true, ()) := by
  unfold terrierlaw22_ScriptKinds
  have hb : by8s [n, x, y, z] := by
    intro c hc
    simp only [List.mem_cons, List.not_mem_nil, or_false] at hc
    rcases hc with rfl | rfl | rfl | rfl <;> assumption
  rw [awakeS_eq, Acts_eq hb (by show 4 ≤ _; decide)]
  have hn0 := hn.1
  have en : n.tmod 12 = n % 12 := Int.tmod_eq_emod_of_nonneg hn0
  have ea : actsS [n, x, y, z] = [oneS n x y z] := rfl
  have hw := evS_what x y z
  simp only [bnd_val, Bool.not_true, cnd_false, ltO_def, ea, List.length_cons, List.length_nil, chk_same, en]
  rw [show ((((0 + 1 : Nat) : Int)) != 1) = false from rfl, cnd_false, chk_pos (by decide), chk_pos (by decide), chk_pos (by decide), chk_pos (by omega), chk_pos (by omega)]
  have hg : [oneS n x y z].getD 0 zAct = oneS n x y z := rfl
  simp only [hg]
  unfold oneS
  have hx0 := hx.1
  have hr : n % 12 = 0 ∨ n % 12 = 1 ∨ n % 12 = 2 ∨ n % 12 = 3 ∨ n % 12 = 4 ∨ n % 12 = 5 ∨ n % 12 = 6 ∨ n % 12 = 7 ∨ n % 12 = 8 ∨ n % 12 = 9 ∨ n % 12 = 10 ∨ n % 12 = 11 := by omega
  have e5 : ¬ (if cmdT (evS x y z) = [] then toBytes [x, y, z] else cmdT (evS x y z)) = [] := by
    split
    · simp [toBytes]
    · assumption
  have w0 : 0 < (evS x y z).1 := by omega
  have x30 : 0 < 1 + x % 30 ∧ 1 + x % 30 < 31 := by omega
  rcases hr with h | h | h | h | h | h | h | h | h | h | h | h <;> simp [h, e5, w0, x30, zEv]
end Go.Tr
