/- Acts of bytes: one act, all of them. Conditions: none but the numbers' bounds. -/
import Derived.Test.YtbdgfpfafcjmgaaDoorScriptL
namespace Go.Tr
open Go
set_option linter.unusedVariables false
set_option linter.unusedSimpArgs false
set_option maxRecDepth 100000
set_option maxHeartbeats 4000000

def oneS (n x y z : Int) : TAct :=
  if n % 12 ≤ 3 then (0, evS x y z, [], 0, 0)
  else if n % 12 = 4 then (1, zEv, [], x, y)
  else if n % 12 = 5 then (2, zEv, if cmdT (evS x y z) = [] then toBytes [x, y, z] else cmdT (evS x y z), 0, 0)
  else if n % 12 ≤ 8 then (3, zEv, [], 1 + x % 30, 0)
  else if n % 12 = 9 then (4, zEv, [], 0, 0)
  else if n % 12 = 10 then (5, zEv, [], x % 32, y)
  else (6, zEv, [], x % 32, 0)

theorem M6z : M6ok zMac := ⟨⟨by decide, by decide⟩, ⟨by decide, by decide⟩, ⟨by decide, by decide⟩, ⟨by decide, by decide⟩, ⟨by decide, by decide⟩, ⟨by decide, by decide⟩⟩
theorem by8_0 : by8 0 := ⟨by decide, by decide⟩
theorem by8_2 : by8 2 := ⟨by decide, by decide⟩
theorem stn_ok (b : Int) : M6ok (stnS b) := ⟨by8_2, by8_0, by8_0, by8_0, by8_0, ⟨by show (0 : Int) ≤ 1 + b % 3; omega, by show 1 + b % 3 < 256; omega⟩⟩
theorem zero_in : in32 0 := ⟨by decide, by decide⟩
theorem blk_in (y z : Int) : in32 (blkS y z).1 ∧ bo (blkS y z).2 := by
  obtain ⟨j, hj, ej, eW⟩ := Wd29 (z := z)
  have hn := near_in (b := y)
  have hp : (0 : Int) < Wd (29 + z % 4) := by rw [eW]; exact Int.pow_pos (by decide)
  have h1 := Int.emod_nonneg (nearS y) (b := Wd (29 + z % 4)) (by omega)
  have h2 := emod_le hn.1 hp
  refine ⟨⟨?_, ?_⟩, ?_⟩
  · show 0 ≤ nearS y - nearS y % Wd (29 + z % 4); omega
  · show nearS y - nearS y % Wd (29 + z % 4) < 4294967296; have := hn.2; omega
  · show bo (29 + z % 4); unfold bo; omega

theorem evS_ok (x y z : Int) : EvOk (evS x y z) := by
  unfold evS
  split
  · refine ⟨near_in, ?_, ?_, zero_in, fun h => by simp at h⟩
    · show M6ok (if 128 ≤ z then stnS z else zMac)
      split
      · exact stn_ok z
      · exact M6z
    · show [UInt8.ofNat (97 + z % 3).toNat].length ≤ _; simp
  split
  · exact ⟨zero_in, M6z, by show ([] : List UInt8).length ≤ _; simp, (blk_in y z).1, fun _ => (blk_in y z).2⟩
  split
  · exact ⟨near_in, M6z, by show ([] : List UInt8).length ≤ _; simp, zero_in, fun h => by simp at h⟩
  · rename_i h1 h2 h3
    exact ⟨near_in, M6z, by show ([] : List UInt8).length ≤ _; simp, zero_in, fun h => by simp at h; omega⟩

theorem one_eq {n x y z : Int} (hn : by8 n) (hx : by8 x) (hy : by8 y) (hz : by8 z) : script_one [n, x, y, z] = some (oneS n x y z, ()) := by
  unfold script_one
  have hn0 := hn.1
  have hx0 := hx.1
  have hx1 := hx.2
  have hy0 := hy.1
  have hy1 := hy.2
  have en : n.tmod 12 = n % 12 := Int.tmod_eq_emod_of_nonneg hn0
  have e30 : x.tmod 30 = x % 30 := Int.tmod_eq_emod_of_nonneg hx0
  have e32 : x.tmod 32 = x % 32 := Int.tmod_eq_emod_of_nonneg hx0
  have w1 : IntKind.i64.wrap x = x := w64 (by omega) (by omega)
  have w2 : IntKind.i64.wrap y = y := w64 (by omega) (by omega)
  have w3 : IntKind.i64.wrap (1 + x % 30) = 1 + x % 30 := w64 (by omega) (by omega)
  have g0 : [n, x, y, z].getD 0 0 = n := rfl
  have g1 : [n, x, y, z].getD 1 0 = x := rfl
  have g2 : [n, x, y, z].getD 2 0 = y := rfl
  have g3 : [n, x, y, z].getD 3 0 = z := rfl
  have gs : sliceA 1 (([n, x, y, z].length : Nat) : Int).toNat [n, x, y, z] = [x, y, z] := rfl
  have c0 : (0 : Int) ≤ 0 ∧ (0 : Int) < (([n, x, y, z].length : Nat) : Int) := by simp
  have c1 : (0 : Int) ≤ 1 ∧ (1 : Int) < (([n, x, y, z].length : Nat) : Int) := by simp
  have c2 : (0 : Int) ≤ 2 ∧ (2 : Int) < (([n, x, y, z].length : Nat) : Int) := by simp
  have c3 : (0 : Int) ≤ 3 ∧ (3 : Int) < (([n, x, y, z].length : Nat) : Int) := by simp
  have c4 : (0 : Int) ≤ 1 ∧ (1 : Int) ≤ (([n, x, y, z].length : Nat) : Int) ∧ (([n, x, y, z].length : Nat) : Int) ≤ (([n, x, y, z].length : Nat) : Int) := by simp
  have n12 : ¬ (12 : Int) = 0 := by decide
  have n30 : ¬ (30 : Int) = 0 := by decide
  have n32 : ¬ (32 : Int) = 0 := by decide
  simp only [chk_of_pos c0, chk_of_pos c1, chk_of_pos c2, chk_of_pos c3, chk_of_pos c4, chk_of_pos n12, chk_of_pos n30, chk_of_pos n32, ltO_def, g0, g1, g2, g3, gs, en, e30, e32, w1, w2, w3, event_eq hx hy hz, bnd_val, cmd_eq (evS_ok x y z), cnd_ite, beq_iff_eq]
  unfold oneS
  have hr : n % 12 = 0 ∨ n % 12 = 1 ∨ n % 12 = 2 ∨ n % 12 = 3 ∨ n % 12 = 4 ∨ n % 12 = 5 ∨ n % 12 = 6 ∨ n % 12 = 7 ∨ n % 12 = 8 ∨ n % 12 = 9 ∨ n % 12 = 10 ∨ n % 12 = 11 := by omega
  rcases hr with h | h | h | h | h | h | h | h | h | h | h | h <;> simp [h]
  by_cases hc : cmdT (evS x y z) = [] <;> simp [hc]

theorem act_eq {n x y z : Int} (hn : by8 n) (hx : by8 x) (hy : by8 y) (hz : by8 z) : terrierlaw22_act [n, x, y, z] = some (oneS n x y z, ()) := by
  unfold terrierlaw22_act
  have hn0 := hn.1
  have hx0 := hx.1
  have hx1 := hx.2
  have hy0 := hy.1
  have hy1 := hy.2
  have en : n.tmod 12 = n % 12 := Int.tmod_eq_emod_of_nonneg hn0
  have e30 : x.tmod 30 = x % 30 := Int.tmod_eq_emod_of_nonneg hx0
  have e32 : x.tmod 32 = x % 32 := Int.tmod_eq_emod_of_nonneg hx0
  have w1 : IntKind.i64.wrap x = x := w64 (by omega) (by omega)
  have w2 : IntKind.i64.wrap y = y := w64 (by omega) (by omega)
  have w3 : IntKind.i64.wrap (x % 30 + 1) = 1 + x % 30 := by rw [w64 (by omega) (by omega)]; omega
  have w4 : IntKind.i64.wrap (x % 32) = x % 32 := w64 (by omega) (by omega)
  have g0 : [n, x, y, z].getD 0 0 = n := rfl
  have g1 : [n, x, y, z].getD 1 0 = x := rfl
  have g2 : [n, x, y, z].getD 2 0 = y := rfl
  have g3 : [n, x, y, z].getD 3 0 = z := rfl
  have c0 : (0 : Int) ≤ 0 ∧ (0 : Int) < (([n, x, y, z].length : Nat) : Int) := by simp
  have c1 : (0 : Int) ≤ 1 ∧ (1 : Int) < (([n, x, y, z].length : Nat) : Int) := by simp
  have c2 : (0 : Int) ≤ 2 ∧ (2 : Int) < (([n, x, y, z].length : Nat) : Int) := by simp
  have c3 : (0 : Int) ≤ 3 ∧ (3 : Int) < (([n, x, y, z].length : Nat) : Int) := by simp
  have n12 : ¬ (12 : Int) = 0 := by decide
  have n30 : ¬ (30 : Int) = 0 := by decide
  have n32 : ¬ (32 : Int) = 0 := by decide
  simp only [chk_of_pos c0, chk_of_pos c1, chk_of_pos c2, chk_of_pos c3, chk_of_pos n12, chk_of_pos n30, chk_of_pos n32, ltO_def, g0, g1, g2, g3, en, e30, e32, w1, w2, w3, w4, levent_eq hx hy hz, bnd_val, cmd_eq (evS_ok x y z), cnd_ite, beq_iff_eq]
  unfold oneS
  have hr : n % 12 = 0 ∨ n % 12 = 1 ∨ n % 12 = 2 ∨ n % 12 = 3 ∨ n % 12 = 4 ∨ n % 12 = 5 ∨ n % 12 = 6 ∨ n % 12 = 7 ∨ n % 12 = 8 ∨ n % 12 = 9 ∨ n % 12 = 10 ∨ n % 12 = 11 := by omega
  rcases hr with h | h | h | h | h | h | h | h | h | h | h | h <;> simp [h]
  by_cases hc : cmdT (evS x y z) = [] <;> simp [hc]

/-- The acts of bytes. -/
def actsS : List Int → List TAct
  | n :: x :: y :: z :: r => oneS n x y z :: actsS r
  | _ => []

theorem actsS_short {b : List Int} (h : b.length < 4) : actsS b = [] := by
  match b, h with
  | [], _ => rfl
  | [_], _ => rfl
  | [_, _], _ => rfl
  | [_, _, _], _ => rfl
theorem actsS_len : ∀ (b : List Int), (actsS b).length = b.length / 4
  | [] => rfl
  | [_] => by simp [actsS]
  | [_, _] => by simp [actsS]
  | [_, _, _] => by simp [actsS]
  | n :: x :: y :: z :: r => by
    simp only [actsS, List.length_cons, actsS_len r]; omega

def by8s (b : List Int) : Prop := ∀ c ∈ b, by8 c

theorem acts_loop : ∀ (m : Nat) (b : List Int) (out : List TAct), b.length ≤ m → by8s b → out.length + b.length ≤ 1000000000000 → script_Acts_l0 (b, out, ()) = some (.inl (out ++ actsS b, ()))
  | m, b, out, hm, hb, hl => by
    unfold script_Acts_l0
    by_cases h4 : b.length < 4
    · rw [loopM_last (y := .inl (out, ()))]
      · rw [actsS_short h4, List.append_nil]
      · unfold script_Acts_b0
        simp only
        rw [decide_eq_false (by omega)]; rfl
    · match m, b, hm, hb, hl, h4 with
      | 0, [], _, _, _, h4 => exact absurd (by simp) h4
      | m + 1, n :: x :: y :: z :: r, hm, hb, hl, h4 =>
        have hn := hb n (by simp)
        have hx := hb x (by simp)
        have hy := hb y (by simp)
        have hz := hb z (by simp)
        simp only [List.length_cons] at hm hl
        have st : script_Acts_b0 (n :: x :: y :: z :: r) out = some (.inl (r, out ++ [oneS n x y z], ())) := by
          unfold script_Acts_b0
          have s1 : sliceA 0 4 (n :: x :: y :: z :: r) = [n, x, y, z] := by simp [sliceA]
          have s2 : sliceA 4 (((n :: x :: y :: z :: r).length : Nat) : Int).toNat (n :: x :: y :: z :: r) = r := by
            simp only [sliceA, Int.toNat_natCast]; simp
          rw [decide_eq_true (by simp only [List.length_cons]; omega), cnd_true, chk_pos (by simp only [List.length_cons]; omega), s1, one_eq hn hx hy hz]
          simp only [bnd_val]
          rw [s2, chk_pos (by show _ * _ ≤ _; simp only [List.length_cons, List.length_nil]; omega), chk_pos (by simp only [List.length_cons]; omega)]
        rw [loopM_next (s' := (r, out ++ [oneS n x y z], ())) st]
        have ih := acts_loop m r (out ++ [oneS n x y z]) (by omega) (fun c hc => hb c (by simp [hc])) (by simp only [List.length_append, List.length_cons, List.length_nil]; omega)
        unfold script_Acts_l0 at ih
        rw [ih]
        simp [actsS]
      | m + 1, [_], _, _, _, h4 => exact absurd (by simp) h4
      | m + 1, [_, _], _, _, _, h4 => exact absurd (by simp) h4
      | m + 1, [_, _, _], _, _, _, h4 => exact absurd (by simp) h4
      | m + 1, [], _, _, _, h4 => exact absurd (by simp) h4

theorem Acts_eq {b : List Int} (hb : by8s b) (hl : b.length ≤ 1000000000000) : script_Acts b = some (actsS b, ()) := by
  unfold script_Acts
  rw [acts_loop b.length b [] (Nat.le_refl _) hb (by simp; omega)]
  rfl

theorem awakeS_eq : terrierlaw22_awake = some (true, ()) := by
  unfold terrierlaw22_awake
  rw [Acts_eq (by intro c hc; simp at hc; rcases hc with rfl | rfl | rfl | rfl | rfl | rfl | rfl <;> exact ⟨by decide, by decide⟩) (by decide)]
  have e : actsS [6, 9, 0, 0, 0, 1, 5, 0, 1] = [oneS 6 9 0 0, oneS 0 1 5 0] := rfl
  rw [e]
  simp only [bnd_val, ltO_def, chk_same]
  simp [oneS, evS, nearS, chk]
end Go.Tr
