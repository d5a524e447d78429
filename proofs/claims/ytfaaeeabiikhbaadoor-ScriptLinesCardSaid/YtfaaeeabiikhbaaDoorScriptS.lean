/- Acts of bytes: what the printed functions of layer 22 come to. Acts of bytes: one act, all of them. The laws of acts of bytes. Conditions: none but those that each theorem states. -/
import Derived.Test.YtfaaeeabiikhbaaDoorMacS
import Derived.Test.YtfaaeeabiikhbaaDoorAddrS
import Derived.Test.YtfaaeeabiikhbaaDoorScriptD
namespace Go.Tr
open Go
set_option linter.unusedVariables false
set_option linter.unusedSimpArgs false
set_option maxRecDepth 100000
set_option maxHeartbeats 4000000
def nearS (b : Int) : Int := 167772160 + b % 24
def stnS (b : Int) : TMac := (2, 0, 0, 0, 0, 1 + b % 3)
def blkS (y z : Int) : Int × Int := (nearS y - nearS y % Wd (29 + z % 4), 29 + z % 4)
def evS (x y z : Int) : TEv :=
  if x % 7 = 0 then (1, (nearS y, [UInt8.ofNat (97 + z % 3).toNat], if 128 ≤ z then stnS z else zMac), (0, 0), 0, zMac, 0)
  else if x % 7 = 2 ∨ x % 7 = 3 then (x % 7 + 1, zHold, blkS y z, 0, zMac, 0)
  else if x % 7 = 4 then (5, (nearS y, [], zMac), (0, 0), z % 4, stnS (z / 4), 0)
  else (x % 7 + 1, (nearS y, [], zMac), (0, 0), 0, zMac, 0)
theorem near_eq {b : Int} (h : by8 b) : script_near b = some (nearS b, ()) := by
  unfold script_near
  have h0 := h.1
  have h1 := h.2
  have e : b.tmod 24 = b % 24 := Int.tmod_eq_emod_of_nonneg h0
  rw [chk_pos (by decide), ltO_def, e, ltO_def, wu32 (n := b % 24) (by omega) (by omega), ltO_def, wu32 (by omega) (by omega)]
  rfl
theorem station_eq {b : Int} (h : by8 b) : script_station b = some (stnS b, ()) := by
  unfold script_station
  have h0 := h.1
  have h1 := h.2
  have e : b.tmod 3 = b % 3 := Int.tmod_eq_emod_of_nonneg h0
  rw [chk_pos (by decide), ltO_def, e, ltO_def, wu8 (by omega) (by omega)]
  rfl
theorem near_in {b : Int} : in32 (nearS b) := by unfold nearS in32; omega
theorem Wd29 {z : Int} : ∃ j : Nat, j ≤ 3 ∧ 32 - (29 + z % 4) = (j : Int) ∧ Wd (29 + z % 4) = 2 ^ j := by
  refine ⟨(3 - z % 4).toNat, by omega, by omega, ?_⟩
  unfold Wd
  rw [show (32 - (29 + z % 4)).toNat = (3 - z % 4).toNat from by omega]
theorem emod_le {a b : Int} (h : 0 ≤ a) (hb : 0 < b) : a % b ≤ a := by
  have h1 := Int.mul_ediv_add_emod a b
  have h2 : 0 ≤ b * (a / b) := Int.mul_nonneg (by omega) (Int.ediv_nonneg h (by omega))
  omega
theorem bandn_low {a : Int} (ha : in32 a) (j : Nat) (hj : j ≤ 3) : IntKind.u32.wrap (bandnI .u32 a (IntKind.u32.wrap (shlI .u32 1 (j : Int) - 1))) = a - a % 2 ^ j := by
  have h0 := ha.1
  have h1 := ha.2
  have key : ∀ j : Fin 4, IntKind.u32.wrap (shlI .u32 1 (j.val : Int) - 1) = 2 ^ j.val - 1 ∧ (~~~ BitVec.ofInt 32 ((2 : Int) ^ j.val - 1)) = BitVec.ofInt 32 ((2 : Int) ^ 32 - 2 ^ j.val) := by decide
  have k1 := key ⟨j, by omega⟩
  rw [k1.1]
  have e : bandnI .u32 a (2 ^ j - 1) = bandI .u32 a ((2 : Int) ^ 32 - 2 ^ j) := by
    unfold bandnI bandI
    have : (~~~ BitVec.ofInt IntKind.u32.bits ((2 : Int) ^ j - 1)) = BitVec.ofInt IntKind.u32.bits ((2 : Int) ^ 32 - 2 ^ j) := k1.2
    rw [this]
  have hbh : bandI .u32 a ((2 : Int) ^ 32 - 2 ^ j) = a - a % 2 ^ j := band_high (k := .u32) j h0 (by show a < 2 ^ 32; omega) rfl (by show j ≤ 32; omega)
  rw [e, hbh]
  have hp : (0 : Int) < 2 ^ j := Int.pow_pos (by decide)
  have := Int.emod_nonneg a (b := 2 ^ j) (by omega)
  have := emod_le (b := 2 ^ j) h0 hp
  rw [wu32 (by omega) (by omega)]
theorem event_eq {x y z : Int} (hx : by8 x) (hy : by8 y) (hz : by8 z) : script_event x y z = some (evS x y z, ()) := by
  unfold script_event
  have hx0 := hx.1
  have hx1 := hx.2
  have hz0 := hz.1
  have hz1 := hz.2
  have e : x.tmod 7 = x % 7 := Int.tmod_eq_emod_of_nonneg hx0
  have e3 : z.tmod 3 = z % 3 := Int.tmod_eq_emod_of_nonneg hz0
  have e4 : z.tmod 4 = z % 4 := Int.tmod_eq_emod_of_nonneg hz0
  have e5 : z.tdiv 4 = z / 4 := Int.tdiv_eq_ediv_of_nonneg hz0
  have wz : IntKind.u8.wrap (97 + z % 3) = 97 + z % 3 := wu8 (by omega) (by omega)
  have w1 : IntKind.i64.wrap (x % 7 + 1) = x % 7 + 1 := w64 (by omega) (by omega)
  have w2 : IntKind.i64.wrap (z % 4) = z % 4 := w64 (by omega) (by omega)
  have w3 : IntKind.i64.wrap (29 + z % 4) = 29 + z % 4 := w64 (by omega) (by omega)
  have w4 : IntKind.i64.wrap (32 - (29 + z % 4)) = 32 - (29 + z % 4) := w64 (by omega) (by omega)
  have w5 : IntKind.u8.wrap (z / 4) = z / 4 := wu8 (by omega) (by omega)
  have w6 : IntKind.i64.wrap x = x := w64 (by omega) (by omega)
  have w7 : IntKind.i64.wrap z = z := w64 (by omega) (by omega)
  obtain ⟨j, hj, ej, eW⟩ := Wd29 (z := z)
  have hb : IntKind.u32.wrap (bandnI .u32 (nearS y) (IntKind.u32.wrap (shlI .u32 1 (32 - (29 + z % 4)) - 1))) = nearS y - nearS y % Wd (29 + z % 4) := by
    rw [ej, eW]; exact bandn_low near_in j hj
  have s4 := station_eq (b := z / 4) ⟨by omega, by omega⟩
  simp only [ltO_def, near_eq hy, bnd_val, e, e3, e4, e5, w1, w2, w3, w4, w5, w6, w7, wz, station_eq hz, s4, hb, cnd_ite, beq_iff_eq, decide_eq_true_eq, ge_iff_le]
  rw [chk_pos (by decide)]
  unfold evS
  have hr : x % 7 = 0 ∨ x % 7 = 1 ∨ x % 7 = 2 ∨ x % 7 = 3 ∨ x % 7 = 4 ∨ x % 7 = 5 ∨ x % 7 = 6 := by omega
  rcases hr with h | h | h | h | h | h | h
  · simp only [h]
    by_cases h8 : 128 ≤ z
    · simp [h8, toBytes, zMac, chk]
    · simp [h8, toBytes, zMac, chk]
  all_goals simp [h, chk, blkS, zHold, zMac]
  all_goals omega
def wordS (w : Int) : List UInt8 :=
  if w = 1 then [104, 111, 108, 100] else if w = 2 then [100, 114, 111, 112] else if w = 3 then [119, 97, 116, 99, 104] else if w = 4 then [105, 103, 110, 111, 114, 101]
  else if w = 6 then [97, 112, 112, 114, 111, 118, 101] else if w = 7 then [114, 101, 106, 101, 99, 116] else []
theorem word_eq (w : Int) : command_word w = some (wordS w, ()) := by
  unfold command_word
  by_cases h : 0 ≤ w ∧ w < 8
  · have : ∀ n : Fin 8, ([[], [(104 : UInt8), 111, 108, 100], [100, 114, 111, 112], [119, 97, 116, 99, 104], [105, 103, 110, 111, 114, 101], [], [97, 112, 112, 114, 111, 118, 101], [114, 101, 106, 101, 99, 116]] : List (List UInt8)).getD n.val [] = wordS (n.val : Int) := by decide
    have h2 := this ⟨w.toNat, by omega⟩
    simp only [Int.toNat_of_nonneg h.1] at h2
    simp only [chk_same, chk_nn, ltO_def]
    have e8 : (decide (w < 0) || decide (w ≥ 8)) = false := by simp; omega
    rw [e8, cnd_false, chk_pos h, chk_pos (by omega)]
    exact congrArg (fun l => some (l, ())) h2
  · have e : wordS w = [] := by
      unfold wordS
      repeat rw [if_neg (by omega)]
    simp only [chk_same, chk_nn, ltO_def]
    have e8 : (decide (w < 0) || decide (w ≥ 8)) = true := by simp; omega
    rw [e8, cnd_true, e]
def cmdT (e : TEv) : List UInt8 :=
  if e.1 = 3 ∨ e.1 = 4 then wordS e.1 ++ [32] ++ bt e.2.2.1
  else if e.1 = 1 then (if e.2.1.2.2 = (0, 0, 0, 0, 0, 0) then wordS 1 ++ [32] ++ adT e.2.1.1 ++ [32] ++ e.2.1.2.1 else wordS 1 ++ [32] ++ adT e.2.1.1 ++ [32] ++ e.2.1.2.1 ++ [32] ++ lowT e.2.1.2.2)
  else if e.1 = 2 ∨ e.1 = 6 ∨ e.1 = 7 then wordS e.1 ++ [32] ++ adT e.2.1.1 else []
structure EvOk (e : TEv) : Prop where
  a : in32 e.2.1.1
  m : M6ok e.2.1.2.2
  o : e.2.1.2.1.length ≤ 140737488355328
  b : in32 e.2.2.1.1
  bb : e.1 = 3 ∨ e.1 = 4 → bo e.2.2.1.2
theorem ds_len {u : Nat} : (ds u).length ≤ 3 := by
  unfold ds; split <;> (try split) <;> simp
theorem wordS_len (w : Int) : (wordS w).length ≤ 7 := by
  unfold wordS; (repeat' split) <;> decide
theorem bt_len (b : Int × Int) : (bt b).length ≤ 19 := by
  unfold bt
  have := adT_len b.1
  have := ds_len (u := b.2.toNat)
  simp; omega
theorem lowT_len (m : M6) : (lowT m).length = 17 := rfl
theorem cmd_eq {e : TEv} (h : EvOk e) : command_Text e = some (cmdT e, ()) := by
  unfold command_Text cmdT
  have ha := adT_len e.2.1.1
  have hb := bt_len e.2.2.1
  have hw := wordS_len e.1
  have ho := h.o
  simp only [ltO_def, cnd_ite, beq_iff_eq, word_eq, bnd_val, Text_eq h.a, none_eq, text_eq h.m]
  by_cases h3 : e.1 = 3
  · simp only [if_pos h3, h3, BlockText_eq h.b (h.bb (.inl h3)), bnd_val]
    rw [h3] at hw
    rw [chk_pos (by omega), chk_pos (by simp only [List.length_append, List.length_cons, List.length_nil]; omega)]; simp
  by_cases h4 : e.1 = 4
  · simp only [if_neg h3, if_pos h4, h4, BlockText_eq h.b (h.bb (.inr h4)), bnd_val]
    rw [h4] at hw
    rw [chk_pos (by omega), chk_pos (by simp only [List.length_append, List.length_cons, List.length_nil]; omega)]; simp
  simp only [if_neg h3, if_neg h4, h3, h4, or_self, if_false]
  by_cases h1 : e.1 = 1
  · simp only [if_pos h1]
    have hl := lowT_len e.2.1.2.2
    rw [chk_pos (by omega), chk_pos (by simp only [List.length_append, List.length_cons, List.length_nil]; omega), chk_pos (by simp only [List.length_append, List.length_cons, List.length_nil]; omega)]
    by_cases hm : e.2.1.2.2 = (0, 0, 0, 0, 0, 0)
    · rw [if_pos hm, if_pos hm]; simp [wordS]
    · rw [if_neg hm, if_neg hm, chk_pos (by simp only [List.length_append, List.length_cons, List.length_nil]; omega), chk_pos (by simp only [List.length_append, List.length_cons, List.length_nil]; omega)]
      simp [wordS]
  simp only [if_neg h1]
  by_cases h2 : e.1 = 2
  · simp only [if_pos h2, h2, true_or, if_true]
    rw [h2] at hw
    rw [chk_pos (by omega), chk_pos (by simp only [List.length_append, List.length_cons, List.length_nil]; omega)]
  by_cases h6 : e.1 = 6
  · simp only [if_neg h2, if_pos h6, h6, true_or, or_true, if_true]
    rw [h6] at hw
    rw [chk_pos (by omega), chk_pos (by simp only [List.length_append, List.length_cons, List.length_nil]; omega)]
    simp
  by_cases h7 : e.1 = 7
  · simp only [if_neg h2, if_neg h6, if_pos h7, h7, or_true, if_true]
    rw [h7] at hw
    rw [chk_pos (by omega), chk_pos (by simp only [List.length_append, List.length_cons, List.length_nil]; omega)]
    simp
  · simp only [if_neg h2, if_neg h6, if_neg h7, h2, h6, h7, or_self, if_false]
end Go.Tr
namespace Go.Tr
open Go
set_option linter.unusedVariables false
set_option linter.unusedSimpArgs false
set_option maxRecDepth 100000
set_option maxHeartbeats 4000000
def oneS (n x y z : Int) : TAct :=
  if n % 12 ≤ 3 then (0, evS x y z, [], 0, 0)
  else if n % 12 = 4 then (1, zEv, [], x, y)
  else if n % 12 = 5 then (2, zEv, if cmdT (evS x y z) = [] then toBytes [x, y, z] else cmdT (evS x y z), 0, 0)
  else if n % 12 ≤ 8 then (3, zEv, [], 1 + x % 30, 0)
  else if n % 12 = 9 then (4, zEv, [], 0, 0)
  else if n % 12 = 10 then (5, zEv, [], x % 32, y)
  else (6, zEv, [], x % 32, 0)
theorem M6z : M6ok zMac := ⟨⟨by decide, by decide⟩, ⟨by decide, by decide⟩, ⟨by decide, by decide⟩, ⟨by decide, by decide⟩, ⟨by decide, by decide⟩, ⟨by decide, by decide⟩⟩
theorem by8_0 : by8 0 := ⟨by decide, by decide⟩
theorem by8_2 : by8 2 := ⟨by decide, by decide⟩
theorem stn_ok (b : Int) : M6ok (stnS b) := ⟨by8_2, by8_0, by8_0, by8_0, by8_0, ⟨by show (0 : Int) ≤ 1 + b % 3; omega, by show 1 + b % 3 < 256; omega⟩⟩
theorem zero_in : in32 0 := ⟨by decide, by decide⟩
theorem blk_in (y z : Int) : in32 (blkS y z).1 ∧ bo (blkS y z).2 := by
  obtain ⟨j, hj, ej, eW⟩ := Wd29 (z := z)
  have hn := near_in (b := y)
  have hp : (0 : Int) < Wd (29 + z % 4) := by rw [eW]; exact Int.pow_pos (by decide)
  have h1 := Int.emod_nonneg (nearS y) (b := Wd (29 + z % 4)) (by omega)
  have h2 := emod_le hn.1 hp
  refine ⟨⟨?_, ?_⟩, ?_⟩
  · show 0 ≤ nearS y - nearS y % Wd (29 + z % 4); omega
  · show nearS y - nearS y % Wd (29 + z % 4) < 4294967296; have := hn.2; omega
  · show bo (29 + z % 4); unfold bo; omega
theorem evS_ok (x y z : Int) : EvOk (evS x y z) := by
  unfold evS
  split
  · refine ⟨near_in, ?_, ?_, zero_in, fun h => by simp at h⟩
    · show M6ok (if 128 ≤ z then stnS z else zMac)
      split
      · exact stn_ok z
      · exact M6z
    · show [UInt8.ofNat (97 + z % 3).toNat].length ≤ _; simp
  split
  · exact ⟨zero_in, M6z, by show ([] : List UInt8).length ≤ _; simp, (blk_in y z).1, fun _ => (blk_in y z).2⟩
  split
  · exact ⟨near_in, M6z, by show ([] : List UInt8).length ≤ _; simp, zero_in, fun h => by simp at h⟩
  · rename_i h1 h2 h3
    exact ⟨near_in, M6z, by show ([] : List UInt8).length ≤ _; simp, zero_in, fun h => by simp at h; omega⟩
theorem one_eq {n x y z : Int} (hn : by8 n) (hx : by8 x) (hy : by8 y) (hz : by8 z) : script_one [n, x, y, z] = some (oneS n x y z, ()) := by
  unfold script_one
  have hn0 := hn.1
  have hx0 := hx.1
  have hx1 := hx.2
  have hy0 := hy.1
  have hy1 := hy.2
  have en : n.tmod 12 = n % 12 := Int.tmod_eq_emod_of_nonneg hn0
  have e30 : x.tmod 30 = x % 30 := Int.tmod_eq_emod_of_nonneg hx0
  have e32 : x.tmod 32 = x % 32 := Int.tmod_eq_emod_of_nonneg hx0
  have w1 : IntKind.i64.wrap x = x := w64 (by omega) (by omega)
  have w2 : IntKind.i64.wrap y = y := w64 (by omega) (by omega)
  have w3 : IntKind.i64.wrap (1 + x % 30) = 1 + x % 30 := w64 (by omega) (by omega)
  have g0 : [n, x, y, z].getD 0 0 = n := rfl
  have g1 : [n, x, y, z].getD 1 0 = x := rfl
  have g2 : [n, x, y, z].getD 2 0 = y := rfl
  have g3 : [n, x, y, z].getD 3 0 = z := rfl
  have gs : sliceA 1 (([n, x, y, z].length : Nat) : Int).toNat [n, x, y, z] = [x, y, z] := rfl
  have c0 : (0 : Int) ≤ 0 ∧ (0 : Int) < (([n, x, y, z].length : Nat) : Int) := by simp
  have c1 : (0 : Int) ≤ 1 ∧ (1 : Int) < (([n, x, y, z].length : Nat) : Int) := by simp
  have c2 : (0 : Int) ≤ 2 ∧ (2 : Int) < (([n, x, y, z].length : Nat) : Int) := by simp
  have c3 : (0 : Int) ≤ 3 ∧ (3 : Int) < (([n, x, y, z].length : Nat) : Int) := by simp
  have c4 : (0 : Int) ≤ 1 ∧ (1 : Int) ≤ (([n, x, y, z].length : Nat) : Int) ∧ (([n, x, y, z].length : Nat) : Int) ≤ (([n, x, y, z].length : Nat) : Int) := by simp
  have n12 : ¬ (12 : Int) = 0 := by decide
  have n30 : ¬ (30 : Int) = 0 := by decide
  have n32 : ¬ (32 : Int) = 0 := by decide
  simp only [chk_of_pos c0, chk_of_pos c1, chk_of_pos c2, chk_of_pos c3, chk_of_pos c4, chk_of_pos n12, chk_of_pos n30, chk_of_pos n32, ltO_def, g0, g1, g2, g3, gs, en, e30, e32, w1, w2, w3, event_eq hx hy hz, bnd_val, cmd_eq (evS_ok x y z), cnd_ite, beq_iff_eq]
  unfold oneS
  have hr : n % 12 = 0 ∨ n % 12 = 1 ∨ n % 12 = 2 ∨ n % 12 = 3 ∨ n % 12 = 4 ∨ n % 12 = 5 ∨ n % 12 = 6 ∨ n % 12 = 7 ∨ n % 12 = 8 ∨ n % 12 = 9 ∨ n % 12 = 10 ∨ n % 12 = 11 := by omega
  rcases hr with h | h | h | h | h | h | h | h | h | h | h | h <;> simp [h]
  by_cases hc : cmdT (evS x y z) = [] <;> simp [hc]
def actsS : List Int → List TAct
  | n :: x :: y :: z :: r => oneS n x y z :: actsS r
  | _ => []
theorem actsS_short {b : List Int} (h : b.length < 4) : actsS b = [] := by
  match b, h with
  | [], _ => rfl
  | [_], _ => rfl
  | [_, _], _ => rfl
  | [_, _, _], _ => rfl
def by8s (b : List Int) : Prop := ∀ c ∈ b, by8 c
theorem acts_loop : ∀ (m : Nat) (b : List Int) (out : List TAct), b.length ≤ m → by8s b → out.length + b.length ≤ 1000000000000 → script_Acts_l0 (b, out, ()) = some (.inl (out ++ actsS b, ()))
  | m, b, out, hm, hb, hl => by
    unfold script_Acts_l0
    by_cases h4 : b.length < 4
    · rw [loopM_last (y := .inl (out, ()))]
      · rw [actsS_short h4, List.append_nil]
      · unfold script_Acts_b0
        simp only
        rw [decide_eq_false (by omega)]; rfl
    · match m, b, hm, hb, hl, h4 with
      | 0, [], _, _, _, h4 => exact absurd (by simp) h4
      | m + 1, n :: x :: y :: z :: r, hm, hb, hl, h4 =>
        have hn := hb n (by simp)
        have hx := hb x (by simp)
        have hy := hb y (by simp)
        have hz := hb z (by simp)
        simp only [List.length_cons] at hm hl
        have st : script_Acts_b0 (n :: x :: y :: z :: r) out = some (.inl (r, out ++ [oneS n x y z], ())) := by
          unfold script_Acts_b0
          have s1 : sliceA 0 4 (n :: x :: y :: z :: r) = [n, x, y, z] := by simp [sliceA]
          have s2 : sliceA 4 (((n :: x :: y :: z :: r).length : Nat) : Int).toNat (n :: x :: y :: z :: r) = r := by
            simp only [sliceA, Int.toNat_natCast]; simp
          rw [decide_eq_true (by simp only [List.length_cons]; omega), cnd_true, chk_pos (by simp only [List.length_cons]; omega), s1, one_eq hn hx hy hz]
          simp only [bnd_val]
          rw [s2, chk_pos (by show _ * _ ≤ _; simp only [List.length_cons, List.length_nil]; omega), chk_pos (by simp only [List.length_cons]; omega)]
        rw [loopM_next (s' := (r, out ++ [oneS n x y z], ())) st]
        have ih := acts_loop m r (out ++ [oneS n x y z]) (by omega) (fun c hc => hb c (by simp [hc])) (by simp only [List.length_append, List.length_cons, List.length_nil]; omega)
        unfold script_Acts_l0 at ih
        rw [ih]
        simp [actsS]
      | m + 1, [_], _, _, _, h4 => exact absurd (by simp) h4
      | m + 1, [_, _], _, _, _, h4 => exact absurd (by simp) h4
      | m + 1, [_, _, _], _, _, _, h4 => exact absurd (by simp) h4
      | m + 1, [], _, _, _, h4 => exact absurd (by simp) h4
theorem Acts_eq {b : List Int} (hb : by8s b) (hl : b.length ≤ 1000000000000) : script_Acts b = some (actsS b, ()) := by
  unfold script_Acts
  rw [acts_loop b.length b [] (Nat.le_refl _) hb (by simp; omega)]
  rfl
theorem awakeS_eq : terrierlaw22_awake = some (true, ()) := by
  unfold terrierlaw22_awake
  rw [Acts_eq (by intro c hc; simp at hc; rcases hc with rfl | rfl | rfl | rfl | rfl | rfl | rfl <;> exact ⟨by decide, by decide⟩) (by decide)]
  have e : actsS [6, 9, 0, 0, 0, 1, 5, 0, 1] = [oneS 6 9 0 0, oneS 0 1 5 0] := rfl
  rw [e]
  simp only [bnd_val, ltO_def, chk_same]
  simp [oneS, evS, nearS, chk]
end Go.Tr
namespace Go.Tr
open Go
set_option linter.unusedVariables false
set_option linter.unusedSimpArgs false
set_option maxRecDepth 100000
set_option maxHeartbeats 4000000
end Go.Tr
