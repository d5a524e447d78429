/- Acts of bytes: what the printed functions of layer 22 come to. Acts of bytes: one act, all of them. The laws of acts of bytes. Conditions: none but those that each theorem states. -/
import Derived.Test.YtdbpknejbpiebaaMacS
import Derived.Test.YtdbpknejbpiebaaAddrS
import Derived.Test.YtdbpknejbpiebaaScriptD
namespace Go.Tr
open Go
set_option linter.unusedVariables false
set_option linter.unusedSimpArgs false
set_option maxRecDepth 100000
set_option maxHeartbeats 4000000

def nearS (b : Int) : Int := 167772160 + b % 24
def stnS (b : Int) : TMac := (2, 0, 0, 0, 0, 1 + b % 3)
def blkS (y z : Int) : Int × Int := (nearS y - nearS y % Wd (29 + z % 4), 29 + z % 4)
def evS (x y z : Int) : TEv :=
  if x % 7 = 0 then (1, (nearS y, [UInt8.ofNat (97 + z % 3).toNat], if 128 ≤ z then stnS z else zMac), (0, 0), 0, zMac, 0)
  else if x % 7 = 2 ∨ x % 7 = 3 then (x % 7 + 1, zHold, blkS y z, 0, zMac, 0)
  else if x % 7 = 4 then (5, (nearS y, [], zMac), (0, 0), z % 4, stnS (z / 4), 0)
  else (x % 7 + 1, (nearS y, [], zMac), (0, 0), 0, zMac, 0)

theorem near_eq {b : Int} (h : by8 b) : script_near b = some (nearS b, ()) := by
  unfold script_near
  have h0 := h.1
  have h1 := h.2
  have e : b.tmod 24 = b % 24 := Int.tmod_eq_emod_of_nonneg h0
  rw [chk_pos (by decide), ltO_def, e, ltO_def, wu32 (n := b % 24) (by omega) (by omega), ltO_def, wu32 (by omega) (by omega)]
  rfl
theorem station_eq {b : Int} (h : by8 b) : script_station b = some (stnS b, ()) := by
  unfold script_station
  have h0 := h.1
  have h1 := h.2
  have e : b.tmod 3 = b % 3 := Int.tmod_eq_emod_of_nonneg h0
  rw [chk_pos (by decide), ltO_def, e, ltO_def, wu8 (by omega) (by omega)]
  rfl
theorem near_in {b : Int} : in32 (nearS b) := by unfold nearS in32; omega

theorem Wd29 {z : Int} : ∃ j : Nat, j ≤ 3 ∧ 32 - (29 + z % 4) = (j : Int) ∧ Wd (29 + z % 4) = 2 ^ j := by
  refine ⟨(3 - z % 4).toNat, by omega, by omega, ?_⟩
  unfold Wd
  rw [show (32 - (29 + z % 4)).toNat = (3 - z % 4).toNat from by omega]

theorem emod_le {a b : Int} (h : 0 ≤ a) (hb : 0 < b) : a % b ≤ a := by
  have h1 := Int.mul_ediv_add_emod a b
  have h2 : 0 ≤ b * (a / b) := Int.mul_nonneg (by omega) (Int.ediv_nonneg h (by omega))
  omega
theorem bandn_low {a : Int} (ha : in32 a) (j : Nat) (hj : j ≤ 3) : IntKind.u32.wrap (bandnI .u32 a (IntKind.u32.wrap (shlI .u32 1 (j : Int) - 1))) = a - a % 2 ^ j := by
  have h0 := ha.1
  have h1 := ha.2
  have key : ∀ j : Fin 4, IntKind.u32.wrap (shlI .u32 1 (j.val : Int) - 1) = 2 ^ j.val - 1 ∧ (~~~ BitVec.ofInt 32 ((2 : Int) ^ j.val - 1)) = BitVec.ofInt 32 ((2 : Int) ^ 32 - 2 ^ j.val) := by decide
  have k1 := key ⟨j, by omega⟩
  rw [k1.1]
  have e : bandnI .u32 a (2 ^ j - 1) = bandI .u32 a ((2 : Int) ^ 32 - 2 ^ j) := by
    unfold bandnI bandI
    have : (~~~ BitVec.ofInt IntKind.u32.bits ((2 : Int) ^ j - 1)) = BitVec.ofInt IntKind.u32.bits ((2 : Int) ^ 32 - 2 ^ j) := k1.2
    rw [this]
  have hbh : bandI .u32 a ((2 : Int) ^ 32 - 2 ^ j) = a - a % 2 ^ j := band_high (k := .u32) j h0 (by show a < 2 ^ 32; omega) rfl (by show j ≤ 32; omega)
  rw [e, hbh]
  have hp : (0 : Int) < 2 ^ j := Int.pow_pos (by decide)
  have := Int.emod_nonneg a (b := 2 ^ j) (by omega)
  have := emod_le (b := 2 ^ j) h0 hp
  rw [wu32 (by omega) (by omega)]

theorem event_eq {x y z : Int} (hx : by8 x) (hy : by8 y) (hz : by8 z) : script_event x y z = some (evS x y z, ()) := by
  unfold script_event
  have hx0 := hx.1
  have hx1 := hx.2
  have hz0 := hz.1
  have hz1 := hz.2
  have e : x.tmod 7 = x % 7 := Int.tmod_eq_emod_of_nonneg hx0
  have e3 : z.tmod 3 = z % 3 := Int.tmod_eq_emod_of_nonneg hz0
  have e4 : z.tmod 4 = z % 4 := Int.tmod_eq_emod_of_nonneg hz0
  have e5 : z.tdiv 4 = z / 4 := Int.tdiv_eq_ediv_of_nonneg hz0
  have wz : IntKind.u8.wrap (97 + z % 3) = 97 + z % 3 := wu8 (by omega) (by omega)
  have w1 : IntKind.i64.wrap (x % 7 + 1) = x % 7 + 1 := w64 (by omega) (by omega)
  have w2 : IntKind.i64.wrap (z % 4) = z % 4 := w64 (by omega) (by omega)
  have w3 : IntKind.i64.wrap (29 + z % 4) = 29 + z % 4 := w64 (by omega) (by omega)
  have w4 : IntKind.i64.wrap (32 - (29 + z % 4)) = 32 - (29 + z % 4) := w64 (by omega) (by omega)
  have w5 : IntKind.u8.wrap (z / 4) = z / 4 := wu8 (by omega) (by omega)
  have w6 : IntKind.i64.wrap x = x := w64 (by omega) (by omega)
  have w7 : IntKind.i64.wrap z = z := w64 (by omega) (by omega)
  obtain ⟨j, hj, ej, eW⟩ := Wd29 (z := z)
  have hb : IntKind.u32.wrap (bandnI .u32 (nearS y) (IntKind.u32.wrap (shlI .u32 1 (32 - (29 + z % 4)) - 1))) = nearS y - nearS y % Wd (29 + z % 4) := by
    rw [ej, eW]; exact bandn_low near_in j hj
  have s4 := station_eq (b := z / 4) ⟨by omega, by omega⟩
  simp only [ltO_def, near_eq hy, bnd_val, e, e3, e4, e5, w1, w2, w3, w4, w5, w6, w7, wz, station_eq hz, s4, hb, cnd_ite, beq_iff_eq, decide_eq_true_eq, ge_iff_le]
  rw [chk_pos (by decide)]
  unfold evS
  have hr : x % 7 = 0 ∨ x % 7 = 1 ∨ x % 7 = 2 ∨ x % 7 = 3 ∨ x % 7 = 4 ∨ x % 7 = 5 ∨ x % 7 = 6 := by omega
  rcases hr with h | h | h | h | h | h | h
  · simp only [h]
    by_cases h8 : 128 ≤ z
    · simp [h8, toBytes, zMac, chk]
    · simp [h8, toBytes, zMac, chk]
  all_goals simp [h, chk, blkS, zHold, zMac]
  all_goals omega

theorem levent_eq {x y z : Int} (hx : by8 x) (hy : by8 y) (hz : by8 z) : terrierlaw22_event x y z = some (evS x y z, ()) := by
  unfold terrierlaw22_event
  have hx0 := hx.1
  have hx1 := hx.2
  have hy0 := hy.1
  have hy1 := hy.2
  have hz0 := hz.1
  have hz1 := hz.2
  have e : x.tmod 7 = x % 7 := Int.tmod_eq_emod_of_nonneg hx0
  have ey : y.tmod 24 = y % 24 := Int.tmod_eq_emod_of_nonneg hy0
  have e3 : z.tmod 3 = z % 3 := Int.tmod_eq_emod_of_nonneg hz0
  have e4 : z.tmod 4 = z % 4 := Int.tmod_eq_emod_of_nonneg hz0
  have e5 : z.tdiv 4 = z / 4 := Int.tdiv_eq_ediv_of_nonneg hz0
  have e6 : (z / 4).tmod 3 = z / 4 % 3 := Int.tmod_eq_emod_of_nonneg (by omega)
  have wy : IntKind.u32.wrap (y % 24) = y % 24 := wu32 (by omega) (by omega)
  have wy2 : IntKind.u32.wrap (167772160 + y % 24) = nearS y := wu32 (by omega) (by omega)
  have wz : IntKind.u8.wrap (z % 3 + 1) = z % 3 + 1 := wu8 (by omega) (by omega)
  have wz2 : IntKind.u8.wrap (1 + z % 3) = 1 + z % 3 := wu8 (by omega) (by omega)
  have wz3 : IntKind.u8.wrap (1 + z / 4 % 3) = 1 + z / 4 % 3 := wu8 (by omega) (by omega)
  have w1 : IntKind.u8.wrap (1 + x % 7) = 1 + x % 7 := wu8 (by omega) (by omega)
  have w1' : IntKind.i64.wrap (1 + x % 7) = 1 + x % 7 := w64 (by omega) (by omega)
  have w2 : IntKind.i64.wrap (z % 4) = z % 4 := w64 (by omega) (by omega)
  have w3 : IntKind.i64.wrap (29 + z % 4) = 29 + z % 4 := w64 (by omega) (by omega)
  have w4 : IntKind.i64.wrap (32 - (29 + z % 4)) = 32 - (29 + z % 4) := w64 (by omega) (by omega)
  have w5 : IntKind.u8.wrap (z / 4) = z / 4 := wu8 (by omega) (by omega)
  obtain ⟨j, hj, ej, eW⟩ := Wd29 (z := z)
  have hn := near_in (b := y)
  have hb : shlI .u32 (shrI .u32 (nearS y) (32 - (29 + z % 4))) (32 - (29 + z % 4)) = nearS y - nearS y % Wd (29 + z % 4) := by
    rw [ej, eW, shr_eq j (by show j ≤ 32; omega), shl_eq j (by show j ≤ 32; omega)]
    have h1 := Int.mul_ediv_add_emod (nearS y) (2 ^ j)
    have hp : (0 : Int) < 2 ^ j := Int.pow_pos (by decide)
    have h2 := Int.emod_nonneg (nearS y) (b := 2 ^ j) (by omega)
    have h3 := emod_le (b := 2 ^ j) hn.1 hp
    have e : nearS y / 2 ^ j * 2 ^ j = nearS y - nearS y % 2 ^ j := by rw [Int.mul_comm]; omega
    rw [e]
    have := hn.2
    exact wu32 (by omega) (by omega)
  have hs : sliceA (z % 3).toNat (z % 3 + 1).toNat [(97 : UInt8), 98, 99] = [UInt8.ofNat (97 + z % 3).toNat] := by
    exact all_n (p := fun n => sliceA n.toNat (n + 1).toNat [(97 : UInt8), 98, 99] = [UInt8.ofNat (97 + n).toNat]) 3 (by decide) (by omega) (by omega)
  simp only [ltO_def, bnd_val, e, ey, e3, e4, e5, e6, wy, wy2, w1, w1', w2, w3, w4, w5, wz, wz2, wz3, hb, hs, cnd_ite, beq_iff_eq, decide_eq_true_eq, ge_iff_le, gt_iff_lt]
  rw [chk_pos (by decide), chk_pos (by decide)]
  unfold evS
  have hr : x % 7 = 0 ∨ x % 7 = 1 ∨ x % 7 = 2 ∨ x % 7 = 3 ∨ x % 7 = 4 ∨ x % 7 = 5 ∨ x % 7 = 6 := by omega
  have h3 : 0 ≤ z % 3 ∧ z % 3 ≤ z % 3 + 1 ∧ z % 3 + 1 ≤ 3 := by omega
  rcases hr with h | h | h | h | h | h | h
  · simp only [h]
    by_cases h8 : 128 ≤ z
    · have h9 : 127 < z := by omega
      simp [h8, h9, zMac, chk, stnS, h3]
    · have h9 : ¬ 127 < z := by omega
      simp [h8, h9, zMac, chk, h3]
  all_goals simp [h, chk, blkS, zHold, zMac, stnS]
  all_goals omega

/-- A command's word. -/
def wordS (w : Int) : List UInt8 :=
  if w = 1 then [104, 111, 108, 100] else if w = 2 then [100, 114, 111, 112] else if w = 3 then [119, 97, 116, 99, 104] else if w = 4 then [105, 103, 110, 111, 114, 101]
  else if w = 6 then [97, 112, 112, 114, 111, 118, 101] else if w = 7 then [114, 101, 106, 101, 99, 116] else []
theorem word_eq (w : Int) : command_word w = some (wordS w, ()) := by
  unfold command_word
  by_cases h : 0 ≤ w ∧ w < 8
  · have : ∀ n : Fin 8, ([[], [(104 : UInt8), 111, 108, 100], [100, 114, 111, 112], [119, 97, 116, 99, 104], [105, 103, 110, 111, 114, 101], [], [97, 112, 112, 114, 111, 118, 101], [114, 101, 106, 101, 99, 116]] : List (List UInt8)).getD n.val [] = wordS (n.val : Int) := by decide
    have h2 := this ⟨w.toNat, by omega⟩
    simp only [Int.toNat_of_nonneg h.1] at h2
    simp only [chk_same, chk_nn, ltO_def]
    have e8 : (decide (w < 0) || decide (w ≥ 8)) = false := by simp; omega
    rw [e8, cnd_false, chk_pos h, chk_pos (by omega)]
    exact congrArg (fun l => some (l, ())) h2
  · have e : wordS w = [] := by
      unfold wordS
      repeat rw [if_neg (by omega)]
    simp only [chk_same, chk_nn, ltO_def]
    have e8 : (decide (w < 0) || decide (w ≥ 8)) = true := by simp; omega
    rw [e8, cnd_true, e]

/-- An event as a command. -/
def cmdT (e : TEv) : List UInt8 :=
  if e.1 = 3 ∨ e.1 = 4 then wordS e.1 ++ [32] ++ bt e.2.2.1
  else if e.1 = 1 then (if e.2.1.2.2 = (0, 0, 0, 0, 0, 0) then wordS 1 ++ [32] ++ adT e.2.1.1 ++ [32] ++ e.2.1.2.1 else wordS 1 ++ [32] ++ adT e.2.1.1 ++ [32] ++ e.2.1.2.1 ++ [32] ++ lowT e.2.1.2.2)
  else if e.1 = 2 ∨ e.1 = 6 ∨ e.1 = 7 then wordS e.1 ++ [32] ++ adT e.2.1.1 else []

structure EvOk (e : TEv) : Prop where
  a : in32 e.2.1.1
  m : M6ok e.2.1.2.2
  o : e.2.1.2.1.length ≤ 140737488355328
  b : in32 e.2.2.1.1
  bb : e.1 = 3 ∨ e.1 = 4 → bo e.2.2.1.2

theorem ds_len {u : Nat} : (ds u).length ≤ 3 := by
  unfold ds; split <;> (try split) <;> simp
theorem wordS_len (w : Int) : (wordS w).length ≤ 7 := by
  unfold wordS; (repeat' split) <;> decide
theorem bt_len (b : Int × Int) : (bt b).length ≤ 19 := by
  unfold bt
  have := adT_len b.1
  have := ds_len (u := b.2.toNat)
  simp; omega
theorem lowT_len (m : M6) : (lowT m).length = 17 := rfl

theorem cmd_eq {e : TEv} (h : EvOk e) : command_Text e = some (cmdT e, ()) := by
  unfold command_Text cmdT
  have ha := adT_len e.2.1.1
  have hb := bt_len e.2.2.1
  have hw := wordS_len e.1
  have ho := h.o
  simp only [ltO_def, cnd_ite, beq_iff_eq, word_eq, bnd_val, Text_eq h.a, none_eq, text_eq h.m]
  by_cases h3 : e.1 = 3
  · simp only [if_pos h3, h3, BlockText_eq h.b (h.bb (.inl h3)), bnd_val]
    rw [h3] at hw
    rw [chk_pos (by omega), chk_pos (by simp only [List.length_append, List.length_cons, List.length_nil]; omega)]; simp
  by_cases h4 : e.1 = 4
  · simp only [if_neg h3, if_pos h4, h4, BlockText_eq h.b (h.bb (.inr h4)), bnd_val]
    rw [h4] at hw
    rw [chk_pos (by omega), chk_pos (by simp only [List.length_append, List.length_cons, List.length_nil]; omega)]; simp
  simp only [if_neg h3, if_neg h4, h3, h4, or_self, if_false]
  by_cases h1 : e.1 = 1
  · simp only [if_pos h1]
    have hl := lowT_len e.2.1.2.2
    rw [chk_pos (by omega), chk_pos (by simp only [List.length_append, List.length_cons, List.length_nil]; omega), chk_pos (by simp only [List.length_append, List.length_cons, List.length_nil]; omega)]
    by_cases hm : e.2.1.2.2 = (0, 0, 0, 0, 0, 0)
    · rw [if_pos hm, if_pos hm]; simp [wordS]
    · rw [if_neg hm, if_neg hm, chk_pos (by simp only [List.length_append, List.length_cons, List.length_nil]; omega), chk_pos (by simp only [List.length_append, List.length_cons, List.length_nil]; omega)]
      simp [wordS]
  simp only [if_neg h1]
  by_cases h2 : e.1 = 2
  · simp only [if_pos h2, h2, true_or, if_true]
    rw [h2] at hw
    rw [chk_pos (by omega), chk_pos (by simp only [List.length_append, List.length_cons, List.length_nil]; omega)]
  by_cases h6 : e.1 = 6
  · simp only [if_neg h2, if_pos h6, h6, true_or, or_true, if_true]
    rw [h6] at hw
    rw [chk_pos (by omega), chk_pos (by simp only [List.length_append, List.length_cons, List.length_nil]; omega)]
    simp
  by_cases h7 : e.1 = 7
  · simp only [if_neg h2, if_neg h6, if_pos h7, h7, or_true, if_true]
    rw [h7] at hw
    rw [chk_pos (by omega), chk_pos (by simp only [List.length_append, List.length_cons, List.length_nil]; omega)]
    simp
  · simp only [if_neg h2, if_neg h6, if_neg h7, h2, h6, h7, or_self, if_false]

end Go.Tr
namespace Go.Tr
open Go
set_option linter.unusedVariables false
set_option linter.unusedSimpArgs false
set_option maxRecDepth 100000
set_option maxHeartbeats 4000000

def oneS (n x y z : Int) : TAct :=
  if n % 12 ≤ 3 then (0, evS x y z, [], 0, 0)
  else if n % 12 = 4 then (1, zEv, [], x, y)
  else if n % 12 = 5 then (2, zEv, if cmdT (evS x y z) = [] then toBytes [x, y, z] else cmdT (evS x y z), 0, 0)
  else if n % 12 ≤ 8 then (3, zEv, [], 1 + x % 30, 0)
  else if n % 12 = 9 then (4, zEv, [], 0, 0)
  else if n % 12 = 10 then (5, zEv, [], x % 32, y)
  else (6, zEv, [], x % 32, 0)

theorem M6z : M6ok zMac := ⟨⟨by decide, by decide⟩, ⟨by decide, by decide⟩, ⟨by decide, by decide⟩, ⟨by decide, by decide⟩, ⟨by decide, by decide⟩, ⟨by decide, by decide⟩⟩
theorem by8_0 : by8 0 := ⟨by decide, by decide⟩
theorem by8_2 : by8 2 := ⟨by decide, by decide⟩
theorem stn_ok (b : Int) : M6ok (stnS b) := ⟨by8_2, by8_0, by8_0, by8_0, by8_0, ⟨by show (0 : Int) ≤ 1 + b % 3; omega, by show 1 + b % 3 < 256; omega⟩⟩
theorem zero_in : in32 0 := ⟨by decide, by decide⟩
theorem blk_in (y z : Int) : in32 (blkS y z).1 ∧ bo (blkS y z).2 := by
  obtain ⟨j, hj, ej, eW⟩ := Wd29 (z := z)
  have hn := near_in (b := y)
  have hp : (0 : Int) < Wd (29 + z % 4) := by rw [eW]; exact Int.pow_pos (by decide)
  have h1 := Int.emod_nonneg (nearS y) (b := Wd (29 + z % 4)) (by omega)
  have h2 := emod_le hn.1 hp
  refine ⟨⟨?_, ?_⟩, ?_⟩
  · show 0 ≤ nearS y - nearS y % Wd (29 + z % 4); omega
  · show nearS y - nearS y % Wd (29 + z % 4) < 4294967296; have := hn.2; omega
  · show bo (29 + z % 4); unfold bo; omega

theorem evS_ok (x y z : Int) : EvOk (evS x y z) := by
  unfold evS
  split
  · refine ⟨near_in, ?_, ?_, zero_in, fun h => by simp at h⟩
    · show M6ok (if 128 ≤ z then stnS z else zMac)
      split
      · exact stn_ok z
      · exact M6z
    · show [UInt8.ofNat (97 + z % 3).toNat].length ≤ _; simp
  split
  · exact ⟨zero_in, M6z, by show ([] : List UInt8).length ≤ _; simp, (blk_in y z).1, fun _ => (blk_in y z).2⟩
  split
  · exact ⟨near_in, M6z, by show ([] : List UInt8).length ≤ _; simp, zero_in, fun h => by simp at h⟩
  · rename_i h1 h2 h3
    exact ⟨near_in, M6z, by show ([] : List UInt8).length ≤ _; simp, zero_in, fun h => by simp at h; omega⟩

theorem one_eq {n x y z : Int} (hn : by8 n) (hx : by8 x) (hy : by8 y) (hz : by8 z) : script_one [n, x, y, z] = some (oneS n x y z, ()) := by
  unfold script_one
  have hn0 := hn.1
  have hx0 := hx.1
  have hx1 := hx.2
  have hy0 := hy.1
  have hy1 := hy.2
  have en : n.tmod 12 = n % 12 := Int.tmod_eq_emod_of_nonneg hn0
  have e30 : x.tmod 30 = x % 30 := Int.tmod_eq_emod_of_nonneg hx0
  have e32 : x.tmod 32 = x % 32 := Int.tmod_eq_emod_of_nonneg hx0
  have w1 : IntKind.i64.wrap x = x := w64 (by omega) (by omega)
  have w2 : IntKind.i64.wrap y = y := w64 (by omega) (by omega)
  have w3 : IntKind.i64.wrap (1 + x % 30) = 1 + x % 30 := w64 (by omega) (by omega)
  have g0 : [n, x, y, z].getD 0 0 = n := rfl
  have g1 : [n, x, y, z].getD 1 0 = x := rfl
  have g2 : [n, x, y, z].getD 2 0 = y := rfl
  have g3 : [n, x, y, z].getD 3 0 = z := rfl
  have gs : sliceA 1 (([n, x, y, z].length : Nat) : Int).toNat [n, x, y, z] = [x, y, z] := rfl
  have c0 : (0 : Int) ≤ 0 ∧ (0 : Int) < (([n, x, y, z].length : Nat) : Int) := by simp
  have c1 : (0 : Int) ≤ 1 ∧ (1 : Int) < (([n, x, y, z].length : Nat) : Int) := by simp
  have c2 : (0 : Int) ≤ 2 ∧ (2 : Int) < (([n, x, y, z].length : Nat) : Int) := by simp
  have c3 : (0 : Int) ≤ 3 ∧ (3 : Int) < (([n, x, y, z].length : Nat) : Int) := by simp
  have c4 : (0 : Int) ≤ 1 ∧ (1 : Int) ≤ (([n, x, y, z].length : Nat) : Int) ∧ (([n, x, y, z].length : Nat) : Int) ≤ (([n, x, y, z].length : Nat) : Int) := by simp
  have n12 : ¬ (12 : Int) = 0 := by decide
  have n30 : ¬ (30 : Int) = 0 := by decide
  have n32 : ¬ (32 : Int) = 0 := by decide
  simp only [chk_of_pos c0, chk_of_pos c1, chk_of_pos c2, chk_of_pos c3, chk_of_pos c4, chk_of_pos n12, chk_of_pos n30, chk_of_pos n32, ltO_def, g0, g1, g2, g3, gs, en, e30, e32, w1, w2, w3, event_eq hx hy hz, bnd_val, cmd_eq (evS_ok x y z), cnd_ite, beq_iff_eq]
  unfold oneS
  have hr : n % 12 = 0 ∨ n % 12 = 1 ∨ n % 12 = 2 ∨ n % 12 = 3 ∨ n % 12 = 4 ∨ n % 12 = 5 ∨ n % 12 = 6 ∨ n % 12 = 7 ∨ n % 12 = 8 ∨ n % 12 = 9 ∨ n % 12 = 10 ∨ n % 12 = 11 := by omega
  rcases hr with h | h | h | h | h | h | h | h | h | h | h | h <;> simp [h]
  by_cases hc : cmdT (evS x y z) = [] <;> simp [hc]

theorem act_eq {n x y z : Int} (hn : by8 n) (hx : by8 x) (hy : by8 y) (hz : by8 z) : terrierlaw22_act [n, x, y, z] = some (oneS n x y z, ()) := by
  unfold terrierlaw22_act
  have hn0 := hn.1
  have hx0 := hx.1
  have hx1 := hx.2
  have hy0 := hy.1
  have hy1 := hy.2
  have en : n.tmod 12 = n % 12 := Int.tmod_eq_emod_of_nonneg hn0
  have e30 : x.tmod 30 = x % 30 := Int.tmod_eq_emod_of_nonneg hx0
  have e32 : x.tmod 32 = x % 32 := Int.tmod_eq_emod_of_nonneg hx0
  have w1 : IntKind.i64.wrap x = x := w64 (by omega) (by omega)
  have w2 : IntKind.i64.wrap y = y := w64 (by omega) (by omega)
  have w3 : IntKind.i64.wrap (x % 30 + 1) = 1 + x % 30 := by rw [w64 (by omega) (by omega)]; omega
  have w4 : IntKind.i64.wrap (x % 32) = x % 32 := w64 (by omega) (by omega)
  have g0 : [n, x, y, z].getD 0 0 = n := rfl
  have g1 : [n, x, y, z].getD 1 0 = x := rfl
  have g2 : [n, x, y, z].getD 2 0 = y := rfl
  have g3 : [n, x, y, z].getD 3 0 = z := rfl
  have c0 : (0 : Int) ≤ 0 ∧ (0 : Int) < (([n, x, y, z].length : Nat) : Int) := by simp
  have c1 : (0 : Int) ≤ 1 ∧ (1 : Int) < (([n, x, y, z].length : Nat) : Int) := by simp
  have c2 : (0 : Int) ≤ 2 ∧ (2 : Int) < (([n, x, y, z].length : Nat) : Int) := by simp
  have c3 : (0 : Int) ≤ 3 ∧ (3 : Int) < (([n, x, y, z].length : Nat) : Int) := by simp
  have n12 : ¬ (12 : Int) = 0 := by decide
  have n30 : ¬ (30 : Int) = 0 := by decide
  have n32 : ¬ (32 : Int) = 0 := by decide
  simp only [chk_of_pos c0, chk_of_pos c1, chk_of_pos c2, chk_of_pos c3, chk_of_pos n12, chk_of_pos n30, chk_of_pos n32, ltO_def, g0, g1, g2, g3, en, e30, e32, w1, w2, w3, w4, levent_eq hx hy hz, bnd_val, cmd_eq (evS_ok x y z), cnd_ite, beq_iff_eq]
  unfold oneS
  have hr : n % 12 = 0 ∨ n % 12 = 1 ∨ n % 12 = 2 ∨ n % 12 = 3 ∨ n % 12 = 4 ∨ n % 12 = 5 ∨ n % 12 = 6 ∨ n % 12 = 7 ∨ n % 12 = 8 ∨ n % 12 = 9 ∨ n % 12 = 10 ∨ n % 12 = 11 := by omega
  rcases hr with h | h | h | h | h | h | h | h | h | h | h | h <;> simp [h]
  by_cases hc : cmdT (evS x y z) = [] <;> simp [hc]

/-- The acts of bytes. -/
def actsS : List Int → List TAct
  | n :: x :: y :: z :: r => oneS n x y z :: actsS r
  | _ => []

theorem actsS_short {b : List Int} (h : b.length < 4) : actsS b = [] := by
  match b, h with
  | [], _ => rfl
  | [_], _ => rfl
  | [_, _], _ => rfl
  | [_, _, _], _ => rfl
theorem actsS_len : ∀ (b : List Int), (actsS b).length = b.length / 4
  | [] => rfl
  | [_] => by simp [actsS]
  | [_, _] => by simp [actsS]
  | [_, _, _] => by simp [actsS]
  | n :: x :: y :: z :: r => by
    simp only [actsS, List.length_cons, actsS_len r]; omega

def by8s (b : List Int) : Prop := ∀ c ∈ b, by8 c

theorem acts_loop : ∀ (m : Nat) (b : List Int) (out : List TAct), b.length ≤ m → by8s b → out.length + b.length ≤ 1000000000000 → script_Acts_l0 (b, out, ()) = some (.inl (out ++ actsS b, ()))
  | m, b, out, hm, hb, hl => by
    unfold script_Acts_l0
    by_cases h4 : b.length < 4
    · rw [loopM_last (y := .inl (out, ()))]
      · rw [actsS_short h4, List.append_nil]
      · unfold script_Acts_b0
        simp only
        rw [decide_eq_false (by omega)]; rfl
    · match m, b, hm, hb, hl, h4 with
      | 0, [], _, _, _, h4 => exact absurd (by simp) h4
      | m + 1, n :: x :: y :: z :: r, hm, hb, hl, h4 =>
        have hn := hb n (by simp)
        have hx := hb x (by simp)
        have hy := hb y (by simp)
        have hz := hb z (by simp)
        simp only [List.length_cons] at hm hl
        have st : script_Acts_b0 (n :: x :: y :: z :: r) out = some (.inl (r, out ++ [oneS n x y z], ())) := by
          unfold script_Acts_b0
          have s1 : sliceA 0 4 (n :: x :: y :: z :: r) = [n, x, y, z] := by simp [sliceA]
          have s2 : sliceA 4 (((n :: x :: y :: z :: r).length : Nat) : Int).toNat (n :: x :: y :: z :: r) = r := by
            simp only [sliceA, Int.toNat_natCast]; simp
          rw [decide_eq_true (by simp only [List.length_cons]; omega), cnd_true, chk_pos (by simp only [List.length_cons]; omega), s1, one_eq hn hx hy hz]
          simp only [bnd_val]
          rw [s2, chk_pos (by show _ * _ ≤ _; simp only [List.length_cons, List.length_nil]; omega), chk_pos (by simp only [List.length_cons]; omega)]
        rw [loopM_next (s' := (r, out ++ [oneS n x y z], ())) st]
        have ih := acts_loop m r (out ++ [oneS n x y z]) (by omega) (fun c hc => hb c (by simp [hc])) (by simp only [List.length_append, List.length_cons, List.length_nil]; omega)
        unfold script_Acts_l0 at ih
        rw [ih]
        simp [actsS]
      | m + 1, [_], _, _, _, h4 => exact absurd (by simp) h4
      | m + 1, [_, _], _, _, _, h4 => exact absurd (by simp) h4
      | m + 1, [_, _, _], _, _, _, h4 => exact absurd (by simp) h4
      | m + 1, [], _, _, _, h4 => exact absurd (by simp) h4

theorem Acts_eq {b : List Int} (hb : by8s b) (hl : b.length ≤ 1000000000000) : script_Acts b = some (actsS b, ()) := by
  unfold script_Acts
  rw [acts_loop b.length b [] (Nat.le_refl _) hb (by simp; omega)]
  rfl

theorem awakeS_eq : terrierlaw22_awake = some (true, ()) := by
  unfold terrierlaw22_awake
  rw [Acts_eq (by intro c hc; simp at hc; rcases hc with rfl | rfl | rfl | rfl | rfl | rfl | rfl <;> exact ⟨by decide, by decide⟩) (by decide)]
  have e : actsS [6, 9, 0, 0, 0, 1, 5, 0, 1] = [oneS 6 9 0 0, oneS 0 1 5 0] := rfl
  rw [e]
  simp only [bnd_val, ltO_def, chk_same]
  simp [oneS, evS, nearS, chk]
end Go.Tr
namespace Go.Tr
open Go
set_option linter.unusedVariables false
set_option linter.unusedSimpArgs false
set_option maxRecDepth 100000
set_option maxHeartbeats 4000000

theorem actsS_get : ∀ (b : List Int) (i : Nat), i < (actsS b).length → ∃ n x y z, b.drop (4 * i) = n :: x :: y :: z :: b.drop (4 * i + 4) ∧ (actsS b).getD i zAct = oneS n x y z
  | [], i, h => by simp [actsS] at h
  | [_], i, h => by simp [actsS] at h
  | [_, _], i, h => by simp [actsS] at h
  | [_, _, _], i, h => by simp [actsS] at h
  | n :: x :: y :: z :: r, i, h => by
    cases i with
    | zero => exact ⟨n, x, y, z, by simp, by simp [actsS]⟩
    | succ i =>
      simp only [actsS, List.length_cons] at h
      obtain ⟨n', x', y', z', h1, h2⟩ := actsS_get r i (by omega)
      refine ⟨n', x', y', z', ?_, by simpa [actsS] using h2⟩
      rw [show 4 * (i + 1) = 4 * i + 1 + 1 + 1 + 1 from by omega, show 4 * i + 1 + 1 + 1 + 1 + 4 = (4 * i + 4) + 1 + 1 + 1 + 1 from by omega]
      simpa using h1

theorem by8s_drop {b : List Int} (h : by8s b) (k : Nat) : by8s (b.drop k) := fun c hc => h c (List.mem_of_mem_drop hc)
theorem by8s_take {b : List Int} (h : by8s b) (k : Nat) : by8s (b.take k) := fun c hc => h c (List.mem_of_mem_take hc)

theorem scriptActs_law {b : List Int} (hb : by8s b) (hl : b.length ≤ 1000000000000) : terrierlaw22_ScriptActs b = some (true, ()) := by
  unfold terrierlaw22_ScriptActs
  rw [awakeS_eq, Acts_eq hb hl]
  have hlen := actsS_len b
  have L : terrierlaw22_ScriptActs_l0 (b, (((actsS b).length : Nat) : Int), 0, actsS b, ()) = some (.inl ()) := by
    unfold terrierlaw22_ScriptActs_l0
    have := loopM_steps (f := fun s : (List Int) × Int × Int × (List TAct) × Unit => terrierlaw22_ScriptActs_b0 s.1 s.2.1 s.2.2.1 s.2.2.2.1)
      (fun i => (b, (((actsS b).length : Nat) : Int), (i : Int), actsS b, ())) (a := 0) (n := (actsS b).length) (by omega)
      (fun i _ hi => by
        show terrierlaw22_ScriptActs_b0 b (((actsS b).length : Nat) : Int) (i : Int) (actsS b) = _
        unfold terrierlaw22_ScriptActs_b0
        obtain ⟨n, x, y, z, h1, h2⟩ := actsS_get b i hi
        have hd := by8s_drop hb (4 * i)
        rw [h1] at hd
        have hs : sliceA ((4 * i : Nat) : Int).toNat ((4 * i + 4 : Nat) : Int).toNat b = [n, x, y, z] := by
          simp only [sliceA, Int.toNat_natCast]
          rw [h1, show 4 * i + 4 - 4 * i = 4 from by omega]; rfl
        have hbl : 4 * i + 4 ≤ b.length := by omega
        rw [decide_eq_true (by omega), cnd_true, chk_pos (by omega), chk_pos (by omega)]
        simp only [ltO_def]
        rw [w64 (n := 4 * (i : Int)) (by omega) (by omega), w64 (n := 4 * (i : Int) + 4) (by omega) (by omega), w64 (n := (i : Int) + 1) (by omega) (by omega), chk_pos (by omega),
          show (4 * (i : Int) + 4) = ((4 * i + 4 : Nat) : Int) from by omega, show (4 * (i : Int)) = ((4 * i : Nat) : Int) from by omega, hs,
          act_eq (hd n (by simp)) (hd x (by simp)) (hd y (by simp)) (hd z (by simp))]
        simp only [bnd_val, Int.toNat_natCast, h2]
        simp)
    have this' : loopM (fun s : (List Int) × Int × Int × (List TAct) × Unit => terrierlaw22_ScriptActs_b0 s.1 s.2.1 s.2.2.1 s.2.2.2.1) (b, (((actsS b).length : Nat) : Int), 0, actsS b, ()) = _ := this
    rw [this', loopM_last (y := .inl ())]
    show terrierlaw22_ScriptActs_b0 b (((actsS b).length : Nat) : Int) (((actsS b).length : Nat) : Int) (actsS b) = _
    unfold terrierlaw22_ScriptActs_b0
    rw [decide_eq_false (by omega)]; rfl
  simp only [bnd_val, Bool.not_true, cnd_false, ltO_def, L, sumO_inl]
  have e : ((b.length : Nat) : Int).tdiv 4 = ((b.length / 4 : Nat) : Int) := by
    rw [Int.tdiv_eq_ediv_of_nonneg (by omega)]; omega
  rw [chk_pos (by decide), e, w64 (by omega) (by omega), hlen]
  simp

theorem actsS_app : ∀ (m : Nat) (a b : List Int), a.length = 4 * m → actsS (a ++ b) = actsS a ++ actsS b
  | 0, [], b, _ => rfl
  | m + 1, n :: x :: y :: z :: r, b, h => by
    simp only [List.length_cons] at h
    simp only [List.cons_append, actsS]
    rw [actsS_app m r b (by omega)]
  | m + 1, [], b, h => by simp at h
  | m + 1, [_], b, h => by simp at h; omega
  | m + 1, [_, _], b, h => by simp at h; omega
  | m + 1, [_, _, _], b, h => by simp at h; omega

theorem scriptParts_law {a b : List Int} (ha : by8s a) (hb : by8s b) (hla : a.length ≤ 400000000000) (hlb : b.length ≤ 400000000000) : terrierlaw22_ScriptParts a b = some (true, ()) := by
  unfold terrierlaw22_ScriptParts
  rw [awakeS_eq]
  have e : ((a.length : Nat) : Int).tdiv 4 = ((a.length / 4 : Nat) : Int) := by
    rw [Int.tdiv_eq_ediv_of_nonneg (by omega)]; omega
  simp only [bnd_val, Bool.not_true, cnd_false, ltO_def]
  rw [chk_pos (by decide), e, w64 (n := ((a.length / 4 : Nat) : Int)) (by omega) (by omega), w64 (n := ((a.length / 4 : Nat) : Int) * 4) (by omega) (by omega), chk_pos (by omega),
    show ((a.length / 4 : Nat) : Int) * 4 = ((a.length / 4 * 4 : Nat) : Int) from by omega]
  have hs : sliceA 0 ((a.length / 4 * 4 : Nat) : Int).toNat a = a.take (a.length / 4 * 4) := by unfold sliceA; rw [Int.toNat_natCast]; simp
  rw [hs]
  have hat := by8s_take ha (a.length / 4 * 4)
  have hlt : (a.take (a.length / 4 * 4)).length = 4 * (a.length / 4) := by rw [List.length_take]; omega
  generalize a.take (a.length / 4 * 4) = c at hat hlt
  have hcb : by8s (c ++ b) := by
    intro x hx
    rcases List.mem_append.1 hx with h | h
    · exact hat x h
    · exact hb x h
  rw [Acts_eq hat (by omega), Acts_eq hb (by omega), Acts_eq hcb (by rw [List.length_append]; omega), actsS_app _ c b hlt]
  simp only [bnd_val]
  rw [chk_pos (by simp only [room1]; omega), chk_pos (by simp only [room1]; omega)]
  have h1 := actsS_len c
  have h2 := actsS_len b
  generalize actsS c = x at h1
  generalize actsS b = y at h2
  have L : terrierlaw22_ScriptParts_l0 ((((x ++ y).length : Nat) : Int), 0, x, y, x ++ y, ()) = some (.inl ()) := by
    unfold terrierlaw22_ScriptParts_l0
    have := loopM_steps (f := fun s : Int × Int × (List TAct) × (List TAct) × (List TAct) × Unit => terrierlaw22_ScriptParts_b0 s.1 s.2.1 s.2.2.1 s.2.2.2.1 s.2.2.2.2.1)
      (fun i => ((((x ++ y).length : Nat) : Int), (i : Int), x, y, x ++ y, ())) (a := 0) (n := (x ++ y).length) (by omega)
      (fun i _ hi => by
        show terrierlaw22_ScriptParts_b0 (((x ++ y).length : Nat) : Int) (i : Int) x y (x ++ y) = _
        unfold terrierlaw22_ScriptParts_b0
        have hi' := hi
        rw [List.length_append] at hi'
        simp only [chk_same, ltO_def]
        rw [decide_eq_true (by omega), cnd_true, chk_pos (by intro _; omega), chk_pos (by intro _; omega), chk_pos (by intro h; simp at h; omega), chk_pos (by intro h; simp at h; omega)]
        by_cases hx : i < x.length
        · have g1 : (x ++ y).getD (i : Int).toNat zAct = x.getD (i : Int).toNat zAct := by
            simp only [Int.toNat_natCast, List.getD_eq_getElem?_getD]; rw [List.getElem?_append_left hx]
          have d1 : decide ((i : Int) < (x.length : Int)) = true := decide_eq_true (by omega)
          have d2 : decide ((i : Int) ≥ (x.length : Int)) = false := decide_eq_false (by omega)
          rw [g1, d1, d2, w64 (n := (i : Int) + 1) (by omega) (by omega)]
          simp
        · have g1 : (x ++ y).getD (i : Int).toNat zAct = y.getD ((i : Int) - (x.length : Int)).toNat zAct := by
            simp only [Int.toNat_natCast, List.getD_eq_getElem?_getD]; rw [List.getElem?_append_right (by omega), show ((i : Int) - (x.length : Int)).toNat = i - x.length from by omega]
          have d1 : decide ((i : Int) < (x.length : Int)) = false := decide_eq_false (by omega)
          have d2 : decide ((i : Int) ≥ (x.length : Int)) = true := decide_eq_true (by omega)
          rw [g1, d1, d2, w64 (n := (i : Int) + 1) (by omega) (by omega), w64 (n := (i : Int) - (x.length : Int)) (by omega) (by omega)]
          have q1 : x.length ≤ i ∧ (i : Int) - (x.length : Int) < (y.length : Int) := by omega
          have q2 : i - x.length < y.length := by omega
          have q3 : (i : Int) < (x.length : Int) + (y.length : Int) := by omega
          simp [chk_of_pos q1, chk_of_pos q2, chk_of_pos q3, chk_of_pos hi'])
    have this' : loopM (fun s : Int × Int × (List TAct) × (List TAct) × (List TAct) × Unit => terrierlaw22_ScriptParts_b0 s.1 s.2.1 s.2.2.1 s.2.2.2.1 s.2.2.2.2.1) ((((x ++ y).length : Nat) : Int), 0, x, y, x ++ y, ()) = _ := this
    rw [this', loopM_last (y := .inl ())]
    show terrierlaw22_ScriptParts_b0 (((x ++ y).length : Nat) : Int) (((x ++ y).length : Nat) : Int) x y (x ++ y) = _
    unfold terrierlaw22_ScriptParts_b0
    rw [decide_eq_false (by omega)]; rfl
  rw [L]
  simp only [bnd_val, sumO_inl, List.length_append]
  rw [w64 (by omega) (by omega)]
  simp

theorem scriptTail_law {b t : List Int} (hb : by8s b) (ht : by8s t) (hlb : b.length ≤ 400000000000) : terrierlaw22_ScriptTail b t = some (true, ()) := by
  unfold terrierlaw22_ScriptTail
  rw [awakeS_eq]
  have e : ((b.length : Nat) : Int).tdiv 4 = ((b.length / 4 : Nat) : Int) := by
    rw [Int.tdiv_eq_ediv_of_nonneg (by omega)]; omega
  simp only [bnd_val, Bool.not_true, cnd_false, ltO_def]
  rw [chk_pos (by decide), e, w64 (n := ((b.length / 4 : Nat) : Int)) (by omega) (by omega), w64 (n := ((b.length / 4 : Nat) : Int) * 4) (by omega) (by omega), chk_pos (by omega),
    show ((b.length / 4 : Nat) : Int) * 4 = ((b.length / 4 * 4 : Nat) : Int) from by omega]
  have hs : sliceA 0 ((b.length / 4 * 4 : Nat) : Int).toNat b = b.take (b.length / 4 * 4) := by unfold sliceA; rw [Int.toNat_natCast]; simp
  have hm : ∃ k : Nat, k ≤ 3 ∧ k ≤ t.length ∧ (if (3 : Int) < (t.length : Int) then (3 : Int) else (t.length : Int)) = (k : Int) := by
    by_cases h : (3 : Int) < (t.length : Int)
    · exact ⟨3, by omega, by omega, by rw [if_pos h]; rfl⟩
    · exact ⟨t.length, by omega, by omega, by rw [if_neg h]⟩
  obtain ⟨k, hk3, hkt, hk⟩ := hm
  have hs2 : sliceA 0 (k : Int).toNat t = t.take k := by simp [sliceA]
  rw [hk, hs, hs2]
  have hbt := by8s_take hb (b.length / 4 * 4)
  have htt := by8s_take ht k
  have hlt : (b.take (b.length / 4 * 4)).length = 4 * (b.length / 4) := by rw [List.length_take]; omega
  have hlk : (t.take k).length ≤ 3 := by rw [List.length_take]; omega
  generalize b.take (b.length / 4 * 4) = c at hbt hlt
  generalize t.take k = d at htt hlk
  have hcd : by8s (c ++ d) := by
    intro x hx
    rcases List.mem_append.1 hx with h | h
    · exact hbt x h
    · exact htt x h
  rw [Acts_eq hbt (by omega), Acts_eq hcd (by rw [List.length_append]; omega), actsS_app _ c d hlt, actsS_short (b := d) (by omega), List.append_nil]
  simp only [bnd_val]
  rw [chk_pos (by simp only [room1]; omega), chk_pos (by omega), chk_pos (by simp only [room1]; omega)]
  have h1 := actsS_len c
  generalize actsS c = x at h1
  have L : terrierlaw22_ScriptTail_l0 (((x.length : Nat) : Int), 0, x, x, ()) = some (.inl ()) := by
    unfold terrierlaw22_ScriptTail_l0
    have := loopM_steps (f := fun s : Int × Int × (List TAct) × (List TAct) × Unit => terrierlaw22_ScriptTail_b0 s.1 s.2.1 s.2.2.1 s.2.2.2.1)
      (fun i => (((x.length : Nat) : Int), (i : Int), x, x, ())) (a := 0) (n := x.length) (by omega)
      (fun i _ hi => by
        show terrierlaw22_ScriptTail_b0 ((x.length : Nat) : Int) (i : Int) x x = _
        unfold terrierlaw22_ScriptTail_b0
        simp only [ltO_def]
        rw [decide_eq_true (by omega), cnd_true, chk_pos (by omega), chk_pos (by omega), chk_pos (by omega), chk_pos (by omega), w64 (n := (i : Int) + 1) (by omega) (by omega)]
        simp)
    have this' : loopM (fun s : Int × Int × (List TAct) × (List TAct) × Unit => terrierlaw22_ScriptTail_b0 s.1 s.2.1 s.2.2.1 s.2.2.2.1) (((x.length : Nat) : Int), 0, x, x, ()) = _ := this
    rw [this', loopM_last (y := .inl ())]
    show terrierlaw22_ScriptTail_b0 ((x.length : Nat) : Int) ((x.length : Nat) : Int) x x = _
    unfold terrierlaw22_ScriptTail_b0
    rw [decide_eq_false (by omega)]; rfl
  rw [L]
  simp

theorem evS_what (x y z : Int) : 1 ≤ (evS x y z).1 ∧ (evS x y z).1 ≤ 7 := by
  unfold evS
  split
  · exact ⟨by show (1 : Int) ≤ 1; decide, by show (1 : Int) ≤ 7; decide⟩
  split
  · exact ⟨by show 1 ≤ x % 7 + 1; omega, by show x % 7 + 1 ≤ 7; omega⟩
  split
  · exact ⟨by show (1 : Int) ≤ 5; decide, by show (5 : Int) ≤ 7; decide⟩
  · exact ⟨by show 1 ≤ x % 7 + 1; omega, by show x % 7 + 1 ≤ 7; omega⟩

theorem scriptKinds_law {n x y z : Int} (hn : by8 n) (hx : by8 x) (hy : by8 y) (hz : by8 z) : terrierlaw22_ScriptKinds n x y z = some (true, ()) := by
  unfold terrierlaw22_ScriptKinds
  have hb : by8s [n, x, y, z] := by
    intro c hc
    simp only [List.mem_cons, List.not_mem_nil, or_false] at hc
    rcases hc with rfl | rfl | rfl | rfl <;> assumption
  rw [awakeS_eq, Acts_eq hb (by show 4 ≤ _; decide)]
  have hn0 := hn.1
  have en : n.tmod 12 = n % 12 := Int.tmod_eq_emod_of_nonneg hn0
  have ea : actsS [n, x, y, z] = [oneS n x y z] := rfl
  have hw := evS_what x y z
  simp only [bnd_val, Bool.not_true, cnd_false, ltO_def, ea, List.length_cons, List.length_nil, chk_same, en]
  rw [show ((((0 + 1 : Nat) : Int)) != 1) = false from rfl, cnd_false, chk_pos (by decide), chk_pos (by decide), chk_pos (by decide), chk_pos (by omega), chk_pos (by omega)]
  have hg : [oneS n x y z].getD 0 zAct = oneS n x y z := rfl
  simp only [hg]
  unfold oneS
  have hx0 := hx.1
  have hr : n % 12 = 0 ∨ n % 12 = 1 ∨ n % 12 = 2 ∨ n % 12 = 3 ∨ n % 12 = 4 ∨ n % 12 = 5 ∨ n % 12 = 6 ∨ n % 12 = 7 ∨ n % 12 = 8 ∨ n % 12 = 9 ∨ n % 12 = 10 ∨ n % 12 = 11 := by omega
  have e5 : ¬ (if cmdT (evS x y z) = [] then toBytes [x, y, z] else cmdT (evS x y z)) = [] := by
    split
    · simp [toBytes]
    · assumption
  have w0 : 0 < (evS x y z).1 := by omega
  have x30 : 0 < 1 + x % 30 ∧ 1 + x % 30 < 31 := by omega
  rcases hr with h | h | h | h | h | h | h | h | h | h | h | h <;> simp [h, e5, w0, x30, zEv]
end Go.Tr
