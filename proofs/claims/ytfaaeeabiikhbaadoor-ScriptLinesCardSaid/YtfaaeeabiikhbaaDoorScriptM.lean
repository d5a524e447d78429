/- A line that is a command means the event of the same bytes. Conditions: the arguments are bytes. -/
import Derived.Test.YtfaaeeabiikhbaaDoorScriptS
import Derived.Test.YtfaaeeabiikhbaaDoorCmdKc
import Derived.Test.YtfaaeeabiikhbaaDoorSliD
namespace Go.Tr
open Go
set_option linter.unusedVariables false
set_option linter.unusedSimpArgs false
set_option maxRecDepth 100000
set_option maxHeartbeats 4000000
theorem may_c : ∀ r : Fin 3, mayS [UInt8.ofNat (97 + (r.val : Int)).toNat] = true := by decide
theorem ev_cmd {x y z : Int} (hx : by8 x) (hy : by8 y) (hz : by8 z) (h5 : x % 7 ≠ 4) : CmdE (evS x y z) := by
  unfold evS
  by_cases c0 : x % 7 = 0
  · rw [if_pos c0]
    refine ⟨.inl rfl, fun h => ?_, fun _ => rfl, near_in, fun _ => ⟨?_, ?_⟩, fun h => absurd rfl h, rfl⟩
    · exfalso; have h : (1 : Int) = 3 ∨ (1 : Int) = 4 := h; omega
    · have h := may_c ⟨(z % 3).toNat, by omega⟩
      simp only at h
      rw [show (((z % 3).toNat : Nat) : Int) = z % 3 from by omega] at h
      exact h
    · show (if 128 ≤ z then stnS z else zMac) = zMac ∨ M6ok (if 128 ≤ z then stnS z else zMac) ∧ (if 128 ≤ z then stnS z else zMac) ≠ zMac ∧ (if 128 ≤ z then stnS z else zMac).1 % 2 ≠ 1
      by_cases hz2 : 128 ≤ z
      · rw [if_pos hz2]
        refine .inr ⟨stn_ok z, ?_, ?_⟩
        · intro hh; have : (2 : Int) = 0 := congrArg Prod.fst hh; omega
        · show ¬ (2 : Int) % 2 = 1; decide
      · rw [if_neg hz2]; exact .inl rfl
  · rw [if_neg c0]
    by_cases c2 : x % 7 = 2 ∨ x % 7 = 3
    · rw [if_pos c2]
      obtain ⟨b1, b2⟩ := blk_in y z
      refine ⟨?_, fun _ => ⟨b1, ?_, b2, rfl⟩, fun h => ?_, zero_in, fun h => ?_, fun _ => rfl, rfl⟩
      · show x % 7 + 1 = 1 ∨ x % 7 + 1 = 2 ∨ x % 7 + 1 = 3 ∨ x % 7 + 1 = 4 ∨ x % 7 + 1 = 6 ∨ x % 7 + 1 = 7; omega
      · show (decide (bo (blkS y z).2) && (nearS y - nearS y % Wd (29 + z % 4)) % Wd (29 + z % 4) == 0) = true
        rw [decide_eq_true b2, Bool.true_and, beq_iff_eq, Int.sub_emod, Int.emod_emod, ← Int.sub_emod, Int.sub_self, Int.zero_emod]
      · exfalso; have h : ¬ (x % 7 + 1 = 3 ∨ x % 7 + 1 = 4) := h; omega
      · exfalso; have h : x % 7 + 1 = 1 := h; omega
    · rw [if_neg c2, if_neg h5]
      refine ⟨?_, fun h => ?_, fun _ => rfl, near_in, fun h => ?_, fun _ => rfl, rfl⟩
      · show x % 7 + 1 = 1 ∨ x % 7 + 1 = 2 ∨ x % 7 + 1 = 3 ∨ x % 7 + 1 = 4 ∨ x % 7 + 1 = 6 ∨ x % 7 + 1 = 7; omega
      · exfalso; have h : x % 7 + 1 = 3 ∨ x % 7 + 1 = 4 := h; omega
      · exfalso; have h : x % 7 + 1 = 1 := h; omega
theorem word_no5 (s : List UInt8) : wordN s ≠ 5 := by
  unfold wordN
  repeat' split
  all_goals decide
theorem cmd_no5 (f : List (List UInt8)) : (cmdP f).1.1 ≠ 5 := by
  unfold cmdP
  have h := word_no5 (f.getD 0 [])
  dsimp only
  repeat' split
  all_goals first | exact h | (show ¬ (0 : Int) = 5; decide) | (show ¬ (1 : Int) = 5; decide)
theorem scriptLines_law {x y z : Int} (hx : by8 x) (hy : by8 y) (hz : by8 z) : terrierlaw22_ScriptLines x y z = some (true, ()) := by
  have hb : by8s [(5 : Int), x, y, z, (0 : Int), x, y, z] := by
    intro c hc
    simp only [List.mem_cons, List.not_mem_nil, or_false] at hc
    rcases hc with rfl | rfl | rfl | rfl | rfl | rfl | rfl | rfl <;> first | assumption | exact ⟨by decide, by decide⟩
  unfold terrierlaw22_ScriptLines
  rw [awakeS_eq, bnd_val, Bool.not_true, cnd_false, Acts_eq hb (by simp), bnd_val]
  rw [show actsS [(5 : Int), x, y, z, (0 : Int), x, y, z] = [((2, zEv, if cmdT (evS x y z) = [] then toBytes [x, y, z] else cmdT (evS x y z), 0, 0) : TAct), (0, evS x y z, [], 0, 0)] from rfl]
  generalize hT : (if cmdT (evS x y z) = [] then toBytes [x, y, z] else cmdT (evS x y z)) = T
  have g0 : ([((2, zEv, T, 0, 0) : TAct), (0, evS x y z, [], 0, 0)] : List TAct).getD 0 zAct = (2, zEv, T, 0, 0) := rfl
  have g1 : ([((2, zEv, T, 0, 0) : TAct), (0, evS x y z, [], 0, 0)] : List TAct).getD 1 zAct = (0, evS x y z, [], 0, 0) := rfl
  dsimp only
  simp only [ltO_def, chk_same, chk_nn, g0, g1, List.length_cons, List.length_nil]
  iterate 4 (rw [chk_pos (by decide)])
  change cnd false _ _ = _
  rw [cnd_false]
  iterate 2 (rw [chk_pos (by decide)])
  by_cases h5 : x % 7 = 4
  · have e : evS x y z = (5, (nearS y, [], zMac), (0, 0), z % 4, stnS (z / 4), 0) := by unfold evS; rw [if_neg (by omega), if_neg (by omega), if_pos h5]
    have hc : cmdT (evS x y z) = [] := by rw [e]; rfl
    have hl : T.length ≤ 200 := by rw [← hT, if_pos hc]; simp [toBytes]
    obtain ⟨⟨p1, p2, ⟨⟩⟩, hp, a1, a2⟩ := Parse_ok hl
    have n5 : (p1.1 != 5) = true := by
      have := cmd_no5 (splitC 32 T)
      dsimp only at a1
      rw [a1]
      simpa using this
    rw [hp]
    simp [e, n5]
  · have ce := ev_cmd hx hy hz h5
    have hr := text_rd ce
    have hc : ¬ cmdT (evS x y z) = [] := by
      intro hc
      rw [hc] at hr
      have : (1 : Int) = 0 := congrArg (fun t : TEv × Int × Int => t.2.2) hr
      omega
    rw [if_neg hc] at hT
    have hl : T.length ≤ 200 := by rw [← hT]; have := cmdT_len ce; omega
    obtain ⟨⟨p1, p2, ⟨⟩⟩, hp, a1, a2⟩ := Parse_ok hl
    rw [← hT, hr] at a1 a2
    have q : p2 = .nil := by
      rcases a2 with ⟨_, _, h⟩ | ⟨h, _⟩
      · exact h
      · exfalso; have : (0 : Int) = 1 ∨ (0 : Int) = 3 := h; omega
    dsimp only at a1
    subst a1 q
    have k5 : (evS x y z).1 ≠ 5 := by have := ce.k; omega
    have kb : ((evS x y z).1 == (5 : Int)) = false := beq_eq_false_iff_ne.2 k5
    rw [hp]
    simp [kb]
end Go.Tr
