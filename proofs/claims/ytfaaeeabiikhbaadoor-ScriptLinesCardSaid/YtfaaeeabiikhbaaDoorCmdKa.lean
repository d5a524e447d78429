/- What a command means: the program's reading of words. What a command means: the program reads it as the words say. Conditions: none but those that each theorem states. -/
import Derived.Test.YtfaaeeabiikhbaaDoorCmdD
import Derived.Test.YtfaaeeabiikhbaaDoorErrL
import Derived.Test.YtfaaeeabiikhbaaDoorAddrS
import Derived.Test.YtfaaeeabiikhbaaDoorMacS
import Derived.Test.YtfaaeeabiikhbaaDoorCodecS
import Derived.Test.YtfaaeeabiikhbaaDoorScriptS
import Derived.Lib.ItoaLen
namespace Go.Tr
open Go
set_option linter.unusedVariables false
set_option linter.unusedSimpArgs false
set_option maxRecDepth 100000
set_option maxHeartbeats 4000000
theorem fault_eq {at' n : Int} {s : List UInt8} (hs : s.length ≤ 1000000000000) : ∃ q, command_fault at' s n = some (eAt at' (eCmd q (eNum n)), ()) := by
  obtain ⟨q, hq⟩ := quote_ok hs
  unfold command_fault
  rw [hq, bnd_val]
  exact ⟨q, rfl⟩
def wordN (s : List UInt8) : Int :=
  if s = [104, 111, 108, 100] then 1 else if s = [100, 114, 111, 112] then 2 else if s = [119, 97, 116, 99, 104] then 3 else if s = [105, 103, 110, 111, 114, 101] then 4
  else if s = [97, 112, 112, 114, 111, 118, 101] then 6 else if s = [114, 101, 106, 101, 99, 116] then 7 else 0
theorem what_body (s : List UInt8) (t : Int) (h0 : 0 ≤ t) (h1 : t < 8) : command_what_b0 s t = if s ≠ [] ∧ wordS t = s then some (.inr (.inr (t, true, ()))) else some (.inl (s, t + 1, ())) := by
  unfold command_what_b0
  simp only [chk_same, ltO_def, word_eq, bndG_val]
  rw [decide_eq_true h1, cnd_true, cnd_ite, w64 (by omega) (by omega)]
  congr 1
  simp
theorem what_end (s : List UInt8) : command_what_b0 s 8 = some (.inr (.inl ())) := by
  unfold command_what_b0; rfl
theorem what_eq (s : List UInt8) : command_what s = some (wordN s, decide (wordN s ≠ 0), ()) := by
  unfold command_what command_what_l0
  have B := what_body s
  have R : ∀ t : Int, 0 ≤ t → t < 8 → loopM (fun s : (List UInt8) × Int × Unit => command_what_b0 s.1 s.2.1) (s, t, ()) = if s ≠ [] ∧ wordS t = s then some (.inr (t, true, ())) else loopM (fun s : (List UInt8) × Int × Unit => command_what_b0 s.1 s.2.1) (s, t + 1, ()) := by
    intro t h0 h1
    by_cases c : s ≠ [] ∧ wordS t = s
    · rw [if_pos c]; exact loopM_last (by show command_what_b0 s t = _; rw [B t h0 h1, if_pos c])
    · rw [if_neg c]; exact loopM_next (by show command_what_b0 s t = _; rw [B t h0 h1, if_neg c])
  have E : loopM (fun s : (List UInt8) × Int × Unit => command_what_b0 s.1 s.2.1) (s, 8, ()) = some (.inl ()) := by
    exact loopM_last (what_end s)
  rw [R 0 (by decide) (by decide), R (0 + 1) (by decide) (by decide), R (0 + 1 + 1) (by decide) (by decide), R (0 + 1 + 1 + 1) (by decide) (by decide), R (0 + 1 + 1 + 1 + 1) (by decide) (by decide), R (0 + 1 + 1 + 1 + 1 + 1) (by decide) (by decide),
    R (0 + 1 + 1 + 1 + 1 + 1 + 1) (by decide) (by decide), R (0 + 1 + 1 + 1 + 1 + 1 + 1 + 1) (by decide) (by decide)]
  rw [show (0 + 1 + 1 + 1 + 1 + 1 + 1 + 1 + 1 : Int) = 8 from rfl, E]
  unfold wordN
  by_cases h1 : s = [104, 111, 108, 100]
  · subst h1; rfl
  by_cases h2 : s = [100, 114, 111, 112]
  · subst h2; rfl
  by_cases h3 : s = [119, 97, 116, 99, 104]
  · subst h3; rfl
  by_cases h4 : s = [105, 103, 110, 111, 114, 101]
  · subst h4; rfl
  by_cases h6 : s = [97, 112, 112, 114, 111, 118, 101]
  · subst h6; rfl
  by_cases h7 : s = [114, 101, 106, 101, 99, 116]
  · subst h7; rfl
  simp only [if_neg h1, if_neg h2, if_neg h3, if_neg h4, if_neg h6, if_neg h7]
  have N : ∀ t : Int, ¬ (s ≠ [] ∧ wordS t = s) := by
    rintro t ⟨hne, ht⟩
    unfold wordS at ht
    repeat' split at ht
    all_goals first
      | exact h1 ht.symm | exact h2 ht.symm | exact h3 ht.symm | exact h4 ht.symm | exact h6 ht.symm | exact h7 ht.symm | exact hne ht.symm
  simp only [if_neg (N _), bnd_val, sumO_inl]
  rfl
def okM (s : List UInt8) : Bool := okP s && (!((vlP s 0, vlP s 1, vlP s 2, vlP s 3, vlP s 4, vlP s 5) == ((0, 0, 0, 0, 0, 0) : M6)) && !(vlP s 0 % 2 == 1))
def macP (s : List UInt8) : TMac := (vlP s 0, vlP s 1, vlP s 2, vlP s 3, vlP s 4, vlP s 5)
def cmdP (f : List (List UInt8)) : TEv × Int × Int :=
  let w := wordN (f.getD 0 [])
  if w = 0 then (zEv, 0, 1)
  else if w = 1 then
    if f.length < 3 then (zEv, f.length, 1) else if 4 < f.length then (zEv, 4, 1)
    else match rdA (f.getD 1 []) with
      | none => (zEv, 1, 1)
      | some a => if mayS (f.getD 2 []) = false then (zEv, 2, 3)
        else if f.length = 4 then if okM (f.getD 3 []) = true then ((1, (a, f.getD 2 [], macP (f.getD 3 [])), (0, 0), 0, zMac, 0), 0, 0) else (zEv, 3, 1)
        else ((1, (a, f.getD 2 [], zMac), (0, 0), 0, zMac, 0), 0, 0)
  else if f.length < 2 then (zEv, f.length, 1) else if 2 < f.length then (zEv, 2, 1)
  else if w = 3 ∨ w = 4 then match rdB (f.getD 1 []) with
    | none => (zEv, 1, 1)
    | some b => ((w, zHold, b, 0, zMac, 0), 0, 0)
  else match rdA (f.getD 1 []) with
    | none => (zEv, 1, 1)
    | some a => ((w, (a, [], zMac), (0, 0), 0, zMac, 0), 0, 0)
def Said (y : TEv × TErr × Unit) (r : TEv × Int × Int) : Prop := y.1 = r.1 ∧ ((r.2.2 = 0 ∧ r.2.1 = 0 ∧ y.2.1 = .nil) ∨ ((r.2.2 = 1 ∨ r.2.2 = 3) ∧ (0 ≤ r.2.1 ∧ r.2.1 ≤ 4) ∧ ∃ q, y.2.1 = eAt r.2.1 (eCmd q (eNum r.2.2))))
theorem said_ok {e : TEv} : Said (e, .nil, ()) (e, 0, 0) := ⟨rfl, .inl ⟨rfl, rfl, rfl⟩⟩
theorem said_no {k n : Int} {q : List UInt8} (hk : 0 ≤ k ∧ k ≤ 4) (hn : n = 1 ∨ n = 3) : Said (zEv, eAt k (eCmd q (eNum n)), ()) (zEv, k, n) := ⟨rfl, .inr ⟨hn, hk, q, rfl⟩⟩
end Go.Tr
namespace Go.Tr
open Go
set_option linter.unusedVariables false
set_option linter.unusedSimpArgs false
set_option maxRecDepth 100000
set_option maxHeartbeats 4000000
theorem split_len (c : UInt8) : ∀ s : List UInt8, ∀ w ∈ splitC c s, w.length ≤ s.length
  | [], w, h => by simp [splitC] at h; simp [h]
  | b :: l, w, h => by
    have ih := split_len c l
    unfold splitC at h
    split at h
    · rcases List.mem_cons.1 h with rfl | h
      · simp
      · have := ih w h; simp; omega
    · split at h
      · rename_i x t hx
        rw [hx] at ih
        rcases List.mem_cons.1 h with rfl | h
        · have := ih x (by simp); simp; omega
        · have := ih w (by simp [h]); simp; omega
      · simp at h; subst h; simp
theorem split_pos (c : UInt8) (s : List UInt8) : 0 < (splitC c s).length := by
  have := splitC_ne c s
  cases h : splitC c s with
  | nil => exact absurd h this
  | cons a l => simp
theorem getD_len {f : List (List UInt8)} {n : Nat} (h : ∀ w ∈ f, w.length ≤ n) (i : Nat) : (f.getD i []).length ≤ n := by
  rw [List.getD_eq_getElem?_getD]
  cases hi : f[i]? with
  | none => simp
  | some w => simpa using h w (List.mem_of_getElem? hi)
theorem wordN_cases (s : List UInt8) : wordN s = 0 ∨ wordN s = 1 ∨ wordN s = 2 ∨ wordN s = 3 ∨ wordN s = 4 ∨ wordN s = 6 ∨ wordN s = 7 := by
  unfold wordN
  repeat' split
  all_goals simp
theorem vlP_ok {s : List UInt8} (h : okP s = true) : by8 (vlP s 0) := by
  unfold okP cnP at h
  simp only [Bool.and_eq_true] at h
  have q := h.2.2.1
  unfold vlP by8
  have a := dgS_ok q.1
  have b := dgS_ok q.2.1
  omega
theorem hold_ok {e : TEv} {f : List (List UInt8)} (he : e = (1, (e.2.1.1, [], zMac), (0, 0), 0, zMac, 0)) (hf : ∀ i, (f.getD i []).length ≤ 200) (h3 : 3 ≤ f.length) (h4 : f.length ≤ 4) :
    Ok (command_hold e f) (fun y => Said y (if mayS (f.getD 2 []) = false then (zEv, 2, 3)
        else if f.length = 4 then if okM (f.getD 3 []) = true then ((1, (e.2.1.1, f.getD 2 [], macP (f.getD 3 [])), (0, 0), 0, zMac, 0), 0, 0) else (zEv, 3, 1)
        else ((1, (e.2.1.1, f.getD 2 [], zMac), (0, 0), 0, zMac, 0), 0, 0))) := by
  unfold command_hold
  simp only [ltO_def, chk_same, chk_nn]
  have l2 := hf 2
  have l3 := hf 3
  rw [chk_pos (by omega), May_eq (by omega), bnd_val]
  cases hm : mayS (f.getD 2 []) with
  | false =>
    obtain ⟨q, hq⟩ := fault_eq (at' := 2) (n := 3) (s := f.getD 2 []) (by omega)
    rw [Bool.not_false, cnd_true, chk_pos (by omega), hq, bnd_val]
    exact Ok.some (by rw [if_pos rfl]; refine said_no ?_ ?_ <;> omega)
  | true =>
    rw [Bool.not_true, cnd_false, chk_pos (by omega)]
    simp only [Bool.true_eq_false, if_false]
    rw [he]
    by_cases h : f.length = 4
    · rw [show (((f.length : Nat) : Int) == 4) = true from by rw [h]; rfl, cnd_true, chk_pos (by omega), parse_eq, bnd_val, if_pos h]
      cases hp : okP (f.getD 3 []) with
      | false =>
        obtain ⟨q, hq⟩ := fault_eq (at' := 3) (n := 1) (s := f.getD 3 []) (by omega)
        simp only [Bool.false_eq_true, if_false, Bool.not_false, Bool.not_true, bndG_false, Bool.true_or, cnd_true]
        rw [chk_pos (by omega), hq, bnd_val]
        unfold okM
        rw [hp]
        exact Ok.some (by simp only [Bool.false_and, Bool.false_eq_true, if_false]; refine said_no ?_ ?_ <;> omega)
      | true =>
        simp only [if_true, Bool.not_true, Bool.not_false, none_eq, bndG_val, Bool.false_or]
        rw [group_eq' (vlP_ok hp), bndG_val]
        unfold okM
        rw [hp]
        cases hn : ((vlP (f.getD 3 []) 0, vlP (f.getD 3 []) 1, vlP (f.getD 3 []) 2, vlP (f.getD 3 []) 3, vlP (f.getD 3 []) 4, vlP (f.getD 3 []) 5) == ((0, 0, 0, 0, 0, 0) : M6)) with
        | true =>
          obtain ⟨q, hq⟩ := fault_eq (at' := 3) (n := 1) (s := f.getD 3 []) (by omega)
          simp only [Bool.true_or, cnd_true]
          rw [chk_pos (by omega), hq, bnd_val]
          exact Ok.some (by simp only [Bool.not_true, Bool.false_and, Bool.and_false, Bool.false_eq_true, if_false]; refine said_no ?_ ?_ <;> omega)
        | false =>
          simp only [Bool.false_or]
          cases hg : (vlP (f.getD 3 []) 0 % 2 == 1) with
          | true =>
            obtain ⟨q, hq⟩ := fault_eq (at' := 3) (n := 1) (s := f.getD 3 []) (by omega)
            rw [cnd_true, chk_pos (by omega), hq, bnd_val]
            exact Ok.some (by simp only [Bool.not_true, Bool.and_false, Bool.false_eq_true, if_false]; refine said_no ?_ ?_ <;> omega)
          | false =>
            rw [cnd_false]
            exact Ok.some (by simp only [Bool.not_false, Bool.and_true, if_true]; exact said_ok)
    · rw [show (((f.length : Nat) : Int) == 4) = false from by simp; omega, cnd_false, if_neg h]
      exact Ok.some said_ok
theorem Parse_ok {s : List UInt8} (hs : s.length ≤ 200) : Ok (command_Parse s) (fun y => Said y (cmdP (splitC 32 s))) := by
  unfold command_Parse strings_Split
  rw [decide_eq_false (by omega), cnd_false, chk_pos ⟨by omega, by simp⟩, bnd_val, split_splitC]
  have hp := split_pos 32 s
  have hl : ∀ i, ((splitC 32 s).getD i []).length ≤ 200 := getD_len fun w hw => Nat.le_trans (split_len 32 s w hw) hs
  generalize splitC 32 s = f at hp hl
  have e3 : (if (if (3 : Int) > 2 then (3 : Int) else 2) < 3 then (if (3 : Int) > 2 then (3 : Int) else 2) else 3) = 3 := by decide
  have e1 : (if (if (1 : Int) > 2 then (1 : Int) else 2) < 3 then (if (1 : Int) > 2 then (1 : Int) else 2) else 3) = 2 := by decide
  simp only [ltO_def, chk_same, chk_nn, what_eq, bnd_val, e3, e1]
  have l0 := hl 0
  have l1 := hl 1
  have b1 : (f.getD 1 []).length < 4294967281 := by omega
  rw [chk_pos (by omega)]
  unfold cmdP
  rcases wordN_cases (f.getD 0 []) with h | h | h | h | h | h | h
  · obtain ⟨q, hq⟩ := fault_eq (at' := 0) (n := 1) (s := f.getD 0 []) (by omega)
    simp only [h, ne_eq, not_true, decide_false, Bool.not_false, cnd_true, if_true]
    rw [chk_pos (by omega), hq, bnd_val]
    exact Ok.some (by refine said_no ?_ ?_ <;> omega)
  · simp only [h, ne_eq, Int.one_ne_zero, not_false_eq_true, decide_true, Bool.not_true, cnd_false, if_false, BEq.rfl, cnd_true, if_true]
    by_cases h3 : f.length < 3
    · obtain ⟨q, hq⟩ := fault_eq (at' := ((f.length : Nat) : Int)) (n := 1) (s := []) (by simp)
      rw [show (decide (((f.length : Nat) : Int) < 3) || decide (((f.length : Nat) : Int) > 4)) = true from by simp; omega, cnd_true, show (if (4 : Int) < ((f.length : Nat) : Int) then (4 : Int) else ((f.length : Nat) : Int)) = ((f.length : Nat) : Int) from if_neg (by omega), hq, bnd_val, if_pos h3]
      exact Ok.some (by refine said_no ?_ ?_ <;> omega)
    by_cases h4 : 4 < f.length
    · obtain ⟨q, hq⟩ := fault_eq (at' := 4) (n := 1) (s := []) (by simp)
      rw [show (decide (((f.length : Nat) : Int) < 3) || decide (((f.length : Nat) : Int) > 4)) = true from by simp; omega, cnd_true, show (if (4 : Int) < ((f.length : Nat) : Int) then (4 : Int) else ((f.length : Nat) : Int)) = 4 from if_pos (by omega), hq, bnd_val, if_neg h3, if_pos h4]
      exact Ok.some (by refine said_no ?_ ?_ <;> omega)
    rw [show (decide (((f.length : Nat) : Int) < 3) || decide (((f.length : Nat) : Int) > 4)) = false from by simp; omega, cnd_false, if_neg h3, if_neg h4]
    rw [show ((1 : Int) == 3) = false from rfl, show ((1 : Int) == 4) = false from rfl, cnd_false, cnd_false, chk_pos (by omega), Parse_eq b1, bnd_val]
    cases ha : rdA (f.getD 1 []) with
    | none =>
      obtain ⟨q, hq⟩ := fault_eq (at' := 1) (n := 1) (s := f.getD 1 []) (by omega)
      simp only [Bool.not_false, cnd_true]
      rw [chk_pos (by omega), hq, bnd_val]
      exact Ok.some (by refine said_no ?_ ?_ <;> omega)
    | some a =>
      simp only [Bool.not_true, cnd_false]
      obtain ⟨y, hy, hy2⟩ := hold_ok (e := (1, (a, [], 0, 0, 0, 0, 0, 0), (0, 0), 0, zMac, 0)) (f := f) rfl hl (by omega) (by omega)
      rw [hy, bnd_val]
      exact Ok.some hy2
  all_goals
    simp only [h, ne_eq, decide_not, Bool.not_not]
    simp only [show ((2 : Int) = 0) = False from by simp, show ((3 : Int) = 0) = False from by simp, show ((4 : Int) = 0) = False from by simp, show ((6 : Int) = 0) = False from by simp, show ((7 : Int) = 0) = False from by simp, show ((2 : Int) = 1) = False from by simp, show ((3 : Int) = 1) = False from by simp, show ((4 : Int) = 1) = False from by simp, show ((6 : Int) = 1) = False from by simp, show ((7 : Int) = 1) = False from by simp, decide_false, cnd_false, if_false,
      show ((2 : Int) == 1) = false from rfl, show ((3 : Int) == 1) = false from rfl, show ((4 : Int) == 1) = false from rfl, show ((6 : Int) == 1) = false from rfl, show ((7 : Int) == 1) = false from rfl, show ((2 : Int) == 3) = false from rfl, show ((3 : Int) == 3) = true from rfl, show ((4 : Int) == 3) = false from rfl, show ((6 : Int) == 3) = false from rfl, show ((7 : Int) == 3) = false from rfl,
      show ((2 : Int) == 4) = false from rfl, show ((4 : Int) == 4) = true from rfl, show ((6 : Int) == 4) = false from rfl, show ((7 : Int) == 4) = false from rfl, cnd_true]
    by_cases h2 : f.length < 2
    · obtain ⟨q, hq⟩ := fault_eq (at' := ((f.length : Nat) : Int)) (n := 1) (s := []) (by simp)
      rw [show (decide (((f.length : Nat) : Int) < 2) || decide (((f.length : Nat) : Int) > 2)) = true from by simp; omega, cnd_true, show (if (2 : Int) < ((f.length : Nat) : Int) then (2 : Int) else ((f.length : Nat) : Int)) = ((f.length : Nat) : Int) from if_neg (by omega), hq, bnd_val, if_pos h2]
      exact Ok.some (by refine said_no ?_ ?_ <;> omega)
    by_cases h4 : 2 < f.length
    · obtain ⟨q, hq⟩ := fault_eq (at' := 2) (n := 1) (s := []) (by simp)
      rw [show (decide (((f.length : Nat) : Int) < 2) || decide (((f.length : Nat) : Int) > 2)) = true from by simp; omega, cnd_true, show (if (2 : Int) < ((f.length : Nat) : Int) then (2 : Int) else ((f.length : Nat) : Int)) = 2 from if_pos (by omega), hq, bnd_val, if_neg h2, if_pos h4]
      exact Ok.some (by refine said_no ?_ ?_ <;> omega)
    rw [show (decide (((f.length : Nat) : Int) < 2) || decide (((f.length : Nat) : Int) > 2)) = false from by simp; omega, cnd_false, if_neg h2, if_neg h4, chk_pos (by omega)]
    first
      | (rw [if_neg (by decide), Parse_eq b1, bnd_val]
         cases ha : rdA (f.getD 1 []) with
         | none =>
           obtain ⟨q, hq⟩ := fault_eq (at' := 1) (n := 1) (s := f.getD 1 []) (by omega)
           simp only [Bool.not_false, cnd_true]
           rw [chk_pos (by omega), hq, bnd_val]
           exact Ok.some (by refine said_no ?_ ?_ <;> omega)
         | some a =>
           simp only [Bool.not_true, cnd_false]
           exact Ok.some said_ok)
      | (rw [if_pos (by decide), ParseBlock_eq b1, bnd_val]
         cases ha : rdB (f.getD 1 []) with
         | none =>
           obtain ⟨q, hq⟩ := fault_eq (at' := 1) (n := 1) (s := f.getD 1 []) (by omega)
           simp only [Bool.not_false, cnd_true]
           rw [chk_pos (by omega), hq, bnd_val]
           exact Ok.some (by refine said_no ?_ ?_ <;> omega)
         | some a =>
           simp only [Bool.not_true, cnd_false]
           exact Ok.some said_ok)
end Go.Tr
