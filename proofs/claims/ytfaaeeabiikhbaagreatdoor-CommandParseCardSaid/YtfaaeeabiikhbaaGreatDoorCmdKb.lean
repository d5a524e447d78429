/- The statements' own reading of a command is the same. The statements' own reading of a command is the program's. Conditions: none but those that each theorem states. -/
import Derived.Test.YtfaaeeabiikhbaaGreatDoorCmdKa
namespace Go.Tr
open Go
set_option linter.unusedVariables false
set_option linter.unusedSimpArgs false
set_option maxRecDepth 100000
set_option maxHeartbeats 4000000
theorem splitC_snoc (c b : UInt8) : ∀ l : List UInt8, splitC c (l ++ [b]) = if b = c then splitC c l ++ [[]] else (splitC c l).set ((splitC c l).length - 1) ((splitC c l).getD ((splitC c l).length - 1) [] ++ [b])
  | [] => by
    by_cases hb : b = c <;> simp [splitC, hb]
  | a :: l => by
    have ih := splitC_snoc c b l
    have hne := splitC_ne c l
    simp only [List.cons_append, splitC]
    rw [ih]
    cases h : splitC c l with
    | nil => exact absurd h hne
    | cons x t =>
      by_cases hb : b = c
      · simp only [if_pos hb]
        split <;> rfl
      · simp only [if_neg hb]
        cases t with
        | nil =>
          by_cases ha : a = c
          · simp [if_pos ha]
          · simp [if_neg ha]
        | cons y t =>
          by_cases ha : a = c
          · simp [if_pos ha]
          · simp [if_neg ha]
theorem take_snoc {s : List UInt8} {i : Nat} (h : i < s.length) : s.take (i + 1) = s.take i ++ [s.getD i 0] := by
  rw [List.take_succ_eq_append_getElem h]
  simp [List.getD_eq_getElem?_getD, h]
theorem slice_one {s : List UInt8} {i : Nat} (h : i < s.length) : sliceA i (i + 1) s = [s.getD i 0] := by
  unfold sliceA
  rw [show i + 1 - i = 1 from by omega, List.drop_eq_getElem_cons h, List.take_succ_cons, List.take_zero]
  simp [List.getD_eq_getElem?_getD, h]
theorem split_count (c : UInt8) : ∀ s : List UInt8, (splitC c s).length ≤ s.length + 1
  | [] => by simp [splitC]
  | b :: l => by
    have ih := split_count c l
    unfold splitC
    split
    · simp; omega
    · split
      · rename_i x t hx; rw [hx] at ih; simp at ih ⊢; omega
      · simp
theorem cut_eq {s : List UInt8} (hs : s.length ≤ 1000000) : terrierlaw17_cut s = some (splitC 32 s, ()) := by
  unfold terrierlaw17_cut terrierlaw17_cut_l0
  have L : loopM (fun s : (List UInt8) × Int × (List (List UInt8)) × Unit => terrierlaw17_cut_b0 s.1 s.2.1 s.2.2.1) (s, 0, [[]], ()) = some (.inl (splitC 32 s, ())) := by
    have S := loopM_steps (f := fun s : (List UInt8) × Int × (List (List UInt8)) × Unit => terrierlaw17_cut_b0 s.1 s.2.1 s.2.2.1) (fun i => (s, (i : Int), splitC 32 (s.take i), ())) (a := 0) (n := s.length) (Nat.zero_le _) (fun i _ hi => by
      show terrierlaw17_cut_b0 s (i : Int) (splitC 32 (s.take i)) = _
      have hp := split_pos 32 (s.take i)
      have hc := split_count 32 (s.take i)
      have hw := getD_len (f := splitC 32 (s.take i)) (n := s.length) (fun w hw => Nat.le_trans (split_len 32 _ w hw) (by simp; omega)) ((splitC 32 (s.take i)).length - 1)
      have ht : (s.take i).length ≤ i := by simp; omega
      rw [take_snoc hi, splitC_snoc]
      generalize splitC 32 (s.take i) = f at hp hc hw
      unfold terrierlaw17_cut_b0
      simp only [ltO_def]
      rw [decide_eq_true (by omega), cnd_true, chk_pos (by omega), cnd_ite]
      simp only [Int.toNat_natCast]
      have w1 : IntKind.i64.wrap ((i : Int) + 1) = ((i + 1 : Nat) : Int) := by rw [w64 (by omega) (by omega)]; omega
      have w2 : IntKind.i64.wrap (((f.length : Nat) : Int) - 1) = ((f.length - 1 : Nat) : Int) := by rw [w64 (by omega) (by omega)]; omega
      rw [w1, w2]
      simp only [Int.toNat_natCast]
      by_cases hb : s.getD i 0 = 32
      · rw [if_pos hb, hb, if_pos (by rfl), chk_pos (by show _ * 16 ≤ 140737488355328; omega)]
      · rw [if_neg hb, if_neg (by intro h; apply hb; rw [beq_iff_eq] at h; exact UInt8.toNat_inj.1 (show (s.getD i 0).toNat = 32 from by omega)), slice_one hi]
        rw [chk_pos (by omega), chk_pos (by omega), chk_pos (by omega), chk_pos (by simp only [List.length_cons, List.length_nil]; omega), chk_pos (by omega), chk_pos (by omega)])
    have S' : loopM (fun s : (List UInt8) × Int × (List (List UInt8)) × Unit => terrierlaw17_cut_b0 s.1 s.2.1 s.2.2.1) (s, ((0 : Nat) : Int), splitC 32 (s.take 0), ()) = _ := S
    rw [show (s, (0 : Int), [[]], ()) = (s, ((0 : Nat) : Int), splitC 32 (s.take 0), ()) from by simp [splitC], S']
    refine loopM_last ?_
    show terrierlaw17_cut_b0 s ((s.length : Nat) : Int) (splitC 32 (s.take s.length)) = _
    unfold terrierlaw17_cut_b0
    rw [decide_eq_false (by omega), cnd_false, List.take_length]
  rw [L]; rfl
def wds : List (List UInt8) := [[], [104, 111, 108, 100], [100, 114, 111, 112], [119, 97, 116, 99, 104], [105, 103, 110, 111, 114, 101], [], [97, 112, 112, 114, 111, 118, 101], [114, 101, 106, 101, 99, 116]]
theorem words_eq : terrierlaw17_words = some (wds, ()) := rfl
def stW (f0 : List UInt8) : Nat → Int
  | 0 => 0
  | i + 1 => if (!(wds.getD i [] == [])) && (wds.getD i [] == f0) then (i : Int) else stW f0 i
theorem stW_eq (f0 : List UInt8) : stW f0 8 = wordN f0 := by
  unfold wordN
  by_cases h1 : f0 = [104, 111, 108, 100]
  · subst h1; rfl
  by_cases h2 : f0 = [100, 114, 111, 112]
  · subst h2; rfl
  by_cases h3 : f0 = [119, 97, 116, 99, 104]
  · subst h3; rfl
  by_cases h4 : f0 = [105, 103, 110, 111, 114, 101]
  · subst h4; rfl
  by_cases h6 : f0 = [97, 112, 112, 114, 111, 118, 101]
  · subst h6; rfl
  by_cases h7 : f0 = [114, 101, 106, 101, 99, 116]
  · subst h7; rfl
  simp only [if_neg h1, if_neg h2, if_neg h3, if_neg h4, if_neg h6, if_neg h7]
  simp [stW, wds, Ne.symm h1, Ne.symm h2, Ne.symm h3, Ne.symm h4, Ne.symm h6, Ne.symm h7]
theorem parse_words {f : List (List UInt8)} (hf : 0 < f.length) : terrierlaw17_parse_l0 (8, 0, 0, 0, [], 0, 0, 0, 0, 0, 0, 0, 0, 0, 0, 0, 0, 0, 0, 0, 0, f, 0, 0, [], 0, 0, 0, 0, 0, 0, 0, 0, 0, 0, 0, 0, 0, 0, 0, 0, wds, ()) =
    some (.inl (0, 0, [], 0, 0, 0, 0, 0, 0, 0, 0, 0, 0, 0, 0, 0, 0, 0, 0, f, wordN (f.getD 0 []), 0, [], 0, 0, 0, 0, 0, 0, 0, 0, 0, 0, 0, 0, 0, 0, 0, 0, ())) := by
  unfold terrierlaw17_parse_l0
  have S := loopM_steps (f := fun s : Int × Int × Int × Int × (List UInt8) × Int × Int × Int × Int × Int × Int × Int × Int × Int × Int × Int × Int × Int × Int × Int × Int × (List (List UInt8)) × Int × Int × (List UInt8) × Int × Int × Int × Int × Int × Int × Int × Int × Int × Int × Int × Int × Int × Int × Int × Int × (List (List UInt8)) × Unit => terrierlaw17_parse_b0 s.1 s.2.1 s.2.2.1 s.2.2.2.1 s.2.2.2.2.1 s.2.2.2.2.2.1 s.2.2.2.2.2.2.1 s.2.2.2.2.2.2.2.1 s.2.2.2.2.2.2.2.2.1 s.2.2.2.2.2.2.2.2.2.1 s.2.2.2.2.2.2.2.2.2.2.1 s.2.2.2.2.2.2.2.2.2.2.2.1 s.2.2.2.2.2.2.2.2.2.2.2.2.1 s.2.2.2.2.2.2.2.2.2.2.2.2.2.1 s.2.2.2.2.2.2.2.2.2.2.2.2.2.2.1 s.2.2.2.2.2.2.2.2.2.2.2.2.2.2.2.1 s.2.2.2.2.2.2.2.2.2.2.2.2.2.2.2.2.1 s.2.2.2.2.2.2.2.2.2.2.2.2.2.2.2.2.2.1 s.2.2.2.2.2.2.2.2.2.2.2.2.2.2.2.2.2.2.1 s.2.2.2.2.2.2.2.2.2.2.2.2.2.2.2.2.2.2.2.1 s.2.2.2.2.2.2.2.2.2.2.2.2.2.2.2.2.2.2.2.2.1 s.2.2.2.2.2.2.2.2.2.2.2.2.2.2.2.2.2.2.2.2.2.1 s.2.2.2.2.2.2.2.2.2.2.2.2.2.2.2.2.2.2.2.2.2.2.1 s.2.2.2.2.2.2.2.2.2.2.2.2.2.2.2.2.2.2.2.2.2.2.2.1 s.2.2.2.2.2.2.2.2.2.2.2.2.2.2.2.2.2.2.2.2.2.2.2.2.1 s.2.2.2.2.2.2.2.2.2.2.2.2.2.2.2.2.2.2.2.2.2.2.2.2.2.1 s.2.2.2.2.2.2.2.2.2.2.2.2.2.2.2.2.2.2.2.2.2.2.2.2.2.2.1 s.2.2.2.2.2.2.2.2.2.2.2.2.2.2.2.2.2.2.2.2.2.2.2.2.2.2.2.1 s.2.2.2.2.2.2.2.2.2.2.2.2.2.2.2.2.2.2.2.2.2.2.2.2.2.2.2.2.1 s.2.2.2.2.2.2.2.2.2.2.2.2.2.2.2.2.2.2.2.2.2.2.2.2.2.2.2.2.2.1 s.2.2.2.2.2.2.2.2.2.2.2.2.2.2.2.2.2.2.2.2.2.2.2.2.2.2.2.2.2.2.1 s.2.2.2.2.2.2.2.2.2.2.2.2.2.2.2.2.2.2.2.2.2.2.2.2.2.2.2.2.2.2.2.1 s.2.2.2.2.2.2.2.2.2.2.2.2.2.2.2.2.2.2.2.2.2.2.2.2.2.2.2.2.2.2.2.2.1 s.2.2.2.2.2.2.2.2.2.2.2.2.2.2.2.2.2.2.2.2.2.2.2.2.2.2.2.2.2.2.2.2.2.1 s.2.2.2.2.2.2.2.2.2.2.2.2.2.2.2.2.2.2.2.2.2.2.2.2.2.2.2.2.2.2.2.2.2.2.1 s.2.2.2.2.2.2.2.2.2.2.2.2.2.2.2.2.2.2.2.2.2.2.2.2.2.2.2.2.2.2.2.2.2.2.2.1 s.2.2.2.2.2.2.2.2.2.2.2.2.2.2.2.2.2.2.2.2.2.2.2.2.2.2.2.2.2.2.2.2.2.2.2.2.1 s.2.2.2.2.2.2.2.2.2.2.2.2.2.2.2.2.2.2.2.2.2.2.2.2.2.2.2.2.2.2.2.2.2.2.2.2.2.1 s.2.2.2.2.2.2.2.2.2.2.2.2.2.2.2.2.2.2.2.2.2.2.2.2.2.2.2.2.2.2.2.2.2.2.2.2.2.2.1 s.2.2.2.2.2.2.2.2.2.2.2.2.2.2.2.2.2.2.2.2.2.2.2.2.2.2.2.2.2.2.2.2.2.2.2.2.2.2.2.1 s.2.2.2.2.2.2.2.2.2.2.2.2.2.2.2.2.2.2.2.2.2.2.2.2.2.2.2.2.2.2.2.2.2.2.2.2.2.2.2.2.1 s.2.2.2.2.2.2.2.2.2.2.2.2.2.2.2.2.2.2.2.2.2.2.2.2.2.2.2.2.2.2.2.2.2.2.2.2.2.2.2.2.2.1)
    (fun i => (8, (i : Int), 0, 0, [], 0, 0, 0, 0, 0, 0, 0, 0, 0, 0, 0, 0, 0, 0, 0, 0, f, stW (f.getD 0 []) i, 0, [], 0, 0, 0, 0, 0, 0, 0, 0, 0, 0, 0, 0, 0, 0, 0, 0, wds, ())) (a := 0) (n := 8) (by decide) (fun i _ hi => by
      show terrierlaw17_parse_b0 8 (i : Int) 0 0 [] 0 0 0 0 0 0 0 0 0 0 0 0 0 0 0 0 f (stW (f.getD 0 []) i) 0 [] 0 0 0 0 0 0 0 0 0 0 0 0 0 0 0 0 wds = _
      unfold terrierlaw17_parse_b0
      simp only [ltO_def, chk_same, Int.toNat_natCast]
      have hl : wds.length = 8 := rfl
      have w1 : IntKind.i64.wrap ((i : Int) + 1) = ((i + 1 : Nat) : Int) := by rw [w64 (by omega) (by omega)]; omega
      rw [decide_eq_true (by omega), cnd_true, chk_pos (by omega), chk_pos (by omega), chk_pos (by intro _; omega), chk_pos (by intro _; omega), cnd_ite, w1]
      show _ = some (Sum.inl (8, ((i + 1 : Nat) : Int), 0, 0, [], 0, 0, 0, 0, 0, 0, 0, 0, 0, 0, 0, 0, 0, 0, 0, 0, f, (if (!(wds.getD i [] == [])) && (wds.getD i [] == f.getD 0 []) then (i : Int) else stW (f.getD 0 []) i), 0, [], 0, 0, 0, 0, 0, 0, 0, 0, 0, 0, 0, 0, 0, 0, 0, 0, wds, ()))
      split <;> rfl)
  refine Eq.trans S ?_
  refine loopM_last ?_
  show terrierlaw17_parse_b0 8 ((8 : Nat) : Int) 0 0 [] 0 0 0 0 0 0 0 0 0 0 0 0 0 0 0 0 f (stW (f.getD 0 []) 8) 0 [] 0 0 0 0 0 0 0 0 0 0 0 0 0 0 0 0 wds = _
  unfold terrierlaw17_parse_b0
  rw [stW_eq]
  rfl
end Go.Tr
namespace Go.Tr
open Go
set_option linter.unusedVariables false
set_option linter.unusedSimpArgs false
set_option maxRecDepth 100000
set_option maxHeartbeats 4000000
theorem parse17_long {s : List UInt8} (h : 200 < s.length) : terrierlaw17_parse s = some (zEv, -1, 3, ()) := by
  unfold terrierlaw17_parse
  rw [decide_eq_true (by omega), cnd_true]
theorem parse17 {s : List UInt8} (hs : s.length ≤ 200) : terrierlaw17_parse s = some ((cmdP (splitC 32 s)).1, (cmdP (splitC 32 s)).2.1, (cmdP (splitC 32 s)).2.2, ()) := by
  unfold terrierlaw17_parse
  rw [decide_eq_false (by omega), cnd_false, cut_eq (by omega), bnd_val, words_eq, bnd_val]
  have hp := split_pos 32 s
  have hl : ∀ i, ((splitC 32 s).getD i []).length ≤ 200 := getD_len fun w hw => Nat.le_trans (split_len 32 s w hw) hs
  dsimp only
  generalize splitC 32 s = f at hp hl
  rw [show ((wds.length : Nat) : Int) = 8 from rfl, parse_words hp, bnd_val, sumO_inl]
  dsimp only
  have l1 := hl 1
  have l2 := hl 2
  have b1 : (f.getD 1 []).length < 4294967281 := by omega
  simp only [ltO_def, chk_same, chk_nn]
  unfold cmdP
  rcases wordN_cases (f.getD 0 []) with h | h | h | h | h | h | h
  · simp only [h, BEq.rfl, cnd_true, if_true]
  · simp only [h, show ((1 : Int) == 0) = false from rfl, cnd_false, BEq.rfl, cnd_true, if_true, show ((1 : Int) = 0) = False from by simp, if_false]
    by_cases h3 : f.length < 3
    · rw [decide_eq_true (by omega), cnd_true, if_pos h3]
    rw [decide_eq_false (by omega), cnd_false, if_neg h3]
    by_cases h4 : 4 < f.length
    · rw [decide_eq_true (by omega), cnd_true, if_pos h4]
    rw [decide_eq_false (by omega), cnd_false, if_neg h4]
    simp only [show ((1 : Int) == 3) = false from rfl, show ((1 : Int) == 4) = false from rfl, Bool.or_false, cnd_false]
    rw [chk_pos (by omega), chk_pos (by omega), Parse_eq b1, bnd_val]
    cases ha : rdA (f.getD 1 []) with
    | none => simp only [Bool.not_false, cnd_true]
    | some a =>
      simp only [Bool.not_true, cnd_false, show ((1 : Int) != 1) = false from rfl]
      rw [chk_pos (by omega), chk_pos (by omega), May_eq (by omega), bnd_val]
      cases hm : mayS (f.getD 2 []) with
      | false => simp only [Bool.not_false, cnd_true, if_true]
      | true =>
        simp only [Bool.not_true, cnd_false, Bool.true_eq_false, if_false]
        rw [chk_pos (by omega), chk_pos (by omega)]
        by_cases h : f.length = 4
        · rw [show (((f.length : Nat) : Int) == 4) = true from by rw [h]; rfl, cnd_true, chk_pos (by omega), chk_pos (by omega), parse_eq, bnd_val, if_pos h]
          unfold okM
          cases hp : okP (f.getD 3 []) with
          | false => simp only [Bool.false_eq_true, if_false, Bool.not_false, Bool.not_true, bndG_false, Bool.true_or, cnd_true, Bool.false_and]
          | true =>
            simp only [if_true, Bool.not_true, Bool.not_false, none_eq, bndG_val, Bool.false_or]
            rw [group_eq' (vlP_ok hp), bndG_val]
            cases hn : ((vlP (f.getD 3 []) 0, vlP (f.getD 3 []) 1, vlP (f.getD 3 []) 2, vlP (f.getD 3 []) 3, vlP (f.getD 3 []) 4, vlP (f.getD 3 []) 5) == ((0, 0, 0, 0, 0, 0) : M6)) with
            | true => simp only [Bool.true_or, cnd_true, Bool.not_true, Bool.false_and, Bool.and_false, Bool.false_eq_true, if_false]
            | false =>
              simp only [Bool.false_or]
              cases hg : (vlP (f.getD 3 []) 0 % 2 == 1) with
              | true => simp only [cnd_true, Bool.not_true, Bool.and_false, Bool.false_eq_true, if_false]
              | false => simp only [cnd_false, Bool.not_false, Bool.and_true, if_true, macP]
        · rw [show (((f.length : Nat) : Int) == 4) = false from by simp; omega, cnd_false, if_neg h]
  all_goals
    simp only [h, show ((2 : Int) = 0) = False from by simp, show ((3 : Int) = 0) = False from by simp, show ((4 : Int) = 0) = False from by simp, show ((6 : Int) = 0) = False from by simp, show ((7 : Int) = 0) = False from by simp, show ((2 : Int) = 1) = False from by simp, show ((3 : Int) = 1) = False from by simp, show ((4 : Int) = 1) = False from by simp, show ((6 : Int) = 1) = False from by simp, show ((7 : Int) = 1) = False from by simp, cnd_false, if_false,
      show ((2 : Int) == 0) = false from rfl, show ((3 : Int) == 0) = false from rfl, show ((4 : Int) == 0) = false from rfl, show ((6 : Int) == 0) = false from rfl, show ((7 : Int) == 0) = false from rfl,
      show ((2 : Int) == 1) = false from rfl, show ((3 : Int) == 1) = false from rfl, show ((4 : Int) == 1) = false from rfl, show ((6 : Int) == 1) = false from rfl, show ((7 : Int) == 1) = false from rfl, show ((2 : Int) == 3) = false from rfl, show ((3 : Int) == 3) = true from rfl, show ((4 : Int) == 3) = false from rfl, show ((6 : Int) == 3) = false from rfl, show ((7 : Int) == 3) = false from rfl,
      show ((2 : Int) == 4) = false from rfl, show ((3 : Int) == 4) = false from rfl, show ((4 : Int) == 4) = true from rfl, show ((6 : Int) == 4) = false from rfl, show ((7 : Int) == 4) = false from rfl, cnd_true, Bool.true_or, Bool.false_or, Bool.or_false, Bool.or_true]
    by_cases h2 : f.length < 2
    · rw [decide_eq_true (by omega), cnd_true, if_pos h2]
    rw [decide_eq_false (by omega), cnd_false, if_neg h2]
    by_cases h4 : 2 < f.length
    · rw [decide_eq_true (by omega), cnd_true, if_pos h4]
    rw [decide_eq_false (by omega), cnd_false, if_neg h4, chk_pos (by omega), chk_pos (by omega)]
    first
      | (rw [if_neg (by decide), Parse_eq b1, bnd_val]
         cases ha : rdA (f.getD 1 []) with
         | none => simp only [Bool.not_false, cnd_true]
         | some a => simp only [Bool.not_true, cnd_false]; rfl)
      | (rw [if_pos (by decide), ParseBlock_eq b1, bnd_val]
         cases ha : rdB (f.getD 1 []) with
         | none => simp only [Bool.not_false, cnd_true]
         | some a => simp only [Bool.not_true, cnd_false])
end Go.Tr
