/- The statements' own reading of a command is the same. The statements' own reading of a command is the program's. Conditions: none but those that each theorem states. -/
import Derived.Test.YtfaaeeabiikhbaaGreatDoorCmdKa
namespace Go.Tr
open Go
set_option linter.unusedVariables false
set_option linter.unusedSimpArgs false
set_option maxRecDepth 100000
set_option maxHeartbeats 4000000
theorem splitC_snoc (c b : UInt8) : ∀ l : List UInt8, splitC c (l ++ [b]) = if b = c then splitC c l ++ [[]] else (splitC c l).set ((splitC c l).length - 1) ((splitC c l).getD ((splitC c l).length - 1) [] ++ [b])
  | [] => by
    by_cases hb : b = c <;> simp [splitC, hb]
  | a :: l => by
    have ih := splitC_snoc c b l
    have hne := splitC_ne c l
    simp only [List.cons_append, splitC]
    rw [ih]
    cases h : splitC c l with
    | nil => exact absurd h hne
    | cons x t =>
      by_cases hb : b = c
      · simp only [if_pos hb]
        split <;> rfl
      · simp only [if_neg hb]
        cases t with
        | nil =>
          by_cases ha : a = c
          · simp [if_pos ha]
          · simp [if_neg ha]
        | cons y t =>
          by_cases ha : a = c
          · simp [if_pos ha]
          · simp [if_neg ha]
theorem take_snoc {s : List UInt8} {i : Nat} (h : i < s.length) : s.take (i + 1) = s.take i ++ [s.getD i 0] := by
  rw [List.take_succ_eq_append_getElem h]
  simp [List.getD_eq_getElem?_getD, h]
theorem slice_one {s : List UInt8} {i : Nat} (h : i < s.length) : sliceA i (i + 1) s = [s.getD i 0] := by
  unfold sliceA
  rw [show i + 1 - i = 1 from by omega, List.drop_eq_getElem_cons h, List.take_succ_cons, List.take_zero]
  simp [List.getD_eq_getElem?_getD, h]
theorem split_count (c : UInt8) : ∀ s : List UInt8, (splitC c s).length ≤ s.length + 1
  | [] => by simp [splitC]
  | b :: l => by
    have ih := split_count c l
    unfold splitC
    split
    · simp; omega
    · split
      · rename_i x t hx; rw [hx] at ih; simp at ih ⊢; omega
      · simp
theorem cut_eq {s : List UInt8} (hs : s.length ≤ 1000000) : terrierlaw17_cut s = some (splitC 32 s, ()) := by
  unfold terrierlaw17_cut terrierlaw17_cut_l0
  have L : loopM (fun s : (List UInt8) × Int × (List (List UInt8)) × Unit => terrierlaw17_cut_b0 s.1 s.2.1 s.2.2.1) (s, 0, [[]], ()) = some (.inl (splitC 32 s, ())) := by
    have S := loopM_steps (f := fun s : (List UInt8) × Int × (List (List UInt8)) × Unit => terrierlaw17_cut_b0 s.1 s.2.1 s.2.2.1) (fun i => (s, (i : Int), splitC 32 (s.take i), ())) (a := 0) (n := s.length) (Nat.zero_le _) (fun i _ hi => by
      show terrierlaw17_cut_b0 s (i : Int) (splitC 32 (s.take i)) = _
      have hp := split_pos 32 (s.take i)
      have hc := split_count 32 (s.take i)
      have hw := getD_len (f := splitC 32 (s.take i)) (n := s.length) (fun w hw => Nat.le_trans (split_len 32 _ w hw) (by simp; omega)) ((splitC 32 (s.take i)).length - 1)
      have ht : (s.take i).length ≤ i := by simp; omega
      rw [take_snoc hi, splitC_snoc]
      generalize splitC 32 (s.take i) = f at hp hc hw
      unfold terrierlaw17_cut_b0
      simp only [ltO_def]
      rw [decide_eq_true (by omega), cnd_true, chk_pos (by omega), cnd_ite]
      simp only [Int.toNat_natCast]
      have w1 : IntKind.i64.wrap ((i : Int) + 1) = ((i + 1 : Nat) : Int) := by rw [w64 (by omega) (by omega)]; omega
      have w2 : IntKind.i64.wrap (((f.length : Nat) : Int) - 1) = ((f.length - 1 : Nat) : Int) := by rw [w64 (by omega) (by omega)]; omega
      rw [w1, w2]
      simp only [Int.toNat_natCast]
      by_cases hb : s.getD i 0 = 32
      · rw [if_pos hb, hb, if_pos (by rfl), chk_pos (by show _ * 16 ≤ 140737488355328; omega)]
      · rw [if_neg hb, if_neg (by intro h; apply hb; rw [beq_iff_eq] at h; exact UInt8.toNat_inj.1 (show (s.getD i 0).toNat = 32 from by omega)), slice_one hi]
        rw [chk_pos (by omega), chk_pos (by omega), chk_pos (by omega), chk_pos (by simp only [List.length_cons, List.length_nil]; omega), chk_pos (by omega), chk_pos (by omega)])
    have S' : loopM (fun s : (List UInt8) × Int × (List (List UInt8)) × Unit => terrierlaw17_cut_b0 s.1 s.2.1 s.2.2.1) (s, ((0 : Nat) : Int), splitC 32 (s.take 0), ()) = _ := S
    rw [show (s, (0 : Int), [[]], ()) = (s, ((0 : Nat) : Int), splitC 32 (s.take 0), ()) from by simp [splitC], S']
    refine loopM_last ?_
    show terrierlaw17_cut_b0 s ((s.length : Nat) : Int) (splitC 32 (s.take s.length)) = _
    unfold terrierlaw17_cut_b0
    rw [decide_eq_false (by omega), cnd_false, List.take_length]
  rw [L]; rfl
end Go.Tr
namespace Go.Tr
open Go
set_option linter.unusedVariables false
set_option linter.unusedSimpArgs false
set_option maxRecDepth 100000
set_option maxHeartbeats 4000000
end Go.Tr
