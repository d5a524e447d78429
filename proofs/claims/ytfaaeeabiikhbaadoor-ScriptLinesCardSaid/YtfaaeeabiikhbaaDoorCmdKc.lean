/- What numbers make of a command; the statements' examples. A command's text means its event. The statements of commands hold of the printed functions. The statements of commands hold of the printed functions: which texts are one, what is too long, what a text means. Conditions: none but those that each theorem states. -/
import Derived.Test.YtfaaeeabiikhbaaDoorCmdKb
import Derived.Test.YtfaaeeabiikhbaaDoorAddrT
import Derived.Test.YtfaaeeabiikhbaaDoorMacS
import Derived.KernelRfl
namespace Go.Tr
open Go
set_option linter.unusedVariables false
set_option linter.unusedSimpArgs false
set_option maxRecDepth 100000
set_option maxHeartbeats 4000000
def AllLe (B : Nat) (l : List (List UInt8)) : Prop := ∀ w ∈ l, w.length ≤ B
theorem AllLe.app {B : Nat} {l m : List (List UInt8)} (h : AllLe B l) (k : AllLe B m) : AllLe B (l ++ m) := fun w hw => (List.mem_append.1 hw).elim (h w) (k w)
theorem AllLe.one {B : Nat} {w : List UInt8} (h : w.length ≤ B) : AllLe B [w] := fun x hx => by simp at hx; subst hx; exact h
theorem AllLe.set {B : Nat} {l : List (List UInt8)} (h : AllLe B l) {i : Nat} {w : List UInt8} (k : w.length ≤ B) : AllLe B (l.set i w) := fun x hx => by
  rcases List.mem_or_eq_of_mem_set hx with hx | rfl
  · exact h x hx
  · exact k
theorem AllLe.slice {B : Nat} {l : List (List UInt8)} (h : AllLe B l) (i j : Nat) : AllLe B (sliceA i j l) := fun x hx => h x (List.mem_of_mem_drop (List.mem_of_mem_take hx))
theorem zMac_ok' : M6ok zMac := ⟨⟨by decide, by decide⟩, ⟨by decide, by decide⟩, ⟨by decide, by decide⟩, ⟨by decide, by decide⟩, ⟨by decide, by decide⟩, ⟨by decide, by decide⟩⟩
def StM (m : TMac) : Prop := m = zMac ∨ ∃ k, 1 ≤ k ∧ k ≤ 3 ∧ m = (2, 0, 0, 0, 0, k)
theorem StM.ok {m : TMac} (h : StM m) : M6ok m := by
  rcases h with rfl | ⟨k, h1, h2, rfl⟩
  · exact zMac_ok'
  · constructor <;> (unfold by8; dsimp only; omega)
def abc : List UInt8 := [97, 98, 99, 100, 101, 102, 103, 104]
structure SayE (e : TEv) : Prop where
  k : e.1 = 1 ∨ e.1 = 2 ∨ e.1 = 3 ∨ e.1 = 4 ∨ e.1 = 6 ∨ e.1 = 7
  b : e.1 = 3 ∨ e.1 = 4 → BlkOK e.2.2.1 ∧ e.2.1 = zHold
  h : ¬ (e.1 = 3 ∨ e.1 = 4) → e.2.2.1 = (0, 0)
  a : in32 e.2.1.1
  m : StM e.2.1.2.2
  o : e.1 = 1 → ∃ n, 1 ≤ n ∧ n ≤ 8 ∧ e.2.1.2.1 = abc.take n
  z : e.1 ≠ 1 → e.2.1.2 = ([], zMac)
  r : e.2.2.2 = (0, zMac, 0)
theorem SayE.ev {e : TEv} (h : SayE e) : EvOk e := by
  refine ⟨h.a, h.m.ok, ?_, ?_, fun hh => ?_⟩
  · by_cases h1 : e.1 = 1
    · obtain ⟨n, _, _, hn⟩ := h.o h1
      rw [hn]; simp [abc]; omega
    · rw [h.z h1]; simp
  · by_cases hb : e.1 = 3 ∨ e.1 = 4
    · exact (h.b hb).1.i
    · rw [h.h hb]; exact ⟨by decide, by decide⟩
  · have := (h.b hh).1.n
    unfold bo; omega
end Go.Tr
namespace Go.Tr
open Go
set_option linter.unusedVariables false
set_option linter.unusedSimpArgs false
set_option maxRecDepth 100000
set_option maxHeartbeats 4000000
theorem ds_no32 {u : Nat} (h : u < 1000) : (32 : UInt8) ∉ ds u := by
  have D : ∀ n : Fin 1000, (32 : UInt8) ∉ ds n.val := by decide +kernel
  exact D ⟨u, h⟩
theorem adT_no32 {a : Int} : (32 : UInt8) ∉ adT a := by
  unfold adT
  have p := fun i => ds_no32 (u := pt a i) (by have := @pt_lt a i; omega)
  simp only [List.mem_append, List.mem_cons, not_or]
  exact ⟨p 3, by decide, p 2, by decide, p 1, by decide, p 0⟩
theorem bt_no32 {b : Int × Int} (h : b.2 ≤ 32) : (32 : UInt8) ∉ bt b := by
  unfold bt
  simp only [List.mem_append, List.mem_cons, not_or]
  exact ⟨adT_no32, by decide, ds_no32 (by omega)⟩
theorem hexd_no32 : ∀ n : Fin 16, hexd false (n.val : Int) ≠ 32 := by decide +kernel
theorem hx {a : Int} (h0 : 0 ≤ a) (h1 : a < 16) : (32 : UInt8) ≠ hexd false a := by
  have := hexd_no32 ⟨a.toNat, by omega⟩
  simp only [Int.toNat_of_nonneg h0] at this
  exact this.symm
theorem lowT_no32 {m : M6} (hm : M6ok m) : (32 : UInt8) ∉ lowT m := by
  obtain ⟨⟨a1, a2⟩, ⟨b1, b2⟩, ⟨c1, c2⟩, ⟨d1, d2⟩, ⟨e1, e2⟩, ⟨f1, f2⟩⟩ := hm
  unfold lowT tx
  simp only [List.mem_cons, List.not_mem_nil, not_or, or_false]
  refine ⟨hx (by omega) (by omega), hx (by omega) (by omega), by decide, hx (by omega) (by omega), hx (by omega) (by omega), by decide, hx (by omega) (by omega), hx (by omega) (by omega), by decide, hx (by omega) (by omega), hx (by omega) (by omega), by decide, hx (by omega) (by omega), hx (by omega) (by omega), by decide, hx (by omega) (by omega), hx (by omega) (by omega)⟩
theorem low_rd {m : M6} (hm : M6ok m) : okP (lowT m) = true ∧ macP (lowT m) = m := by
  have p := parse_tx 58 (.inl rfl) (fun _ => false) hm
  rw [parse_eq] at p
  have p' : (if okP (lowT m) = true then ((vlP (lowT m) 0, vlP (lowT m) 1, vlP (lowT m) 2, vlP (lowT m) 3, vlP (lowT m) 4, vlP (lowT m) 5), true, ()) else ((0, 0, 0, 0, 0, 0), false, ())) = (m, true, ()) := Option.some.inj p
  cases h : okP (lowT m) with
  | true => rw [h, if_pos rfl] at p'; exact ⟨rfl, congrArg Prod.fst p'⟩
  | false => rw [h] at p'; simp at p'
structure CmdE (e : TEv) : Prop where
  k : e.1 = 1 ∨ e.1 = 2 ∨ e.1 = 3 ∨ e.1 = 4 ∨ e.1 = 6 ∨ e.1 = 7
  b : e.1 = 3 ∨ e.1 = 4 → in32 e.2.2.1.1 ∧ rB e.2.2.1 = true ∧ bo e.2.2.1.2 ∧ e.2.1 = zHold
  h : ¬ (e.1 = 3 ∨ e.1 = 4) → e.2.2.1 = (0, 0)
  a : in32 e.2.1.1
  o : e.1 = 1 → mayS e.2.1.2.1 = true ∧ (e.2.1.2.2 = zMac ∨ M6ok e.2.1.2.2 ∧ e.2.1.2.2 ≠ zMac ∧ e.2.1.2.2.1 % 2 ≠ 1)
  z : e.1 ≠ 1 → e.2.1.2 = ([], zMac)
  r : e.2.2.2 = (0, zMac, 0)
theorem may_no32 {o : List UInt8} (h : mayS o = true) : (32 : UInt8) ∉ o := by
  unfold mayS at h
  simp only [Bool.and_eq_true, List.all_eq_true] at h
  intro hm
  have := h.1 32 hm
  revert this; decide
theorem word_no32 (w : Int) : (32 : UInt8) ∉ wordS w := by
  unfold wordS
  repeat' split
  all_goals decide
theorem wordN_S {w : Int} (h : w = 1 ∨ w = 2 ∨ w = 3 ∨ w = 4 ∨ w = 6 ∨ w = 7) : wordN (wordS w) = w := by
  rcases h with rfl | rfl | rfl | rfl | rfl | rfl <;> rfl
theorem okM_low {m : M6} (h : M6ok m) (h1 : m ≠ zMac) (h2 : m.1 % 2 ≠ 1) : okM (lowT m) = true ∧ macP (lowT m) = m := by
  obtain ⟨a, b⟩ := low_rd h
  refine ⟨?_, b⟩
  have b' : (vlP (lowT m) 0, vlP (lowT m) 1, vlP (lowT m) 2, vlP (lowT m) 3, vlP (lowT m) 4, vlP (lowT m) 5) = m := b
  unfold okM
  rw [a, b', show vlP (lowT m) 0 = m.1 from congrArg Prod.fst b']
  have c1 : (m == ((0, 0, 0, 0, 0, 0) : M6)) = false := beq_eq_false_iff_ne.2 h1
  have c2 : (m.1 % 2 == 1) = false := beq_eq_false_iff_ne.2 h2
  rw [c1, c2]; rfl
theorem text_rd {e : TEv} (h : CmdE e) : cmdP (splitC 32 (cmdT e)) = (e, 0, 0) := by
  obtain ⟨w, ⟨a, o, m⟩, b, r⟩ := e
  have hr := h.r
  simp only at hr
  subst hr
  have hk := h.k
  have ha := h.a
  simp only at hk ha
  unfold cmdT
  dsimp only
  by_cases hb : w = 3 ∨ w = 4
  · obtain ⟨b1, b2, b3, b4⟩ := h.b hb
    simp only at b1 b2 b3 b4
    have s1 : splitC 32 (wordS w ++ [32] ++ bt b) = [wordS w, bt b] := by
      rw [List.append_assoc, show ([32] ++ bt b : List UInt8) = 32 :: bt b from rfl, splitC_app _ (word_no32 w), splitC_none (bt_no32 b3.2)]
    have e0 : ([wordS w, bt b] : List (List UInt8)).getD 0 [] = wordS w := rfl
    have e1 : ([wordS w, bt b] : List (List UInt8)).getD 1 [] = bt b := rfl
    rw [if_pos hb, s1]
    unfold cmdP
    rw [e0, e1, wordN_S hk, if_neg (by omega), if_neg (by omega), if_neg (by simp), if_neg (by simp), if_pos hb, rd_bt b1 b2, b4]
  · have hb0 := h.h hb
    simp only at hb0
    subst hb0
    rw [if_neg hb]
    by_cases h1 : w = 1
    · obtain ⟨o1, o2⟩ := h.o h1
      simp only at o1 o2
      subst h1
      rw [if_pos rfl]
      by_cases hm : m = (0, 0, 0, 0, 0, 0)
      · subst hm
        rw [if_pos rfl]
        have s1 : splitC 32 (wordS 1 ++ [32] ++ adT a ++ [32] ++ o) = [wordS 1, adT a, o] := by
          rw [List.append_assoc, List.append_assoc, List.append_assoc, show ([32] ++ (adT a ++ ([32] ++ o)) : List UInt8) = 32 :: (adT a ++ 32 :: o) from rfl, splitC_app _ (word_no32 1), splitC_app _ adT_no32, splitC_none (may_no32 o1)]
        have e0 : ([wordS 1, adT a, o] : List (List UInt8)).getD 0 [] = wordS 1 := rfl
        have e1 : ([wordS 1, adT a, o] : List (List UInt8)).getD 1 [] = adT a := rfl
        have e2 : ([wordS 1, adT a, o] : List (List UInt8)).getD 2 [] = o := rfl
        rw [s1]
        unfold cmdP
        rw [e0, e1, e2, wordN_S hk, if_neg (by decide), if_pos rfl, if_neg (by simp), if_neg (by simp), rd_adT ha]
        dsimp only
        rw [if_neg (by simp [o1]), if_neg (by simp)]
      · rcases o2 with o2 | ⟨o2, o3, o4⟩
        · exact absurd o2 hm
        rw [if_neg hm]
        have s1 : splitC 32 (wordS 1 ++ [32] ++ adT a ++ [32] ++ o ++ [32] ++ lowT m) = [wordS 1, adT a, o, lowT m] := by
          rw [List.append_assoc, List.append_assoc, List.append_assoc, List.append_assoc, List.append_assoc, show ([32] ++ (adT a ++ ([32] ++ (o ++ ([32] ++ lowT m)))) : List UInt8) = 32 :: (adT a ++ 32 :: (o ++ 32 :: lowT m)) from rfl, splitC_app _ (word_no32 1), splitC_app _ adT_no32, splitC_app _ (may_no32 o1), splitC_none (lowT_no32 o2)]
        have e0 : ([wordS 1, adT a, o, lowT m] : List (List UInt8)).getD 0 [] = wordS 1 := rfl
        have e1 : ([wordS 1, adT a, o, lowT m] : List (List UInt8)).getD 1 [] = adT a := rfl
        have e2 : ([wordS 1, adT a, o, lowT m] : List (List UInt8)).getD 2 [] = o := rfl
        have e3 : ([wordS 1, adT a, o, lowT m] : List (List UInt8)).getD 3 [] = lowT m := rfl
        obtain ⟨m1, m2⟩ := okM_low o2 o3 o4
        rw [s1]
        unfold cmdP
        rw [e0, e1, e2, e3, wordN_S hk, if_neg (by decide), if_pos rfl, if_neg (by simp), if_neg (by simp), rd_adT ha]
        dsimp only
        rw [if_neg (by simp [o1]), if_pos (by simp), if_pos m1, m2]
    · have hz := h.z h1
      simp only [Prod.mk.injEq] at hz
      obtain ⟨rfl, rfl⟩ := hz
      rw [if_neg h1, if_pos (by omega)]
      have s1 : splitC 32 (wordS w ++ [32] ++ adT a) = [wordS w, adT a] := by
        rw [List.append_assoc, show ([32] ++ adT a : List UInt8) = 32 :: adT a from rfl, splitC_app _ (word_no32 w), splitC_none adT_no32]
      have e0 : ([wordS w, adT a] : List (List UInt8)).getD 0 [] = wordS w := rfl
      have e1 : ([wordS w, adT a] : List (List UInt8)).getD 1 [] = adT a := rfl
      rw [s1]
      unfold cmdP
      rw [e0, e1, wordN_S hk, if_neg (by omega), if_neg (by omega), if_neg (by simp), if_neg (by simp), if_neg hb, rd_adT ha]
theorem cmdT_len {e : TEv} (h : CmdE e) : (cmdT e).length ≤ 60 := by
  have hw := wordS_len e.1
  have ha := adT_len e.2.1.1
  have hb := bt_len e.2.2.1
  have hl := lowT_len e.2.1.2.2
  have hw1 := wordS_len 1
  have ho : e.1 = 1 → e.2.1.2.1.length ≤ 8 := fun h1 => by
    have := (h.o h1).1
    unfold mayS at this
    simp only [Bool.and_eq_true, decide_eq_true_eq] at this
    exact this.2.2
  unfold cmdT
  repeat' split
  all_goals (simp only [List.length_append, List.length_cons, List.length_nil])
  all_goals first
    | omega
    | (have := ho (by assumption); omega)
end Go.Tr
namespace Go.Tr
open Go
set_option linter.unusedVariables false
set_option linter.unusedSimpArgs false
set_option maxRecDepth 100000
set_option maxHeartbeats 4000000
theorem CmdE.ev {e : TEv} (h : CmdE e) : EvOk e := by
  refine ⟨h.a, ?_, ?_, ?_, fun hh => (h.b hh).2.2.1⟩
  · by_cases h1 : e.1 = 1
    · rcases (h.o h1).2 with hm | hm
      · rw [hm]; exact zMac_ok'
      · exact hm.1
    · rw [h.z h1]; exact zMac_ok'
  · by_cases h1 : e.1 = 1
    · have := (h.o h1).1
      unfold mayS at this
      simp only [Bool.and_eq_true, decide_eq_true_eq] at this
      omega
    · rw [h.z h1]; simp
  · by_cases hb : e.1 = 3 ∨ e.1 = 4
    · exact (h.b hb).1
    · rw [h.h hb]; exact ⟨by decide, by decide⟩
end Go.Tr
namespace Go.Tr
open Go
set_option linter.unusedVariables false
set_option linter.unusedSimpArgs false
set_option maxRecDepth 100000
set_option maxHeartbeats 4000000
end Go.Tr
