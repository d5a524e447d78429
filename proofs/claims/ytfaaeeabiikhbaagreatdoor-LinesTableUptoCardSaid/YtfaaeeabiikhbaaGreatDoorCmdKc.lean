/- What numbers make of a command; the statements' examples. A command's text means its event. The statements of commands hold of the printed functions. The statements of commands hold of the printed functions: which texts are one, what is too long, what a text means. Conditions: none but those that each theorem states. -/
import Derived.Test.YtfaaeeabiikhbaaGreatDoorCmdKb
import Derived.Test.YtfaaeeabiikhbaaGreatDoorAddrT
import Derived.Test.YtfaaeeabiikhbaaGreatDoorMacS
import Derived.KernelRfl
namespace Go.Tr
open Go
set_option linter.unusedVariables false
set_option linter.unusedSimpArgs false
set_option maxRecDepth 100000
set_option maxHeartbeats 4000000
def AllLe (B : Nat) (l : List (List UInt8)) : Prop := ∀ w ∈ l, w.length ≤ B
theorem AllLe.app {B : Nat} {l m : List (List UInt8)} (h : AllLe B l) (k : AllLe B m) : AllLe B (l ++ m) := fun w hw => (List.mem_append.1 hw).elim (h w) (k w)
theorem AllLe.one {B : Nat} {w : List UInt8} (h : w.length ≤ B) : AllLe B [w] := fun x hx => by simp at hx; subst hx; exact h
theorem AllLe.set {B : Nat} {l : List (List UInt8)} (h : AllLe B l) {i : Nat} {w : List UInt8} (k : w.length ≤ B) : AllLe B (l.set i w) := fun x hx => by
  rcases List.mem_or_eq_of_mem_set hx with hx | rfl
  · exact h x hx
  · exact k
theorem AllLe.slice {B : Nat} {l : List (List UInt8)} (h : AllLe B l) (i j : Nat) : AllLe B (sliceA i j l) := fun x hx => h x (List.mem_of_mem_drop (List.mem_of_mem_take hx))
theorem zMac_ok' : M6ok zMac := ⟨⟨by decide, by decide⟩, ⟨by decide, by decide⟩, ⟨by decide, by decide⟩, ⟨by decide, by decide⟩, ⟨by decide, by decide⟩, ⟨by decide, by decide⟩⟩
def StM (m : TMac) : Prop := m = zMac ∨ ∃ k, 1 ≤ k ∧ k ≤ 3 ∧ m = (2, 0, 0, 0, 0, k)
theorem StM.ok {m : TMac} (h : StM m) : M6ok m := by
  rcases h with rfl | ⟨k, h1, h2, rfl⟩
  · exact zMac_ok'
  · constructor <;> (unfold by8; dsimp only; omega)
def abc : List UInt8 := [97, 98, 99, 100, 101, 102, 103, 104]
structure SayE (e : TEv) : Prop where
  k : e.1 = 1 ∨ e.1 = 2 ∨ e.1 = 3 ∨ e.1 = 4 ∨ e.1 = 6 ∨ e.1 = 7
  b : e.1 = 3 ∨ e.1 = 4 → BlkOK e.2.2.1 ∧ e.2.1 = zHold
  h : ¬ (e.1 = 3 ∨ e.1 = 4) → e.2.2.1 = (0, 0)
  a : in32 e.2.1.1
  m : StM e.2.1.2.2
  o : e.1 = 1 → ∃ n, 1 ≤ n ∧ n ≤ 8 ∧ e.2.1.2.1 = abc.take n
  z : e.1 ≠ 1 → e.2.1.2 = ([], zMac)
  r : e.2.2.2 = (0, zMac, 0)
theorem SayE.ev {e : TEv} (h : SayE e) : EvOk e := by
  refine ⟨h.a, h.m.ok, ?_, ?_, fun hh => ?_⟩
  · by_cases h1 : e.1 = 1
    · obtain ⟨n, _, _, hn⟩ := h.o h1
      rw [hn]; simp [abc]; omega
    · rw [h.z h1]; simp
  · by_cases hb : e.1 = 3 ∨ e.1 = 4
    · exact (h.b hb).1.i
    · rw [h.h hb]; exact ⟨by decide, by decide⟩
  · have := (h.b hh).1.n
    unfold bo; omega
end Go.Tr
namespace Go.Tr
open Go
set_option linter.unusedVariables false
set_option linter.unusedSimpArgs false
set_option maxRecDepth 100000
set_option maxHeartbeats 4000000
theorem hexd_no32 : ∀ n : Fin 16, hexd false (n.val : Int) ≠ 32 := by decide +kernel
theorem hx {a : Int} (h0 : 0 ≤ a) (h1 : a < 16) : (32 : UInt8) ≠ hexd false a := by
  have := hexd_no32 ⟨a.toNat, by omega⟩
  simp only [Int.toNat_of_nonneg h0] at this
  exact this.symm
structure CmdE (e : TEv) : Prop where
  k : e.1 = 1 ∨ e.1 = 2 ∨ e.1 = 3 ∨ e.1 = 4 ∨ e.1 = 6 ∨ e.1 = 7
  b : e.1 = 3 ∨ e.1 = 4 → in32 e.2.2.1.1 ∧ rB e.2.2.1 = true ∧ bo e.2.2.1.2 ∧ e.2.1 = zHold
  h : ¬ (e.1 = 3 ∨ e.1 = 4) → e.2.2.1 = (0, 0)
  a : in32 e.2.1.1
  o : e.1 = 1 → mayS e.2.1.2.1 = true ∧ (e.2.1.2.2 = zMac ∨ M6ok e.2.1.2.2 ∧ e.2.1.2.2 ≠ zMac ∧ e.2.1.2.2.1 % 2 ≠ 1)
  z : e.1 ≠ 1 → e.2.1.2 = ([], zMac)
  r : e.2.2.2 = (0, zMac, 0)
end Go.Tr
namespace Go.Tr
open Go
set_option linter.unusedVariables false
set_option linter.unusedSimpArgs false
set_option maxRecDepth 100000
set_option maxHeartbeats 4000000
theorem CmdE.ev {e : TEv} (h : CmdE e) : EvOk e := by
  refine ⟨h.a, ?_, ?_, ?_, fun hh => (h.b hh).2.2.1⟩
  · by_cases h1 : e.1 = 1
    · rcases (h.o h1).2 with hm | hm
      · rw [hm]; exact zMac_ok'
      · exact hm.1
    · rw [h.z h1]; exact zMac_ok'
  · by_cases h1 : e.1 = 1
    · have := (h.o h1).1
      unfold mayS at this
      simp only [Bool.and_eq_true, decide_eq_true_eq] at this
      omega
    · rw [h.z h1]; simp
  · by_cases hb : e.1 = 3 ∨ e.1 = 4
    · exact (h.b hb).1
    · rw [h.h hb]; exact ⟨by decide, by decide⟩
end Go.Tr
namespace Go.Tr
open Go
set_option linter.unusedVariables false
set_option linter.unusedSimpArgs false
set_option maxRecDepth 100000
set_option maxHeartbeats 4000000
end Go.Tr
