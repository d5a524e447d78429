/- Loops by shapes of states.
   Conditions: none. -/
import Derived.Test.YtbdgfpfafcjmgaaDoorUE
namespace Go.Tr
open Go

def mkL (h : StD) (exit : Nat) (p : StD) : LoopD := ⟨h.T, h.dec, h.enc, exit, p.T, p.dec, p.enc⟩
theorem mkL_ok {h p : StD} {exit : Nat} (hw : (h.wf && p.wf) = true) : (mkL h exit p).OK := by
  simp only [Bool.and_eq_true] at hw
  exact ⟨fun g q s hd hq => StD.sound hw.1 hd hq, fun g q s hd hq => StD.sound hw.2 hd hq⟩

/-- Are all loops well formed? -/
def loopsWf : List (Nat × StD × Nat × StD) → Bool
  | [] => true
  | (_, h, _, p) :: r => h.wf && p.wf && loopsWf r
def mkLs : List (Nat × StD × Nat × StD) → List (Nat × LoopD)
  | [] => []
  | (k, h, e, p) :: r => (k, mkL h e p) :: mkLs r
theorem mkLs_ok : ∀ {l : List (Nat × StD × Nat × StD)}, loopsWf l = true → ∀ n D, (n, D) ∈ mkLs l → D.OK
  | [], _, n, D, h => by simp [mkLs] at h
  | (k, hd, e, p) :: r, hw, n, D, h => by
    simp only [loopsWf, Bool.and_eq_true] at hw
    simp only [mkLs] at h
    rcases List.mem_cons.1 h with h | h
    · simp only [Prod.mk.injEq] at h
      obtain ⟨rfl, rfl⟩ := h
      exact mkL_ok (by simp only [Bool.and_eq_true]; exact hw.1)
    · exact mkLs_ok hw.2 n D h

def OKs (P : Program) [Tabs P] : List Ent → Prop
  | [] => True
  | e :: r => e.OK P ∧ OKs P r
theorem OKs.mem {P : Program} [Tabs P] : ∀ {l : List Ent}, OKs P l → ∀ e ∈ l, e.OK P
  | [], _, e, h => by simp at h
  | a :: r, ho, e, h => by
    rcases List.mem_cons.1 h with rfl | h
    · exact ho.1
    · exact OKs.mem ho.2 e h

end Go.Tr
