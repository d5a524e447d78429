/- A state's bytes: what the printed functions come to. A state's bytes, as the law's own text says them. What is read of bytes as a state. What is read of a state's own bytes; the law of any state's bytes. The law of any state's bytes. Conditions: none but those that each theorem states. -/
import Derived.Test.YtphocpikombblaaRightS
namespace Go.Tr
open Go
set_option linter.unusedVariables false
set_option linter.unusedSimpArgs false
set_option maxRecDepth 100000
set_option maxHeartbeats 4000000
def HoOk (h : THold) : Prop := in32 h.1 ∧ h.2.1.length ≤ 1000 ∧ M6ok h.2.2
def SwOk (s : TSweep) : Prop := in32 s.1.1
def SiOk (x : TSight) : Prop := M6ok x.2.1
def KnOk (x : TKnown) : Prop := in32 x.1 ∧ x.2.length ≤ 1000 ∧ ∀ y ∈ x.2, SiOk y
def PrOk (x : TProbe) : Prop := in32 x.1
def CaOk (c : TCase) : Prop := in32 c.1
structure StOk (s : TState) : Prop where
  h : ∀ x ∈ s.2.2.1, HoOk x
  hn : s.2.2.1.length ≤ 1000
  w : ∀ x ∈ s.2.2.2.1, SwOk x
  wn : s.2.2.2.1.length ≤ 1000
  k : ∀ x ∈ s.2.2.2.2.1, KnOk x
  kn : s.2.2.2.2.1.length ≤ 1000
  p : ∀ x ∈ s.2.2.2.2.2.1, PrOk x
  pn : s.2.2.2.2.2.1.length ≤ 1000
  c : ∀ x ∈ s.2.2.2.2.2.2, CaOk x
  cn : s.2.2.2.2.2.2.length ≤ 1000
end Go.Tr
namespace Go.Tr
open Go
set_option linter.unusedVariables false
set_option linter.unusedSimpArgs false
set_option maxRecDepth 100000
set_option maxHeartbeats 4000000
end Go.Tr
namespace Go.Tr
open Go
set_option linter.unusedVariables false
set_option linter.unusedSimpArgs false
set_option maxRecDepth 100000
set_option maxHeartbeats 4000000
attribute [local irreducible] takeS
theorem hold_by8 {r : Rd8} (hr : by8s r.1) : by8s (holdR r).2.1 := (takeS_by8 (takeS_by8 (takeS_by8 (takeS_by8 hr).2).2).2).2
theorem holdR_wf {r : Rd8} (hr : by8s r.1) : in32 (holdR r).1.1 ∧ (holdR r).1.2.1.length ≤ 140737488355328 ∧ M6ok (holdR r).1.2.2 := by
  have h1 := (takeS_by8 (n := 4) hr).2
  have h2 := (takeS_by8 (n := 1) h1).2
  refine ⟨(num4 hr).1, ?_, ?_⟩
  · show (toBytes (takeS (numS 1 (takeS 4 r).2).toNat _).1).length ≤ _
    have := (num1 h1).1
    have h9 := this.2
    rw [toBytes_len, takeS_len]; omega
  · have h3 := (takeS_by8 (n := 6) (takeS_by8 (n := (numS 1 (takeS 4 r).2).toNat) h2).2).1
    exact ⟨getD_by8 h3 0, getD_by8 h3 1, getD_by8 h3 2, getD_by8 h3 3, getD_by8 h3 4, getD_by8 h3 5⟩
end Go.Tr
namespace Go.Tr
open Go
set_option linter.unusedVariables false
set_option linter.unusedSimpArgs false
set_option maxRecDepth 100000
set_option maxHeartbeats 4000000
theorem StOk.wf {s : TState} (h : StOk s) : StWf s := by
  have le : ∀ n : Nat, n ≤ 1000 → n ≤ 140737488355328 := fun n h => by omega
  exact ⟨fun x hx => ⟨(h.h x hx).1, le _ (h.h x hx).2.1, (h.h x hx).2.2⟩, le _ h.hn, h.w, le _ h.wn, fun x hx => ⟨(h.k x hx).1, (h.k x hx).2.2⟩, le _ h.kn, h.p, le _ h.pn, h.c, le _ h.cn⟩
end Go.Tr
namespace Go.Tr
open Go
set_option linter.unusedVariables false
set_option linter.unusedSimpArgs false
set_option maxRecDepth 100000
set_option maxHeartbeats 4000000
section
variable {t : TState} (ht : StWf t)
include ht
end
end Go.Tr
