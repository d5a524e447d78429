/- Bounds of a law's arguments, as the laws of sweeps want them. Conditions: none. -/
import Derived.Test.YtdbpknejbpiebaaCodecW2
import Derived.Test.YtdbpknejbpiebaaScriptW
import Derived.Test.YtdbpknejbpiebaaSweepT
namespace Go.Tr
open Go
theorem raws_wf {M : Nat} (hM : M ≤ 140737488355328) {l : List TSweep} (h : wfS M (.sl shSweep) l) : (∀ s ∈ l, in32 s.1.1) ∧ l.length ≤ 140737488355328 := by
  refine ⟨fun x hx => u32_wf (sl_all h x hx).1.1, ?_⟩
  have := sl_len h (by decide)
  omega
end Go.Tr
