/- What is read of bytes as an event has these bytes. Conditions: none but the rows' bounds. -/
import Derived.Test.YtklmhllelgjglaaGreatCodecR
import Derived.Test.YtklmhllelgjglaaGreatCodecS
import Derived.Test.YtklmhllelgjglaaGreatOpsKc
import Derived.Test.YtklmhllelgjglaaGreatCodec4D
namespace Go.Tr
open Go
set_option linter.unusedVariables false
set_option linter.unusedSimpArgs false
set_option maxRecDepth 100000
set_option maxHeartbeats 4000000
theorem EvA.wf {e : TEv} (h : EvA e) : EvWf e := ⟨by have := h.addr; unfold in32; omega, by have := h.ow; omega, h.hm, h.block, h.sm, by have := h.wh; omega⟩
theorem by8s_set {l : List Int} (h : by8s l) (i : Nat) {c : Int} (hc : by8 c) : by8s (l.set i c) := fun x hx => by
  rcases List.mem_or_eq_of_mem_set hx with hx | rfl
  · exact h x hx
  · exact hc
theorem by8s_slice {l : List Int} (h : by8s l) (i j : Nat) : by8s (sliceA i j l) := fun x hx => h x (List.drop_subset _ _ (List.take_subset _ _ hx))
theorem wu8_by8 (n : Int) : by8 (IntKind.u8.wrap n) := by have := wu8_in n; exact ⟨this.1, by omega⟩
end Go.Tr
