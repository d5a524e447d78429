/- What is read of bytes as an event has these bytes. Conditions: none but the rows' bounds. -/
import Derived.Test.YtklmhllelgjglaaGreatCodecR
import Derived.Test.YtklmhllelgjglaaGreatCodecS
import Derived.Test.YtklmhllelgjglaaGreatOpsKc
import Derived.Test.YtklmhllelgjglaaGreatCodec4D
namespace Go.Tr
open Go
set_option linter.unusedVariables false
set_option linter.unusedSimpArgs false
set_option maxRecDepth 100000
set_option maxHeartbeats 4000000
theorem EvA.wf {e : TEv} (h : EvA e) : EvWf e := ⟨by have := h.addr; unfold in32; omega, by have := h.ow; omega, h.hm, h.block, h.sm, by have := h.wh; omega⟩
end Go.Tr
