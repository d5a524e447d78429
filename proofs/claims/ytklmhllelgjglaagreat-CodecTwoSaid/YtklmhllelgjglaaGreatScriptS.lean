/- Acts of bytes: what the printed functions of layer 22 come to. Acts of bytes: one act, all of them. The laws of acts of bytes. Conditions: none but those that each theorem states. -/
import Derived.Test.YtklmhllelgjglaaGreatMacS
import Derived.Test.YtklmhllelgjglaaGreatAddrS
import Derived.Test.YtklmhllelgjglaaGreatScriptD
namespace Go.Tr
open Go
set_option linter.unusedVariables false
set_option linter.unusedSimpArgs false
set_option maxRecDepth 100000
set_option maxHeartbeats 4000000
end Go.Tr
namespace Go.Tr
open Go
set_option linter.unusedVariables false
set_option linter.unusedSimpArgs false
set_option maxRecDepth 100000
set_option maxHeartbeats 4000000
theorem M6z : M6ok zMac := ⟨⟨by decide, by decide⟩, ⟨by decide, by decide⟩, ⟨by decide, by decide⟩, ⟨by decide, by decide⟩, ⟨by decide, by decide⟩, ⟨by decide, by decide⟩⟩
theorem by8_0 : by8 0 := ⟨by decide, by decide⟩
theorem zero_in : in32 0 := ⟨by decide, by decide⟩
def by8s (b : List Int) : Prop := ∀ c ∈ b, by8 c
end Go.Tr
namespace Go.Tr
open Go
set_option linter.unusedVariables false
set_option linter.unusedSimpArgs false
set_option maxRecDepth 100000
set_option maxHeartbeats 4000000
theorem by8s_drop {b : List Int} (h : by8s b) (k : Nat) : by8s (b.drop k) := fun c hc => h c (List.mem_of_mem_drop hc)
theorem by8s_take {b : List Int} (h : by8s b) (k : Nat) : by8s (b.take k) := fun c hc => h c (List.mem_of_mem_take hc)
end Go.Tr
