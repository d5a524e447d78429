/- Events as bytes: what the printed functions of layer 19 come to; numbers as bytes, readers. Events as bytes: what an event's bytes are, what is read of bytes. Events as bytes: an event's bytes, and what is read of them; the law of events. The law of events' bytes. The law of events' bytes. Conditions: none but those that each theorem states. -/
import Derived.Test.YtdbpknejbpiebaaScriptS
import Derived.Test.YtdbpknejbpiebaaCodec1D
namespace Go.Tr
open Go
set_option linter.unusedVariables false
set_option linter.unusedSimpArgs false
set_option maxRecDepth 100000
set_option maxHeartbeats 4000000
def be (n : Int) : Nat → List Int
  | 0 => []
  | k + 1 => n / 2 ^ (8 * k) % 256 :: be n k
end Go.Tr
namespace Go.Tr
open Go
set_option linter.unusedVariables false
set_option linter.unusedSimpArgs false
set_option maxRecDepth 100000
set_option maxHeartbeats 4000000
end Go.Tr
namespace Go.Tr
open Go
set_option linter.unusedVariables false
set_option linter.unusedSimpArgs false
set_option maxRecDepth 100000
set_option maxHeartbeats 4000000
end Go.Tr
namespace Go.Tr
open Go
set_option linter.unusedVariables false
set_option linter.unusedSimpArgs false
set_option maxRecDepth 100000
set_option maxHeartbeats 4000000
end Go.Tr
namespace Go.Tr
open Go
set_option linter.unusedVariables false
set_option linter.unusedSimpArgs false
set_option maxRecDepth 100000
set_option maxHeartbeats 4000000
theorem clamp_eq {n : Int} : clock_Clamp n = some (if n < 0 then 0 else if n > 1099511627776 then 1099511627776 else n, ()) := by
  unfold clock_Clamp
  congr 2
  split <;> (try split) <;> (try split) <;> omega
end Go.Tr
