/- Events as bytes: what the printed functions of layer 19 come to; numbers as bytes, readers. Events as bytes: what an event's bytes are, what is read of bytes. Events as bytes: an event's bytes, and what is read of them; the law of events. The law of events' bytes. The law of events' bytes. Conditions: none but those that each theorem states. -/
import Derived.Test.YtfaaeeabiikhbaaGreatDoorScriptS
import Derived.Test.YtfaaeeabiikhbaaGreatDoorCodec1D
namespace Go.Tr
open Go
set_option linter.unusedVariables false
set_option linter.unusedSimpArgs false
set_option maxRecDepth 100000
set_option maxHeartbeats 4000000
def be (n : Int) : Nat → List Int
  | 0 => []
  | k + 1 => n / 2 ^ (8 * k) % 256 :: be n k
end Go.Tr
namespace Go.Tr
open Go
set_option linter.unusedVariables false
set_option linter.unusedSimpArgs false
set_option maxRecDepth 100000
set_option maxHeartbeats 4000000
def okC (c : UInt8) : Bool := (decide (97 ≤ c.toNat) && decide (c.toNat ≤ 122)) || (decide (48 ≤ c.toNat) && decide (c.toNat ≤ 57))
def mayS (o : List UInt8) : Bool := o.all okC && (o != [] && decide (o.length ≤ 8))
theorem group_eq' {m : TMac} (hm : by8 m.1) : mac_Group m = some (m.1 % 2 == 1, ()) := by
  unfold mac_Group bandI
  rw [chk_pos (by decide), and1 _ hm.1]; rfl
end Go.Tr
namespace Go.Tr
open Go
set_option linter.unusedVariables false
set_option linter.unusedSimpArgs false
set_option maxRecDepth 100000
set_option maxHeartbeats 4000000
end Go.Tr
namespace Go.Tr
open Go
set_option linter.unusedVariables false
set_option linter.unusedSimpArgs false
set_option maxRecDepth 100000
set_option maxHeartbeats 4000000
end Go.Tr
namespace Go.Tr
open Go
set_option linter.unusedVariables false
set_option linter.unusedSimpArgs false
set_option maxRecDepth 100000
set_option maxHeartbeats 4000000
end Go.Tr
