/- The document's plan: whom it picks. The document's plan is the same fold. One round of the document's plan. The document's plan, as a whole. Whom a tick asks is what the document says: the law. Conditions: none but those that each theorem states. -/
import Derived.Test.YtklmhllelgjglaaGreatSweepT
namespace Go.Tr
open Go
set_option linter.unusedVariables false
set_option linter.unusedSimpArgs false
set_option maxRecDepth 100000
set_option maxHeartbeats 4000000
end Go.Tr
namespace Go.Tr
open Go
set_option linter.unusedVariables false
set_option linter.unusedSimpArgs false
set_option maxRecDepth 100000
set_option maxHeartbeats 4000000
end Go.Tr
namespace Go.Tr
open Go
set_option linter.unusedVariables false
set_option linter.unusedSimpArgs false
set_option maxRecDepth 100000
set_option maxHeartbeats 4000000
end Go.Tr
namespace Go.Tr
open Go
set_option linter.unusedVariables false
set_option linter.unusedSimpArgs false
set_option maxRecDepth 100000
set_option maxHeartbeats 4000000
end Go.Tr
namespace Go.Tr
open Go
set_option linter.unusedVariables false
set_option linter.unusedSimpArgs false
set_option maxRecDepth 100000
set_option maxHeartbeats 4000000
theorem fold_room {room every : Int} : ∀ (D : List Int) (p : List TSweep × List Int), (p.2.length : Int) ≤ max 0 room → ((D.foldl (stepS room every) p).2.length : Int) ≤ max 0 room
  | [], p, h => h
  | k :: D, p, h => by
    refine fold_room D (stepS room every p k) ?_
    unfold stepS askL askN
    simp only [List.length_append, List.length_map, List.length_range]
    omega
end Go.Tr
