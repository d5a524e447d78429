/- A prefix that is put to those that are swept. What is put, and what a tick does: rows stay right. Rows behind some acts. Rows are right as the document says. The document's examples; rows that are turned. Conditions: none but those that each theorem states. -/
import Derived.Test.YtphocpikombblaaSweepS
import Derived.Test.YtphocpikombblaaAddrT
namespace Go.Tr
open Go
set_option linter.unusedVariables false
set_option linter.unusedSimpArgs false
set_option maxRecDepth 100000
set_option maxHeartbeats 4000000
def ovl (x y : Int × Int) : Bool := wiB x y || wiB y x
def swR (s : TSweep) : Prop := in32 s.1.1 ∧ rB s.1 = true ∧ szB s.1 ≤ 256 ∧ (0 ≤ s.2.1 ∧ s.2.1 ≤ 1099511627776) ∧ (0 ≤ s.2.2 ∧ s.2.2 < szB s.1)
def apart (x y : TSweep) : Prop := x.1.1 < y.1.1 ∧ ovl x.1 y.1 = false
structure RowR (ss : List TSweep) : Prop where
  len : ss.length ≤ 16
  all : ∀ s ∈ ss, swR s
  ap : ss.Pairwise apart
end Go.Tr
namespace Go.Tr
open Go
set_option linter.unusedVariables false
set_option linter.unusedSimpArgs false
set_option maxRecDepth 100000
set_option maxHeartbeats 4000000
end Go.Tr
namespace Go.Tr
open Go
set_option linter.unusedVariables false
set_option linter.unusedSimpArgs false
set_option maxRecDepth 100000
set_option maxHeartbeats 4000000
end Go.Tr
namespace Go.Tr
open Go
set_option linter.unusedVariables false
set_option linter.unusedSimpArgs false
set_option maxRecDepth 100000
set_option maxHeartbeats 4000000
end Go.Tr
namespace Go.Tr
open Go
set_option linter.unusedVariables false
set_option linter.unusedSimpArgs false
set_option maxRecDepth 100000
set_option maxHeartbeats 4000000
theorem RowR.in32 {l : List TSweep} (h : RowR l) : ∀ s ∈ l, Go.Tr.in32 s.1.1 := fun s hs => (h.all s hs).1
end Go.Tr
