/- This program's package variables: none is asked for. Conditions: none. -/
import Derived.Test.YtphocpikombblaaBE
import Derived.Test.YtphocpikombblaaProg
namespace Go.Tr
open Go
instance : Tabs Go.Proofs.Try.prog := ⟨fun _ _ => True, fun _ _ _ _ _ _ => trivial⟩
end Go.Tr
