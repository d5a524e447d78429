/- This program's package variables: none is asked for. Conditions: none. -/
import Derived.Test.YtdbpknejbpiebaaBE
import Derived.Test.YtdbpknejbpiebaaProg
namespace Go.Tr
open Go
instance : Tabs Go.Proofs.Try.prog := ⟨fun _ _ => True, fun _ _ _ _ _ _ => trivial⟩
end Go.Tr
