/- This program's package variables: none is asked for. Conditions: none. -/
import Derived.Test.YtploofmfghjijaaGreatBE
import Derived.Test.YtploofmfghjijaaGreatProg
namespace Go.Tr
open Go
instance:Tabs Go.Proofs.Tryz.prog:=⟨fun _ _=>True,fun _ _ _ _ _ _=>trivial⟩
end Go.Tr
