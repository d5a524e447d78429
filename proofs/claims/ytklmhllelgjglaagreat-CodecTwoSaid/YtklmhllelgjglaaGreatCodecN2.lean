/- A state's bytes, as the law's own text says them, the state held whole. Conditions: none but the numbers' bounds. -/
import Derived.Test.YtklmhllelgjglaaGreatCodecT
import Derived.Test.YtklmhllelgjglaaGreatCodec3D
namespace Go.Tr
open Go
set_option linter.unusedVariables false
set_option linter.unusedSimpArgs false
set_option maxRecDepth 100000
set_option maxHeartbeats 4000000
end Go.Tr
