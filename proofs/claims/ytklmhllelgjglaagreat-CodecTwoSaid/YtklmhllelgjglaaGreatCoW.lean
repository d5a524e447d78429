/- Bounds of these laws' arguments. Conditions: none. -/
import Derived.Test.YtklmhllelgjglaaGreatCoSt
import Derived.Test.YtklmhllelgjglaaGreatOpsKc
import Derived.Test.YtklmhllelgjglaaGreatScriptW
import Derived.Test.YtklmhllelgjglaaGreatSweepW3
