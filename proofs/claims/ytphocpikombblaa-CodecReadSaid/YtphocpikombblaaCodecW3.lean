/- Bounds of this law's arguments. Conditions: none. -/
import Derived.Test.YtphocpikombblaaCodecRd
import Derived.Test.YtphocpikombblaaOpsKc
import Derived.Test.YtphocpikombblaaScriptW
