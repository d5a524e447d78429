/- What guards say of the arguments. Conditions: none. -/
import Derived.Test.YtploofmfghjijaaGreatDaeFa
import Derived.Test.YtploofmfghjijaaGreatOpsKc
import Derived.Test.YtploofmfghjijaaGreatDaeWo
