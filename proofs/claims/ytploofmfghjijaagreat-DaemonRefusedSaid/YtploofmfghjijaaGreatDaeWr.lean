/- What guards say of the arguments. Conditions: none. -/
import Derived.Test.YtploofmfghjijaaGreatDaeRf
import Derived.Test.YtploofmfghjijaaGreatOpsKc
import Derived.Test.YtploofmfghjijaaGreatDaeWo
