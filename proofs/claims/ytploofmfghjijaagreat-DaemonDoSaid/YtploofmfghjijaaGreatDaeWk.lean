/- What guards say of the arguments. Conditions: none. -/
import Derived.Test.YtploofmfghjijaaGreatDaeDo
import Derived.Test.YtploofmfghjijaaGreatOpsKc
import Derived.Test.YtploofmfghjijaaGreatDaeWo
import Derived.Test.YtploofmfghjijaaGreatDaeKd

