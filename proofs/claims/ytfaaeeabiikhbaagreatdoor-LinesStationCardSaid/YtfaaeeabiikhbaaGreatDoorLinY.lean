/- Bounds of the statement on tables' stations. Conditions: none. -/
import Derived.Test.YtfaaeeabiikhbaaGreatDoorLinW
import Derived.Test.YtfaaeeabiikhbaaGreatDoorLinKc
