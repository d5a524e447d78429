/- Bounds of the statement on lines of bytes. Conditions: none. -/
import Derived.Test.YtfaaeeabiikhbaaDoorScriptW
import Derived.Test.YtfaaeeabiikhbaaDoorScriptM
