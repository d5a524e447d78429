/- The functions of these laws: see the texts that this one imports. Conditions: none. -/
import Derived.Test.YtfaaeeabiikhbaaGreatDoorCmdD
