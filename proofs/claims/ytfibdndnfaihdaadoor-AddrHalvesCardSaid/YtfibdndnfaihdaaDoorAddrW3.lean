/- Bounds of a law's arguments, as the laws of addresses want them. Conditions: none. -/
import Derived.Test.YtfibdndnfaihdaaDoorAddrW2
import Derived.Test.YtfibdndnfaihdaaDoorAddrL8
