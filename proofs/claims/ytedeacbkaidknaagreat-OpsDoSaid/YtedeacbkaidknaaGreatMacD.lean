/- The functions that these laws reach, as Lean functions: printed by a program of this session's. Conditions: none. -/
import Derived.Test.YtedeacbkaidknaaGreatBD
import Derived.Test.YtedeacbkaidknaaGreatBE
namespace Go.Tr
open Go
set_option linter.unusedVariables false
set_option maxRecDepth 100000
noncomputable def mac_None (m : Int × Int × Int × Int × Int × Int) : Option (Bool × Unit) :=
  ltO (m.fst == (0 : Int) && (m.snd.fst == (0 : Int) && (m.snd.snd.fst == (0 : Int) && (m.snd.snd.snd.fst == (0 : Int) && (m.snd.snd.snd.snd.fst == (0 : Int) && m.snd.snd.snd.snd.snd == (0 : Int)))))) fun (v0 : Bool) =>
  some (v0, ())
end Go.Tr
