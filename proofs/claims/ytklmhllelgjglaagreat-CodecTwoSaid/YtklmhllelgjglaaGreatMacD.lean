/- The functions that these laws reach, as Lean functions: printed by a program of this session's. Conditions: none. -/
import Derived.Test.YtklmhllelgjglaaGreatBD
import Derived.Test.YtklmhllelgjglaaGreatBE
namespace Go.Tr
open Go
set_option linter.unusedVariables false
set_option maxRecDepth 100000
noncomputable def mac_Group (m : Int × Int × Int × Int × Int × Int) : Option (Bool × Unit) :=
  chk ((0 : Int) ≤ (0 : Int) ∧ (0 : Int) < (6 : Int)) <|
  ltO (IntKind.u8.wrap (bandI IntKind.u8 m.fst (1 : Int))) fun (v0 : Int) =>
  ltO (v0 == (1 : Int)) fun (v1 : Bool) =>
  some (v1, ())
noncomputable def mac_None (m : Int × Int × Int × Int × Int × Int) : Option (Bool × Unit) :=
  ltO (m.fst == (0 : Int) && (m.snd.fst == (0 : Int) && (m.snd.snd.fst == (0 : Int) && (m.snd.snd.snd.fst == (0 : Int) && (m.snd.snd.snd.snd.fst == (0 : Int) && m.snd.snd.snd.snd.snd == (0 : Int)))))) fun (v0 : Bool) =>
  some (v0, ())
end Go.Tr
