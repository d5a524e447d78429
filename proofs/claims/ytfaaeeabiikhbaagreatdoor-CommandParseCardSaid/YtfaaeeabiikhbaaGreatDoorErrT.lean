/- The numbers that this program's types of errors bear, and what reads errors. Conditions: none. -/
import Derived.Test.YtfaaeeabiikhbaaGreatDoorBH
namespace Go.Tr
open Go
def eTy : ETy := ⟨46, 56, [89, 147], [113]⟩
def eNum (n : Int) : TErr := .num 46 .i64 n
def eAt (n : Int) (e : TErr) : TErr := .at' 56 n e
def eCmd (s : List UInt8) (e : TErr) : TErr := .of' 89 s e
noncomputable def command_Where (t : TErr) : Option (Int × Int × Bool × Unit) := whereF eTy t
end Go.Tr
