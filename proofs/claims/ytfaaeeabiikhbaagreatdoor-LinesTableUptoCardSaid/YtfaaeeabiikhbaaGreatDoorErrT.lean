/- The numbers that this program's types of errors bear, and what reads errors. Conditions: none. -/
import Derived.Test.YtfaaeeabiikhbaaGreatDoorBH
namespace Go.Tr
open Go
def eTy : ETy := ⟨46, 56, [89, 147], [113]⟩
def eNum (n : Int) : TErr := .num 46 .i64 n
def eAt (n : Int) (e : TErr) : TErr := .at' 56 n e
def eCmd (s : List UInt8) (e : TErr) : TErr := .of' 89 s e
def eLin (s : List UInt8) (e : TErr) : TErr := .of' 147 s e
noncomputable def lines_Number (t : TErr) : Option (Int × Unit) := numberF eTy t
noncomputable def lines_Place (t : TErr) : Option (Int × Bool × Unit) := placeF eTy t
noncomputable def errors_Is (t u : TErr) : Option (Bool × Unit) := isF eTy t u
noncomputable def strconv_Atoi (s : List UInt8) : Option (Int × TErr × Unit) := atoiF 181 s
end Go.Tr
