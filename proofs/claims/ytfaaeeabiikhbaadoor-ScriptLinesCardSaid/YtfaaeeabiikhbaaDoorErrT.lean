/- The numbers that this program's types of errors bear, and what reads errors. Conditions: none. -/
import Derived.Test.YtfaaeeabiikhbaaDoorBH
namespace Go.Tr
open Go
def eTy : ETy := ⟨51, 68, [49], []⟩
def eNum (n : Int) : TErr := .num 51 .i64 n
def eAt (n : Int) (e : TErr) : TErr := .at' 68 n e
def eCmd (s : List UInt8) (e : TErr) : TErr := .of' 49 s e
end Go.Tr
