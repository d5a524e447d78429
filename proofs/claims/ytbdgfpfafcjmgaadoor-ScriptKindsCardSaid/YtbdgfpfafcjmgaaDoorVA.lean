/- What some functions of Go's library come to, of closed data, as optional values.
   Conditions: none; definitions. -/
import Derived.Test.YtbdgfpfafcjmgaaDoorUC
import Derived.Lib.ItoaNum
import Derived.Lib.Join
import Derived.Lib.IndexMore
import Derived.Lib.SplitLaws
namespace Go.Tr
open Go
set_option linter.unusedVariables false

noncomputable def strconv_Itoa (n : Int) : Option (List UInt8 × Unit) :=
  chk ((-9223372036854775808 : Int) ≤ n ∧ n ≤ 9223372036854775807) (some (Lib.itoa n, ()))
noncomputable def strings_Join (xs : List (List UInt8)) (sep : List UInt8) : Option (List UInt8 × Unit) :=
  chk (xs.length ≤ 140737488355328 ∧ (Lib.join xs sep).length ≤ 140737488355328) (some (Lib.join xs sep, ()))
noncomputable def strings_Split (s sep : List UInt8) : Option (List (List UInt8) × Unit) :=
  chk (s.length < 4294967281 ∧ 1 ≤ sep.length) (some (Lib.split s sep, ()))
noncomputable def strings_Cut (s sep : List UInt8) : Option (List UInt8 × List UInt8 × Bool × Unit) :=
  chk (s.length < 4294967281) (some ((Lib.cut s sep).1, (Lib.cut s sep).2.1, (Lib.cut s sep).2.2, ()))

def D_strconv_Itoa : FD := ⟨[(0, .leaf (.int .i64))], [], [(0, .leaf .str)], []⟩
def D_strings_Join : FD := ⟨[(0, .leaf (.sl .str)), (1, .leaf .str)], [], [(0, .leaf .str)], []⟩
def D_strings_Split : FD := ⟨[(0, .leaf .str), (1, .leaf .str)], [], [(0, .leaf (.sl .str))], []⟩
def D_strings_Cut : FD := ⟨[(0, .leaf .str), (1, .leaf .str)], [], [(0, .leaf .str), (1, .leaf .str), (2, .leaf .bool)], []⟩

end Go.Tr
