/- The laws of stations, of the printed functions. The laws of stations, of the printed functions: the statements. The law of comparisons, of the printed functions. The law of what stations are, of the printed function. Conditions: none but those that each theorem states. -/
import Derived.Test.YtdbpknejbpiebaaBE
import Derived.Test.YtdbpknejbpiebaaMacD
namespace Go.Tr
open Go
set_option linter.unusedVariables false
set_option linter.unusedSimpArgs false
set_option maxRecDepth 100000
set_option maxHeartbeats 4000000
def hexd (up : Bool) (n : Int) : UInt8 :=
  if up then [(48 : UInt8), 49, 50, 51, 52, 53, 54, 55, 56, 57, 65, 66, 67, 68, 69, 70].getD n.toNat 0
  else [(48 : UInt8), 49, 50, 51, 52, 53, 54, 55, 56, 57, 97, 98, 99, 100, 101, 102].getD n.toNat 0
abbrev M6 := Int × Int × Int × Int × Int × Int
def by8 (a : Int) : Prop := 0 ≤ a ∧ a < 256
structure M6ok (m : M6) : Prop where
  h0 : by8 m.1
  h1 : by8 m.2.1
  h2 : by8 m.2.2.1
  h3 : by8 m.2.2.2.1
  h4 : by8 m.2.2.2.2.1
  h5 : by8 m.2.2.2.2.2
def tx (sep : UInt8) (u : Fin 6 → Bool) (m : M6) : List UInt8 :=
  [hexd (u 0) (m.1 / 16), hexd (u 0) (m.1 % 16), sep, hexd (u 1) (m.2.1 / 16), hexd (u 1) (m.2.1 % 16), sep, hexd (u 2) (m.2.2.1 / 16), hexd (u 2) (m.2.2.1 % 16), sep,
   hexd (u 3) (m.2.2.2.1 / 16), hexd (u 3) (m.2.2.2.1 % 16), sep, hexd (u 4) (m.2.2.2.2.1 / 16), hexd (u 4) (m.2.2.2.2.1 % 16), sep, hexd (u 5) (m.2.2.2.2.2 / 16), hexd (u 5) (m.2.2.2.2.2 % 16)]
end Go.Tr
namespace Go.Tr
open Go
set_option linter.unusedVariables false
set_option linter.unusedSimpArgs false
set_option maxRecDepth 100000
set_option maxHeartbeats 4000000
abbrev m6at (m : M6) (i : Nat) : Int := [m.1, m.2.1, m.2.2.1, m.2.2.2.1, m.2.2.2.2.1, m.2.2.2.2.2].getD i 0
theorem M6ok.at {m : M6} (hm : M6ok m) {i : Nat} (hi : i < 6) : by8 (m6at m i) := by
  match i, hi with
  | 0, _ => exact hm.h0
  | 1, _ => exact hm.h1
  | 2, _ => exact hm.h2
  | 3, _ => exact hm.h3
  | 4, _ => exact hm.h4
  | 5, _ => exact hm.h5
end Go.Tr
namespace Go.Tr
open Go
set_option linter.unusedVariables false
set_option linter.unusedSimpArgs false
set_option maxRecDepth 100000
set_option maxHeartbeats 4000000
def cm (x y w : Int) : Int := if x > y then 1 else if x < y then -1 else w
end Go.Tr
namespace Go.Tr
open Go
set_option linter.unusedVariables false
set_option linter.unusedSimpArgs false
set_option maxRecDepth 100000
set_option maxHeartbeats 4000000
end Go.Tr
