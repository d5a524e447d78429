/- Who is not seen any more is proposed to be given back. Conditions: none but the numbers' bounds. -/
import Derived.Test.YtedeacbkaidknaaGreatOpsFe
namespace Go.Tr
open Go
set_option linter.unusedVariables false
set_option linter.unusedSimpArgs false
set_option maxRecDepth 100000
set_option maxHeartbeats 4000000
theorem raiseO_hold {c : TCfg} {s : TState} : (raiseO c s).2.2.1 = s.2.2.1 := fold_inv (P := fun (t : TState) _ => t.2.2.1 = s.2.2.1) _ (fun k hk t ht => by
  unfold raiseF
  split
  · split
    · exact ht
    · exact ht
  · exact ht) s rfl
theorem tick0_hold {c : TCfg} {s : TState} : (tick0 c s).2.2.1 = (execO c (nextO c s)).2.2.1 := raiseO_hold
end Go.Tr
