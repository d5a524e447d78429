/- States behind acts: their bytes, and what is read of bytes. Conditions: none but the rows' bounds. -/
import Derived.Test.YtklmhllelgjglaaGreatCodecN2
import Derived.Test.YtklmhllelgjglaaGreatCodecR
import Derived.Test.YtklmhllelgjglaaGreatCodecRd
import Derived.Test.YtklmhllelgjglaaGreatOpsWs
import Derived.Test.YtklmhllelgjglaaGreatSameL
import Derived.Test.YtklmhllelgjglaaGreatCodec3D
namespace Go.Tr
open Go
set_option linter.unusedVariables false
set_option linter.unusedSimpArgs false
set_option maxRecDepth 100000
set_option maxHeartbeats 4000000
theorem codecState_law {x : TCfg} (hx : C9 x) {acts : List TMac} (ha : ∀ a ∈ acts, A6 a) : terrierlaw19_CodecState x acts = some (true, ()) := by
  unfold terrierlaw19_CodecState
  rw [awakeC_eq]
  simp only [bnd_val, Bool.not_true, cnd_false]
  obtain ⟨c, h1, hc⟩ := config_R hx
  obtain ⟨s, s1, hs, hw⟩ := some_W hc ha
  rw [h1]
  simp only [bnd_val]
  rw [s1]
  have ok := hs.ok hw
  have hl := hs.blen
  simp only [bnd_val]
  rw [State_eq ok]
  simp only [bnd_val]
  rw [ReadState_eq (stB_by8 ok), lState1_eq ok, hs.back hw]
  simp only [bnd_val, ltO_def, chk_same]
  rw [same_st hs, cright_eq ok.wf, hs.rightS]
  have hd : decide (((stB s).length : Int) ≤ 16384) = true := decide_eq_true (by omega)
  simp only [bndG_val, beq_self_eq_true, Bool.and_self, hd]
end Go.Tr
