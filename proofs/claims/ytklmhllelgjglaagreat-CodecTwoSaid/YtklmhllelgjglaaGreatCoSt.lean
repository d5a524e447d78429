/- States behind acts: their bytes, and what is read of bytes. Conditions: none but the rows' bounds. -/
import Derived.Test.YtklmhllelgjglaaGreatCodecN2
import Derived.Test.YtklmhllelgjglaaGreatCodecR
import Derived.Test.YtklmhllelgjglaaGreatCodecRd
import Derived.Test.YtklmhllelgjglaaGreatOpsWs
import Derived.Test.YtklmhllelgjglaaGreatSameL
import Derived.Test.YtklmhllelgjglaaGreatCodec3D
namespace Go.Tr
open Go
set_option linter.unusedVariables false
set_option linter.unusedSimpArgs false
set_option maxRecDepth 100000
set_option maxHeartbeats 4000000
theorem toBytes_inj {l m : List Int} (hl : by8s l) (hm : by8s m) (h : toBytes l = toBytes m) : l = m := by
  rw [← ofBytes_to hl, ← ofBytes_to hm, h]
theorem codecTwo_law {x : TCfg} (hx : C9 x) {a b : List TMac} (ha : ∀ y ∈ a, A6 y) (hb : ∀ y ∈ b, A6 y) : terrierlaw19_CodecTwo x a b = some (true, ()) := by
  unfold terrierlaw19_CodecTwo
  rw [awakeC_eq]
  simp only [bnd_val, Bool.not_true, cnd_false]
  obtain ⟨c, h1, hc⟩ := config_R hx
  obtain ⟨s, s1, hs, hw⟩ := some_W hc ha
  obtain ⟨t, t1, ht, hv⟩ := some_W hc hb
  rw [h1]
  simp only [bnd_val]
  rw [s1, t1]
  have ok := hs.ok hw
  have ok2 := ht.ok hv
  simp only [bnd_val]
  rw [State_eq ok, State_eq ok2]
  simp only [bnd_val, ltO_def]
  obtain ⟨v, v1, v2⟩ := Same_eq hs.small t
  rw [v1]
  simp only [bnd_val]
  have e : (toBytes (stB s) == toBytes (stB t)) = v := by
    rw [Bool.eq_iff_iff, beq_iff_eq, v2]
    constructor
    · intro h
      have h3 := toBytes_inj (stB_by8 ok) (stB_by8 ok2) h
      have e1 := hs.back hw
      rw [h3, ht.back hv] at e1
      exact (Prod.ext_iff.1 e1).1.symm
    · rintro rfl; rfl
  rw [e]
  simp
end Go.Tr
