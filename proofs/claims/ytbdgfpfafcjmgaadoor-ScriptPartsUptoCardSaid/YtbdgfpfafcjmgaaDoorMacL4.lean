/- The law of what stations are, of the printed function. Conditions: none but the numbers' bounds. -/
import Derived.Test.YtbdgfpfafcjmgaaDoorMacL3
namespace Go.Tr
open Go
set_option linter.unusedVariables false
set_option linter.unusedSimpArgs false
set_option maxRecDepth 100000
set_option maxHeartbeats 4000000

theorem kinds_loop (m : M6) (m0 m1 m2 m3 m4 m5 : Int) : terrierlaw02_MacKinds_l0 (true, m, 0, m0, m1, m2, m3, m4, m5, ()) = some (.inl (m == (0, 0, 0, 0, 0, 0), m0, m1, m2, m3, m4, m5, ())) := by
  have L := loopM_steps (f := fun s : Bool × (Int × Int × Int × Int × Int × Int) × Int × Int × Int × Int × Int × Int × Int × Unit => terrierlaw02_MacKinds_b0 s.1 s.2.1 s.2.2.1 s.2.2.2.1 s.2.2.2.2.1 s.2.2.2.2.2.1 s.2.2.2.2.2.2.1 s.2.2.2.2.2.2.2.1 s.2.2.2.2.2.2.2.2.1)
    (fun i => (((l6 m).take i).all (· == 0), m, (i : Int), m0, m1, m2, m3, m4, m5, ())) (a := 0) (n := 6) (by omega)
    (fun i h1 h2 => by
      show terrierlaw02_MacKinds_b0 (((l6 m).take i).all (· == 0)) m (i : Int) m0 m1 m2 m3 m4 m5 = _
      unfold terrierlaw02_MacKinds_b0
      have w : IntKind.i64.wrap ((i : Int) + 1) = (i : Int) + 1 := by rw [i64_wrap]; omega
      simp only [ltO_def, chk_same]
      rw [decide_eq_true (by omega : (i : Int) < 6), cnd_true, chk_pos (by omega), w]
      match i, h2 with
      | 0, _ => simp [l6]
      | 1, _ => simp [l6]
      | 2, _ => simp [l6, Bool.and_assoc]
      | 3, _ => simp [l6, Bool.and_assoc]
      | 4, _ => simp [l6, Bool.and_assoc]
      | 5, _ => simp [l6, Bool.and_assoc])
  have L' : terrierlaw02_MacKinds_l0 (true, m, 0, m0, m1, m2, m3, m4, m5, ()) = _ := L
  rw [L', loopM_last (y := .inl (((l6 m).take 6).all (· == 0), m0, m1, m2, m3, m4, m5, ()))]
  · have : ((l6 m).take 6).all (· == 0) = (m == (0, 0, 0, 0, 0, 0)) := by
      obtain ⟨a, b, c, d, e, f⟩ := m
      rw [Bool.eq_iff_iff]
      simp [l6]
    rw [this]
  · show terrierlaw02_MacKinds_b0 _ m ((6 : Nat) : Int) m0 m1 m2 m3 m4 m5 = _
    unfold terrierlaw02_MacKinds_b0
    rw [decide_eq_false (by decide)]
    rfl

theorem macKinds_law {m : M6} (hm : M6ok m) : terrierlaw02_MacKinds m = some (true, ()) := by
  unfold terrierlaw02_MacKinds
  have L : terrierlaw02_MacKinds_l0 (true, (m.fst, m.snd.fst, m.snd.snd.fst, m.snd.snd.snd.fst, m.snd.snd.snd.snd.fst, m.snd.snd.snd.snd.snd), 0, m.fst, m.snd.fst, m.snd.snd.fst, m.snd.snd.snd.fst, m.snd.snd.snd.snd.fst, m.snd.snd.snd.snd.snd, ()) = _ := kinds_loop m m.fst m.snd.fst m.snd.snd.fst m.snd.snd.snd.fst m.snd.snd.snd.snd.fst m.snd.snd.snd.snd.snd
  simp only [awake_eq, bnd_val, Bool.not_true, cnd_false]
  rw [L]
  simp only [bnd_val, sumO_inl]
  have e : (m.fst, m.snd.fst, m.snd.snd.fst, m.snd.snd.snd.fst, m.snd.snd.snd.snd.fst, m.snd.snd.snd.snd.snd) = m := rfl
  have h0 := hm.h0
  have e1 : m.fst.tmod 2 = m.fst % 2 := Int.tmod_eq_emod_of_nonneg h0.1
  rw [e, none_eq]
  simp only [bnd_val, group_eq m hm, ltO_def, bndG_val, chk_same, e1, beq_self_eq_true, Bool.and_self]
  rw [chk_pos (by omega), chk_pos (by omega)]
end Go.Tr
