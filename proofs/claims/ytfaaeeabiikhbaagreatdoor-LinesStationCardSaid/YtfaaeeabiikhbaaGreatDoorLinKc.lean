/- A station's line is read alike of both tables. A table's rows are those of its lines, up to the first that is wrong. The statement on tables holds of the printed functions. The statement on tables holds of the printed functions: joined. Conditions: none but those that each theorem states. -/
import Derived.Test.YtfaaeeabiikhbaaGreatDoorLinKb
namespace Go.Tr
open Go
set_option linter.unusedVariables false
set_option linter.unusedSimpArgs false
set_option maxRecDepth 100000
set_option maxHeartbeats 4000000
theorem ng_low {m : TMac} (hm : M6ok m) : ngM (lowT m) = (m == zMac || m.1 % 2 == 1) := by
  obtain ⟨a, b⟩ := low_rd hm
  have b' : (vlP (lowT m) 0, vlP (lowT m) 1, vlP (lowT m) 2, vlP (lowT m) 3, vlP (lowT m) 4, vlP (lowT m) 5) = m := b
  unfold ngM
  rw [b', show vlP (lowT m) 0 = m.1 from congrArg Prod.fst b']
theorem sta_low {a : Int} {m : TMac} (ha : in32 a) (hm : M6ok m) : staP (adT a) (lowT m) = if (m == zMac || m.1 % 2 == 1) = true then (zSight, 3) else ((a, m, 0), 0) := by
  unfold staP
  rw [rd_adT ha, (low_rd hm).1, ng_low hm, (low_rd hm).2]
  simp
theorem itoa_no32 {n : Int} (h0 : 0 ≤ n) (h1 : n < 4294967296) : (32 : UInt8) ∉ Lib.itoa n := by
  obtain ⟨u, rfl⟩ : ∃ u : Nat, n = u := ⟨n.toNat, by omega⟩
  rw [Lib.itoa_nonneg]
  intro h
  have := dec_digit (u := u) (by omega) 32 h
  exact absurd this.1 (by decide)
theorem nb_low {a : Int} {m : TMac} (ha : in32 a) (hm : M6ok m) : nbP (adT a ++ [32] ++ [108, 108, 97, 100, 100, 114, 32] ++ lowT m ++ [32, 68, 69, 76, 65, 89]) = if (m == zMac || m.1 % 2 == 1) = true then (zSight, 3) else ((a, m, 0), 0) := by
  have la := adT_len a
  have lm := lowT_len m
  have s1 : splitC 32 (adT a ++ [32] ++ [108, 108, 97, 100, 100, 114, 32] ++ lowT m ++ [32, 68, 69, 76, 65, 89]) = [adT a, wLL, lowT m, wDE] := by
    rw [List.append_assoc, List.append_assoc, List.append_assoc, show ([32] ++ ([108, 108, 97, 100, 100, 114, 32] ++ (lowT m ++ [32, 68, 69, 76, 65, 89])) : List UInt8) = 32 :: (wLL ++ 32 :: (lowT m ++ 32 :: wDE)) from rfl, splitC_app _ adT_no32, splitC_app _ (by decide), splitC_app _ (lowT_no32 hm), splitC_none (by decide)]
  unfold nbP
  rw [s1, if_neg (by simp only [List.length_append, List.length_cons, List.length_nil]; omega)]
  have e0 : ([adT a, wLL, lowT m, wDE] : List (List UInt8)).getD 0 [] = adT a := rfl
  have e1 : ([adT a, wLL, lowT m, wDE] : List (List UInt8)).getD 1 [] = wLL := rfl
  have e2 : ([adT a, wLL, lowT m, wDE] : List (List UInt8)).getD 2 [] = lowT m := rfl
  have e3 : ([adT a, wLL, lowT m, wDE] : List (List UInt8)).getD 3 [] = wDE := rfl
  dsimp only
  rw [e0, e1, e2, e3, if_neg (by simp), if_neg (by simp), if_neg (by decide), if_pos (by decide)]
  exact sta_low ha hm
theorem le_low {a n : Int} {m : TMac} (ha : in32 a) (hm : M6ok m) (h0 : 0 ≤ n) (h1 : n < 4294967296) :
    leP ([108, 101, 97, 115, 101, 32] ++ (adT a ++ [32]) ++ lowT m ++ [32] ++ Lib.itoa n) = if (m == zMac || m.1 % 2 == 1) = true then (zSight, 3) else ((a, m, n), 0) := by
  have la := adT_len a
  have lm := lowT_len m
  have li := Lib.itoa_length_le n (by omega) (by omega)
  have s1 : splitC 32 ([108, 101, 97, 115, 101, 32] ++ (adT a ++ [32]) ++ lowT m ++ [32] ++ Lib.itoa n) = [wLE, adT a, lowT m, Lib.itoa n] := by
    rw [List.append_assoc, List.append_assoc, List.append_assoc, List.append_assoc, show ([108, 101, 97, 115, 101, 32] ++ (adT a ++ ([32] ++ (lowT m ++ ([32] ++ Lib.itoa n)))) : List UInt8) = wLE ++ 32 :: (adT a ++ 32 :: (lowT m ++ 32 :: Lib.itoa n)) from rfl, splitC_app _ (by decide), splitC_app _ adT_no32, splitC_app _ (lowT_no32 hm), splitC_none (itoa_no32 h0 h1)]
  unfold leP
  rw [s1, if_neg (by simp only [List.length_append, List.length_cons, List.length_nil]; omega)]
  have e0 : ([wLE, adT a, lowT m, Lib.itoa n] : List (List UInt8)).getD 0 [] = wLE := rfl
  have e1 : ([wLE, adT a, lowT m, Lib.itoa n] : List (List UInt8)).getD 1 [] = adT a := rfl
  have e2 : ([wLE, adT a, lowT m, Lib.itoa n] : List (List UInt8)).getD 2 [] = lowT m := rfl
  have e3 : ([wLE, adT a, lowT m, Lib.itoa n] : List (List UInt8)).getD 3 [] = Lib.itoa n := rfl
  dsimp only
  rw [e0, e1, e2, e3, if_neg (by simp), if_neg (by simp), nuP_some ⟨by omega, by omega⟩]
  dsimp only
  rw [if_neg (by omega), sta_low ha hm]
  by_cases hb : (m == zMac || m.1 % 2 == 1) = true
  · rw [if_pos hb, if_pos hb]; rfl
  · rw [if_neg hb, if_neg hb, if_pos rfl]
theorem linesStation_law {a n : Int} {m : TMac} (ha : in32 a) (hm : M6ok m) (hn : in32 n) : terrierlaw08_LinesStation a m n = some (true, ()) := by
  have la := adT_len a
  have lm := lowT_len m
  have n0 := hn.1
  have n1 := hn.2
  have li := Lib.itoa_length_le n (by omega) (by omega)
  have h1 := nb_low ha hm
  have h2 := le_low (n := n) ha hm n0 (by omega)
  obtain ⟨⟨y1, y2, ⟨⟩⟩, hy, a1, a2⟩ := Neighbour_ok (s := adT a ++ [32] ++ [108, 108, 97, 100, 100, 114, 32] ++ lowT m ++ [32, 68, 69, 76, 65, 89]) (by simp only [List.length_append, List.length_cons, List.length_nil]; omega)
  obtain ⟨⟨z1, z2, ⟨⟩⟩, hz, b1, b2⟩ := Lease_ok (s := [108, 101, 97, 115, 101, 32] ++ (adT a ++ [32]) ++ lowT m ++ [32] ++ Lib.itoa n) (by simp only [List.length_append, List.length_cons, List.length_nil]; omega)
  rw [h1] at a1 a2
  rw [h2] at b1 b2
  unfold terrierlaw08_LinesStation
  rw [awake08, bnd_val, Bool.not_true, cnd_false, Text_eq ha, bnd_val, text_eq hm]
  simp only [ltO_def, bnd_val]
  rw [w64 (by omega) (by omega), digs_eq ⟨by omega, by omega⟩]
  simp only [bnd_val]
  iterate 4 (rw [chk_pos (by (try dsimp only); (try simp only [List.length_append, List.length_cons, List.length_nil]); omega)])
  rw [hy, bnd_val]
  iterate 4 (rw [chk_pos (by (try dsimp only); (try simp only [List.length_append, List.length_cons, List.length_nil]); omega)])
  rw [hz, bnd_val, none_eq, bnd_val, group_eq m hm]
  simp only [chk_same, chk_nn, bndG_val]
  clear hy hz h1 h2
  by_cases hb : (m == zMac || m.1 % 2 == 1) = true
  · rw [if_pos hb] at a1 a2 b1 b2
    rw [show (!m == (0, 0, 0, 0, 0, 0) && !m.1 % 2 == 1) = false from by
      have : (!(m == zMac || m.1 % 2 == 1)) = false := by rw [hb]; rfl
      rw [Bool.not_or] at this
      exact this]
    rw [Bool.not_false, cnd_true]
    have t1 := LSaid.told ⟨a1, a2⟩
    have t2 := LSaid.told ⟨b1, b2⟩
    dsimp only at t1 t2 a1 b1
    rw [t1, t2, bnd_val, a1, b1]
    simp only [bndG_val, BEq.rfl, Bool.and_self]
  · rw [if_neg hb] at a1 a2 b1 b2
    rw [show (!m == (0, 0, 0, 0, 0, 0) && !m.1 % 2 == 1) = true from by
      have : (!(m == zMac || m.1 % 2 == 1)) = true := by rw [Bool.eq_false_iff.2 hb]; rfl
      rw [Bool.not_or] at this
      exact this]
    rw [Bool.not_true, cnd_false]
    have q1 : y2 = .nil := by
      rcases a2 with ⟨_, h⟩ | ⟨h, _⟩
      · exact h
      · exfalso; have : (0 : Int) = 1 ∨ (0 : Int) = 3 ∨ (0 : Int) = 8 := h; omega
    have q2 : z2 = .nil := by
      rcases b2 with ⟨_, h⟩ | ⟨h, _⟩
      · exact h
      · exfalso; have : (0 : Int) = 1 ∨ (0 : Int) = 3 ∨ (0 : Int) = 8 := h; omega
    dsimp only at a1 b1
    subst a1 b1 q1 q2
    simp
end Go.Tr
namespace Go.Tr
open Go
set_option linter.unusedVariables false
set_option linter.unusedSimpArgs false
set_option maxRecDepth 100000
set_option maxHeartbeats 4000000
end Go.Tr
namespace Go.Tr
open Go
set_option linter.unusedVariables false
set_option linter.unusedSimpArgs false
set_option maxRecDepth 100000
set_option maxHeartbeats 4000000
end Go.Tr
namespace Go.Tr
open Go
set_option linter.unusedVariables false
set_option linter.unusedSimpArgs false
set_option maxRecDepth 100000
set_option maxHeartbeats 4000000
end Go.Tr
