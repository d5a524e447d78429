/- Lines of leases; what is told of a line; any line is read as the statements say. Conditions: the text's length. -/
import Derived.Test.YtfaaeeabiikhbaaGreatDoorLinN
namespace Go.Tr
open Go
set_option linter.unusedVariables false
set_option linter.unusedSimpArgs false
set_option maxRecDepth 100000
set_option maxHeartbeats 4000000
noncomputable def leP (s : List UInt8) : TSight × Int :=
  if 200 < s.length then (zSight, 1) else
  let f := splitC 32 s
  if f.length ≠ 4 then (zSight, 1) else if f.getD 0 [] ≠ wLE then (zSight, 1)
  else match nuP (f.getD 3 []) with
    | none => (zSight, 1)
    | some n => if n < 0 ∨ n > 1099511627776 then (zSight, 3)
      else if (staP (f.getD 1 []) (f.getD 2 [])).2 = 0 then (((staP (f.getD 1 []) (f.getD 2 [])).1.1, (staP (f.getD 1 []) (f.getD 2 [])).1.2.1, n), 0) else (zSight, (staP (f.getD 1 []) (f.getD 2 [])).2)
theorem Lease_ok {s : List UInt8} (hs : s.length < 4294967281) : Ok (lines_Lease s) (fun y => LSaid y (leP s)) := by
  unfold lines_Lease strings_Split leP
  rw [chk_pos ⟨hs, by simp⟩, bnd_val, split_splitC]
  simp only [ltO_def, chk_same, chk_nn, wrap_err, bnd_val]
  by_cases h2 : 200 < s.length
  · rw [show (decide (((s.length : Nat) : Int) > 200) || (((splitC 32 s).length : Int) != 4)) = true from by simp; omega]
    simp only [Bool.true_or, cnd_true, Bool.not_true, if_pos h2]
    rw [chk_pos (by simp)]
    exact Ok.some (by refine lsaid_no ?_; omega)
  have hl : ∀ i, ((splitC 32 s).getD i []).length ≤ 200 := getD_len fun w hw => Nat.le_trans (split_len 32 s w hw) (by omega)
  rw [if_neg h2, decide_eq_false (by omega : ¬ ((s.length : Nat) : Int) > 200)]
  generalize splitC 32 s = f at hl
  by_cases h4 : f.length = 4
  · have e4 : (((f.length : Nat) : Int) != 4) = false := by rw [h4]; rfl
    rw [e4]
    simp only [Bool.false_or, Bool.not_false, h4, ne_eq, not_true, if_false]
    rw [chk_pos (by intro _; omega)]
    by_cases h1 : f.getD 0 [] = wLE
    · rw [show (f.getD 0 [] == ([108, 101, 97, 115, 101] : List UInt8)) = true from is_beq h1, Bool.not_true, cnd_false, chk_pos (by omega), if_neg (fun h => h h1)]
      have l1 := hl 1
      have l2 := hl 2
      have l3 := hl 3
      obtain ⟨v, e, h5, h6, h7, h8⟩ := atoi_eq (t := f.getD 3 []) (by omega)
      have hI : strconv_Itoa v = some (Lib.itoa v, ()) := by unfold strconv_Itoa; exact chk_pos h6 _
      rw [h5, bnd_val]
      dsimp only
      rw [hI, bndG_val, chk_pos (by intro _; omega)]
      obtain ⟨q, hq, hql⟩ := quote_len (s := f.getD 3 []) (by omega)
      have bad : (errN e = false ∨ Lib.itoa v ≠ f.getD 3 []) → Ok (chk ((0 : Int) ≤ 3 ∧ (3 : Int) < ((4 : Nat) : Int)) (bnd (strconv_Quote (f.getD 3 [])) fun y15 => chk (((5 + y15.fst.length : Nat) : Int) ≤ 9223372036854775807) (some (zSight, eLin ([116, 105, 99, 107, 32] ++ y15.fst) (eNum 1), ())))) (fun y => LSaid y (match nuP (f.getD 3 []) with
    | none => (zSight, 1)
    | some n => if n < 0 ∨ n > 1099511627776 then (zSight, 3)
      else if (staP (f.getD 1 []) (f.getD 2 [])).2 = 0 then (((staP (f.getD 1 []) (f.getD 2 [])).1.1, (staP (f.getD 1 []) (f.getD 2 [])).1.2.1, n), 0) else (zSight, (staP (f.getD 1 []) (f.getD 2 [])).2))) := by
        intro hb
        rw [h8 hb, chk_pos (by omega), hq, bnd_val, chk_pos (by dsimp only; omega)]
        exact Ok.some (by refine lsaid_no ?_; omega)
      cases he : errN e with
      | false => rw [Bool.not_false, Bool.true_or, cnd_true]; exact bad (.inl he)
      | true =>
        rw [Bool.not_true, Bool.false_or]
        by_cases hi : Lib.itoa v = f.getD 3 []
        · rw [show (Lib.itoa v == f.getD 3 []) = true from is_beq hi, Bool.not_true, cnd_false, h7 he hi]
          dsimp only
          by_cases hr : v < 0 ∨ v > 1099511627776
          · rw [show (decide (v < 0) || decide (v > 1099511627776)) = true from by simp; omega, cnd_true, if_pos hr, chk_pos (by omega), chk_pos (by omega)]
            exact Ok.some (by refine lsaid_no ?_; omega)
          · rw [show (decide (v < 0) || decide (v > 1099511627776)) = false from by simp; omega, cnd_false, if_neg hr, chk_pos (by omega), chk_pos (by omega)]
            refine Ok.bnd (station_ok (by omega) (by omega)) ?_
            rintro ⟨y1, y2, ⟨⟩⟩ ⟨a1, a2⟩
            dsimp only at a1 a2 ⊢
            rcases a2 with ⟨a2, a3⟩ | ⟨a2, a3, q2, a4⟩
            · rw [a3, if_pos a2, a1]
              exact Ok.some lsaid_ok
            · rw [a4, if_neg (by omega)]
              exact Ok.some (by refine lsaid_no ?_; omega)
        · rw [show (Lib.itoa v == f.getD 3 []) = false from not_beq hi, Bool.not_false, cnd_true]
          exact bad (.inr hi)
    · rw [show (f.getD 0 [] == ([108, 101, 97, 115, 101] : List UInt8)) = false from not_beq h1, Bool.not_false, cnd_true, if_pos h1]
      exact Ok.some (by refine lsaid_no ?_; omega)
  · have e4 : (((f.length : Nat) : Int) != 4) = true := by simp; omega
    rw [e4, if_pos h4]
    simp only [Bool.or_true, Bool.true_or, cnd_true, Bool.not_true]
    rw [chk_pos (by simp)]
    exact Ok.some (by refine lsaid_no ?_; omega)
theorem told_nil : terrierlaw08_told .nil 0 = some (true, ()) := by
  unfold terrierlaw08_told
  rw [number_ok ok_nil]
  simp only [ltO_def, BEq.rfl, cnd_true, errN_nil, chk_same, bndG_val, no_nil, Bool.and_true]
theorem told_lin {q : List UInt8} {n : Int} (hn : n = 1 ∨ n = 3 ∨ n = 8) : terrierlaw08_told (eLin q (eNum n)) n = some (true, ()) := by
  have ok : ErrOk eTy (eLin q (eNum n)) := ok_lin num_ne (ok_num ⟨by omega, by omega⟩)
  unfold terrierlaw08_told
  rw [is_ok ok, number_ok ok]
  have h0 : (n == 0) = false := by rcases hn with rfl | rfl | rfl <;> rfl
  simp only [ltO_def, h0, cnd_false, bnd_val, is_lin, is_num, no_lin, no_num, BEq.rfl, chk_same, bndG_val, Bool.and_true]
theorem LSaid.told {y : TSight × TErr × Unit} {r : TSight × Int} (h : LSaid y r) : terrierlaw08_told y.2.1 r.2 = some (true, ()) := by
  rcases h.2 with ⟨a, b⟩ | ⟨a, _, q, b⟩
  · rw [a, b]; exact told_nil
  · rw [b]; exact told_lin a
end Go.Tr
