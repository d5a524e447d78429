/- Lines of neighbours and leases: the program's reading, and the statements' own. Lines of leases; what is told of a line; any line is read as the statements say. The statements of lines hold of the printed functions. Conditions: none but those that each theorem states. -/
import Derived.Test.YtfaaeeabiikhbaaGreatDoorLinKa
import Derived.Test.YtfaaeeabiikhbaaGreatDoorCmdKb
import Derived.Test.YtfaaeeabiikhbaaGreatDoorCmdKc
import Derived.KernelRfl
namespace Go.Tr
open Go
set_option linter.unusedVariables false
set_option linter.unusedSimpArgs false
set_option maxRecDepth 100000
set_option maxHeartbeats 4000000
theorem ok_lin {s : List UInt8} {e : TErr} (hn : e ≠ .nil) (he : ErrOk eTy e) : ErrOk eTy (eLin s e) := ⟨by simp [eTy], hn, he⟩
theorem lin_ne {s : List UInt8} {e : TErr} : eLin s e ≠ .nil := by simp [eLin]
@[simp] theorem no_lin (s : List UInt8) (e : TErr) : errNo eTy (eLin s e) = errNo eTy e := rfl
@[simp] theorem at_lin (s : List UInt8) (e : TErr) : errAt eTy (eLin s e) = errAt eTy e := rfl
@[simp] theorem errN_lin (s : List UInt8) (e : TErr) : errN (eLin s e) = false := rfl
theorem wrap_err {s : List UInt8} {n : Int} : lines_wrap s n = some (eLin s (eNum n), ()) := rfl
theorem is_ok {e : TErr} {n : Int} (h : ErrOk eTy e) : errors_Is e (eNum n) = some (errIs eTy e n, ()) := by
  unfold errors_Is isF eNum
  exact chk_pos ⟨h, rfl, rfl⟩ _
theorem number_ok {e : TErr} (h : ErrOk eTy e) : lines_Number e = some (errNo eTy e, ()) := by
  unfold lines_Number numberF
  exact chk_pos h _
theorem place_ok {e : TErr} (h : ErrOk eTy e) : lines_Place e = some (match errAt eTy e with
    | none => (0, false, ())
    | some n => (n, true, ())) := by
  unfold lines_Place placeF
  rw [chk_pos h]
  cases errAt eTy e <;> rfl
@[simp] theorem is_num (n m : Int) : errIs eTy (eNum n) m = (n == m) := by simp [errIs, eNum, eTy]
@[simp] theorem is_lin (s : List UInt8) (e : TErr) (m : Int) : errIs eTy (eLin s e) m = errIs eTy e m := rfl
@[simp] theorem is_at (n : Int) (e : TErr) (m : Int) : errIs eTy (eAt n e) m = errIs eTy e m := rfl
def LSaid (y : TSight × TErr × Unit) (r : TSight × Int) : Prop := y.1 = r.1 ∧ ((r.2 = 0 ∧ y.2.1 = .nil) ∨ ((r.2 = 1 ∨ r.2 = 3 ∨ r.2 = 8) ∧ r.1 = zSight ∧ ∃ q, y.2.1 = eLin q (eNum r.2)))
theorem lsaid_ok {r : TSight} : LSaid (r, .nil, ()) (r, 0) := ⟨rfl, .inl ⟨rfl, rfl⟩⟩
theorem lsaid_no {n : Int} {q : List UInt8} (hn : n = 1 ∨ n = 3 ∨ n = 8) : LSaid (zSight, eLin q (eNum n), ()) (zSight, n) := ⟨rfl, .inr ⟨hn, rfl, q, rfl⟩⟩
def ngM (s : List UInt8) : Bool := ((vlP s 0, vlP s 1, vlP s 2, vlP s 3, vlP s 4, vlP s 5) == ((0, 0, 0, 0, 0, 0) : M6)) || (vlP s 0 % 2 == 1)
def staP (a m : List UInt8) : TSight × Int :=
  match rdA a with
  | none => (zSight, 1)
  | some x => if okP m = false then (zSight, 1) else if ngM m = true then (zSight, 3) else ((x, macP m, 0), 0)
theorem strNums_len (z : List Int) : (strOfNums z).data.toList.length = z.length := by
  have : (strOfNums z).data.size = z.length := strOfNums_size z
  rw [Array.length_toList]; exact this
theorem quote_len {s : List UInt8} (hs : s.length ≤ 1000) : ∃ q, strconv_Quote s = some (q, ()) ∧ q.length ≤ 100000 := by
  unfold strconv_Quote
  rw [chk_pos (by omega)]
  refine ⟨_, rfl, ?_⟩
  have h1 := Lib.quoteZ_length_le Lib.goPrintTabs ⟨s.toArray⟩
  have h2 := strNums_len (Lib.quoteZ Lib.goPrintTabs ⟨s.toArray⟩)
  have h3 : (⟨s.toArray⟩ : ByteArray).size = s.length := by simp [ByteArray.size]
  omega
theorem station_ok {a m : List UInt8} (ha : a.length ≤ 1000) (hm : m.length ≤ 1000) : Ok (lines_station a m) (fun y => LSaid y (staP a m)) := by
  have hql : ∀ s : List UInt8, s.length ≤ 1000 → ∃ q, strconv_Quote s = some (q, ()) ∧ q.length ≤ 100000 := fun s hs => quote_len hs
  unfold lines_station staP
  rw [Parse_eq (by omega), bnd_val]
  cases hr : rdA a with
  | none =>
    obtain ⟨q, hq, hl⟩ := hql a ha
    rw [Bool.not_false, cnd_true, hq, bnd_val, chk_pos (by dsimp only; omega), ltO_def, wrap_err, bnd_val]
    exact Ok.some (by refine lsaid_no ?_; omega)
  | some x =>
    simp only [Bool.not_true, cnd_false]
    obtain ⟨q, hq, hl⟩ := hql m hm
    rw [parse_eq, bnd_val]
    cases hp : okP m with
    | false =>
      rw [if_neg (by simp), if_pos rfl]
      dsimp only
      rw [Bool.not_false, cnd_true, hq, bnd_val, chk_pos (by dsimp only; omega), ltO_def, wrap_err, bnd_val]
      exact Ok.some (by refine lsaid_no ?_; omega)
    | true =>
      simp only [if_true, Bool.not_true, cnd_false, none_eq, bnd_val, Bool.true_eq_false, if_false, chk_same, chk_nn, ltO_def]
      rw [group_eq' (vlP_ok hp), bndG_val]
      show Ok (cnd (ngM m) _ _) _
      cases hn : ngM m with
      | true =>
        rw [cnd_true, hq, bnd_val, chk_pos (by dsimp only; omega), wrap_err, bnd_val]
        exact Ok.some (by rw [if_pos rfl]; refine lsaid_no ?_; omega)
      | false =>
        rw [cnd_false]
        exact Ok.some (by rw [if_neg (by simp)]; exact lsaid_ok)
theorem station08 {a m : List UInt8} (ha : a.length ≤ 1000) : terrierlaw08_station a m = some ((staP a m).1, (staP a m).2, ()) := by
  unfold terrierlaw08_station staP
  rw [Parse_eq (by omega), bnd_val, parse_eq, bnd_val]
  cases hr : rdA a with
  | none => simp only [Bool.not_false, Bool.true_or, ltO_def, cnd_true, Bool.not_true, chk_same]; rw [chk_pos (by simp)]
  | some x =>
    simp only [Bool.not_true, Bool.false_or, ltO_def, Bool.not_false, chk_same, reduceCtorEq, false_imp_iff, true_imp_iff, chk_true]
    cases hp : okP m with
    | false => simp only [Bool.false_eq_true, if_false, Bool.not_false, cnd_true, if_true]
    | true =>
      simp only [if_true, Bool.not_true, cnd_false, none_eq, bnd_val, Bool.true_eq_false, if_false, chk_same, chk_nn, ltO_def]
      rw [group_eq' (vlP_ok hp), bndG_val]
      show cnd (ngM m) _ _ = _
      cases hn : ngM m with
      | true => rw [cnd_true, if_pos rfl]
      | false => rw [cnd_false, if_neg (by simp)]; rfl
def wLL : List UInt8 := [108, 108, 97, 100, 100, 114]
def wFA : List UInt8 := [70, 65, 73, 76, 69, 68]
def wIN : List UInt8 := [73, 78, 67, 79, 77, 80, 76, 69, 84, 69]
def wRE : List UInt8 := [82, 69, 65, 67, 72, 65, 66, 76, 69]
def wST : List UInt8 := [83, 84, 65, 76, 69]
def wDE : List UInt8 := [68, 69, 76, 65, 89]
def wLE : List UInt8 := [108, 101, 97, 115, 101]
def nbP (s : List UInt8) : TSight × Int :=
  if 200 < s.length then (zSight, 1) else
  let f := splitC 32 s
  if f.length ≠ 4 then (zSight, 1) else if f.getD 1 [] ≠ wLL then (zSight, 1)
  else if f.getD 3 [] = wFA ∨ f.getD 3 [] = wIN then (zSight, 8)
  else if f.getD 3 [] = wRE ∨ f.getD 3 [] = wST ∨ f.getD 3 [] = wDE then staP (f.getD 0 []) (f.getD 2 []) else (zSight, 1)
theorem not_beq {a b : List UInt8} (h : a ≠ b) : (a == b) = false := beq_eq_false_iff_ne.2 h
theorem is_beq {a b : List UInt8} (h : a = b) : (a == b) = true := by simp [h]
theorem Neighbour_ok {s : List UInt8} (hs : s.length < 4294967281) : Ok (lines_Neighbour s) (fun y => LSaid y (nbP s)) := by
  unfold lines_Neighbour strings_Split nbP
  rw [chk_pos ⟨hs, by simp⟩, bnd_val, split_splitC]
  simp only [ltO_def, chk_same, chk_nn, wrap_err, bnd_val]
  by_cases h2 : 200 < s.length
  · rw [show (decide (((s.length : Nat) : Int) > 200) || (((splitC 32 s).length : Int) != 4)) = true from by simp; omega]
    simp only [Bool.true_or, cnd_true, Bool.not_true, if_pos h2]
    rw [chk_pos (by simp)]
    exact Ok.some (by refine lsaid_no ?_; omega)
  have hl : ∀ i, ((splitC 32 s).getD i []).length ≤ 200 := getD_len fun w hw => Nat.le_trans (split_len 32 s w hw) (by omega)
  rw [if_neg h2, decide_eq_false (by omega : ¬ ((s.length : Nat) : Int) > 200)]
  generalize splitC 32 s = f at hl
  by_cases h4 : f.length = 4
  · have e4 : (((f.length : Nat) : Int) != 4) = false := by rw [h4]; rfl
    rw [e4]
    simp only [Bool.false_or, Bool.not_false, h4, ne_eq, not_true, if_false]
    rw [chk_pos (by intro _; omega)]
    by_cases h1 : f.getD 1 [] = wLL
    · have b1 : (f.getD 1 [] == ([108, 108, 97, 100, 100, 114] : List UInt8)) = true := is_beq h1
      rw [b1, Bool.not_true, cnd_false, chk_pos (by omega), if_neg (fun h => h h1)]
      have l0 := hl 0
      have l2 := hl 2
      have l3 := hl 3
      by_cases c1 : f.getD 3 [] = wFA
      · rw [show (f.getD 3 [] == ([70, 65, 73, 76, 69, 68] : List UInt8)) = true from is_beq c1, cnd_true, if_pos (.inl c1)]
        exact Ok.some (by refine lsaid_no ?_; omega)
      rw [show (f.getD 3 [] == ([70, 65, 73, 76, 69, 68] : List UInt8)) = false from not_beq c1, cnd_false]
      by_cases c2 : f.getD 3 [] = wIN
      · rw [show (f.getD 3 [] == ([73, 78, 67, 79, 77, 80, 76, 69, 84, 69] : List UInt8)) = true from is_beq c2, cnd_true, if_pos (.inr c2)]
        exact Ok.some (by refine lsaid_no ?_; omega)
      rw [show (f.getD 3 [] == ([73, 78, 67, 79, 77, 80, 76, 69, 84, 69] : List UInt8)) = false from not_beq c2, cnd_false, if_neg (by intro h; exact h.elim c1 c2)]
      have st : Ok (bnd (lines_station (f.getD 0 []) (f.getD 2 [])) fun y15 => some (y15.fst, y15.snd.fst, ())) (fun y => LSaid y (staP (f.getD 0 []) (f.getD 2 []))) :=
        Ok.bnd (station_ok (by omega) (by omega)) fun z hz => Ok.some hz
      by_cases c3 : f.getD 3 [] = wRE
      · rw [show (f.getD 3 [] == ([82, 69, 65, 67, 72, 65, 66, 76, 69] : List UInt8)) = true from is_beq c3, cnd_true, if_pos (.inl c3), chk_pos (by omega), chk_pos (by omega)]
        exact st
      rw [show (f.getD 3 [] == ([82, 69, 65, 67, 72, 65, 66, 76, 69] : List UInt8)) = false from not_beq c3, cnd_false]
      by_cases c4 : f.getD 3 [] = wST
      · rw [show (f.getD 3 [] == ([83, 84, 65, 76, 69] : List UInt8)) = true from is_beq c4, cnd_true, if_pos (.inr (.inl c4)), chk_pos (by omega), chk_pos (by omega)]
        exact st
      rw [show (f.getD 3 [] == ([83, 84, 65, 76, 69] : List UInt8)) = false from not_beq c4, cnd_false]
      by_cases c5 : f.getD 3 [] = wDE
      · rw [show (f.getD 3 [] == ([68, 69, 76, 65, 89] : List UInt8)) = true from is_beq c5, cnd_true, if_pos (.inr (.inr c5)), chk_pos (by omega), chk_pos (by omega)]
        exact st
      rw [show (f.getD 3 [] == ([68, 69, 76, 65, 89] : List UInt8)) = false from not_beq c5, cnd_false, if_neg (by intro h; rcases h with h | h | h <;> first | exact c3 h | exact c4 h | exact c5 h)]
      obtain ⟨q, hq, hql⟩ := quote_len (s := f.getD 3 []) (by omega)
      rw [chk_pos (by omega), hq, bnd_val, chk_pos (by dsimp only; omega)]
      exact Ok.some (by refine lsaid_no ?_; omega)
    · have b1 : (f.getD 1 [] == ([108, 108, 97, 100, 100, 114] : List UInt8)) = false := not_beq h1
      rw [b1, Bool.not_false, cnd_true, if_pos h1]
      exact Ok.some (by refine lsaid_no ?_; omega)
  · have e4 : (((f.length : Nat) : Int) != 4) = true := by simp; omega
    rw [e4, if_pos h4]
    simp only [Bool.or_true, Bool.true_or, cnd_true, Bool.not_true]
    rw [chk_pos (by simp)]
    exact Ok.some (by refine lsaid_no ?_; omega)
theorem split08 : terrierlaw08_split = terrierlaw17_cut := rfl
theorem neighbour08 (s : List UInt8) : terrierlaw08_neighbour s = some ((nbP s).1, (nbP s).2, ()) := by
  unfold terrierlaw08_neighbour nbP
  by_cases h2 : 200 < s.length
  · rw [decide_eq_true (by omega), cnd_true, if_pos h2]
  have hl : ∀ i, ((splitC 32 s).getD i []).length ≤ 200 := getD_len fun w hw => Nat.le_trans (split_len 32 s w hw) (by omega)
  rw [decide_eq_false (by omega), cnd_false, if_neg h2, split08, cut_eq (by omega), bnd_val]
  generalize splitC 32 s = f at hl
  dsimp only
  simp only [ltO_def, chk_same, chk_nn]
  by_cases h4 : f.length = 4
  · have e4 : (((f.length : Nat) : Int) != 4) = false := by rw [h4]; rfl
    have l0 := hl 0
    rw [e4]
    simp only [Bool.false_or, Bool.not_false, h4, ne_eq, not_true, if_false]
    rw [chk_pos (by intro _; omega), chk_pos (by intro _; omega)]
    by_cases h1 : f.getD 1 [] = wLL
    · rw [show (f.getD 1 [] == ([108, 108, 97, 100, 100, 114] : List UInt8)) = true from is_beq h1, Bool.not_true, cnd_false, chk_pos (by omega), chk_pos (by omega), chk_pos (by intro _; omega), chk_pos (by intro _; omega), if_neg (fun h => h h1)]
      by_cases c : f.getD 3 [] = wFA ∨ f.getD 3 [] = wIN
      · rw [show ((f.getD 3 [] == ([70, 65, 73, 76, 69, 68] : List UInt8)) || (f.getD 3 [] == ([73, 78, 67, 79, 77, 80, 76, 69, 84, 69] : List UInt8))) = true from by
          rcases c with c | c
          · rw [show (f.getD 3 [] == ([70, 65, 73, 76, 69, 68] : List UInt8)) = true from is_beq c]; rfl
          · rw [show (f.getD 3 [] == ([73, 78, 67, 79, 77, 80, 76, 69, 84, 69] : List UInt8)) = true from is_beq c, Bool.or_true], cnd_true, if_pos c]
      · rw [show ((f.getD 3 [] == ([70, 65, 73, 76, 69, 68] : List UInt8)) || (f.getD 3 [] == ([73, 78, 67, 79, 77, 80, 76, 69, 84, 69] : List UInt8))) = false from by
          rw [show (f.getD 3 [] == ([70, 65, 73, 76, 69, 68] : List UInt8)) = false from not_beq fun h => c (.inl h), show (f.getD 3 [] == ([73, 78, 67, 79, 77, 80, 76, 69, 84, 69] : List UInt8)) = false from not_beq fun h => c (.inr h)]; rfl, cnd_false, if_neg c]
        rw [chk_pos (by omega), chk_pos (by omega), chk_pos (by intro _; omega), chk_pos (by intro _; omega), chk_pos (by intro _; omega), chk_pos (by intro _; omega)]
        by_cases c3 : f.getD 3 [] = wRE ∨ f.getD 3 [] = wST ∨ f.getD 3 [] = wDE
        · rw [show ((!(f.getD 3 [] == ([82, 69, 65, 67, 72, 65, 66, 76, 69] : List UInt8)) && !(f.getD 3 [] == ([83, 84, 65, 76, 69] : List UInt8))) && !(f.getD 3 [] == ([68, 69, 76, 65, 89] : List UInt8))) = false from by
            rcases c3 with c | c | c
            · rw [show (f.getD 3 [] == ([82, 69, 65, 67, 72, 65, 66, 76, 69] : List UInt8)) = true from is_beq c]; rfl
            · rw [show (f.getD 3 [] == ([83, 84, 65, 76, 69] : List UInt8)) = true from is_beq c]; simp
            · rw [show (f.getD 3 [] == ([68, 69, 76, 65, 89] : List UInt8)) = true from is_beq c]; simp, cnd_false, if_pos c3, chk_pos (by omega), chk_pos (by omega), chk_pos (by omega), chk_pos (by omega), station08 (by omega), bnd_val]
        · rw [show ((!(f.getD 3 [] == ([82, 69, 65, 67, 72, 65, 66, 76, 69] : List UInt8)) && !(f.getD 3 [] == ([83, 84, 65, 76, 69] : List UInt8))) && !(f.getD 3 [] == ([68, 69, 76, 65, 89] : List UInt8))) = true from by
            rw [show (f.getD 3 [] == ([82, 69, 65, 67, 72, 65, 66, 76, 69] : List UInt8)) = false from not_beq fun h => c3 (.inl h), show (f.getD 3 [] == ([83, 84, 65, 76, 69] : List UInt8)) = false from not_beq fun h => c3 (.inr (.inl h)), show (f.getD 3 [] == ([68, 69, 76, 65, 89] : List UInt8)) = false from not_beq fun h => c3 (.inr (.inr h))]; rfl, cnd_true, if_neg c3]
    · rw [show (f.getD 1 [] == ([108, 108, 97, 100, 100, 114] : List UInt8)) = false from not_beq h1, Bool.not_false, cnd_true, if_pos h1]
  · have e4 : (((f.length : Nat) : Int) != 4) = true := by simp; omega
    rw [e4, if_pos h4]
    simp only [Bool.or_true, Bool.true_or, cnd_true, Bool.not_true]
    rw [chk_pos (by simp), chk_pos (by simp)]
end Go.Tr
namespace Go.Tr
open Go
set_option linter.unusedVariables false
set_option linter.unusedSimpArgs false
set_option maxRecDepth 100000
set_option maxHeartbeats 4000000
noncomputable def leP (s : List UInt8) : TSight × Int :=
  if 200 < s.length then (zSight, 1) else
  let f := splitC 32 s
  if f.length ≠ 4 then (zSight, 1) else if f.getD 0 [] ≠ wLE then (zSight, 1)
  else match nuP (f.getD 3 []) with
    | none => (zSight, 1)
    | some n => if n < 0 ∨ n > 1099511627776 then (zSight, 3)
      else if (staP (f.getD 1 []) (f.getD 2 [])).2 = 0 then (((staP (f.getD 1 []) (f.getD 2 [])).1.1, (staP (f.getD 1 []) (f.getD 2 [])).1.2.1, n), 0) else (zSight, (staP (f.getD 1 []) (f.getD 2 [])).2)
theorem sta_z {a m : List UInt8} (h : (staP a m).2 ≠ 0) : (staP a m).1 = zSight := by
  unfold staP at h ⊢
  split
  · rfl
  · split
    · rfl
    · split
      · rfl
      · rename_i h1 h2 h3
        exfalso
        simp [h1, h2, h3] at h
theorem Lease_ok {s : List UInt8} (hs : s.length < 4294967281) : Ok (lines_Lease s) (fun y => LSaid y (leP s)) := by
  unfold lines_Lease strings_Split leP
  rw [chk_pos ⟨hs, by simp⟩, bnd_val, split_splitC]
  simp only [ltO_def, chk_same, chk_nn, wrap_err, bnd_val]
  by_cases h2 : 200 < s.length
  · rw [show (decide (((s.length : Nat) : Int) > 200) || (((splitC 32 s).length : Int) != 4)) = true from by simp; omega]
    simp only [Bool.true_or, cnd_true, Bool.not_true, if_pos h2]
    rw [chk_pos (by simp)]
    exact Ok.some (by refine lsaid_no ?_; omega)
  have hl : ∀ i, ((splitC 32 s).getD i []).length ≤ 200 := getD_len fun w hw => Nat.le_trans (split_len 32 s w hw) (by omega)
  rw [if_neg h2, decide_eq_false (by omega : ¬ ((s.length : Nat) : Int) > 200)]
  generalize splitC 32 s = f at hl
  by_cases h4 : f.length = 4
  · have e4 : (((f.length : Nat) : Int) != 4) = false := by rw [h4]; rfl
    rw [e4]
    simp only [Bool.false_or, Bool.not_false, h4, ne_eq, not_true, if_false]
    rw [chk_pos (by intro _; omega)]
    by_cases h1 : f.getD 0 [] = wLE
    · rw [show (f.getD 0 [] == ([108, 101, 97, 115, 101] : List UInt8)) = true from is_beq h1, Bool.not_true, cnd_false, chk_pos (by omega), if_neg (fun h => h h1)]
      have l1 := hl 1
      have l2 := hl 2
      have l3 := hl 3
      obtain ⟨v, e, h5, h6, h7, h8⟩ := atoi_eq (t := f.getD 3 []) (by omega)
      have hI : strconv_Itoa v = some (Lib.itoa v, ()) := by unfold strconv_Itoa; exact chk_pos h6 _
      rw [h5, bnd_val]
      dsimp only
      rw [hI, bndG_val, chk_pos (by intro _; omega)]
      obtain ⟨q, hq, hql⟩ := quote_len (s := f.getD 3 []) (by omega)
      have bad : (errN e = false ∨ Lib.itoa v ≠ f.getD 3 []) → Ok (chk ((0 : Int) ≤ 3 ∧ (3 : Int) < ((4 : Nat) : Int)) (bnd (strconv_Quote (f.getD 3 [])) fun y15 => chk (((5 + y15.fst.length : Nat) : Int) ≤ 9223372036854775807) (some (zSight, eLin ([116, 105, 99, 107, 32] ++ y15.fst) (eNum 1), ())))) (fun y => LSaid y (match nuP (f.getD 3 []) with
    | none => (zSight, 1)
    | some n => if n < 0 ∨ n > 1099511627776 then (zSight, 3)
      else if (staP (f.getD 1 []) (f.getD 2 [])).2 = 0 then (((staP (f.getD 1 []) (f.getD 2 [])).1.1, (staP (f.getD 1 []) (f.getD 2 [])).1.2.1, n), 0) else (zSight, (staP (f.getD 1 []) (f.getD 2 [])).2))) := by
        intro hb
        rw [h8 hb, chk_pos (by omega), hq, bnd_val, chk_pos (by dsimp only; omega)]
        exact Ok.some (by refine lsaid_no ?_; omega)
      cases he : errN e with
      | false => rw [Bool.not_false, Bool.true_or, cnd_true]; exact bad (.inl he)
      | true =>
        rw [Bool.not_true, Bool.false_or]
        by_cases hi : Lib.itoa v = f.getD 3 []
        · rw [show (Lib.itoa v == f.getD 3 []) = true from is_beq hi, Bool.not_true, cnd_false, h7 he hi]
          dsimp only
          by_cases hr : v < 0 ∨ v > 1099511627776
          · rw [show (decide (v < 0) || decide (v > 1099511627776)) = true from by simp; omega, cnd_true, if_pos hr, chk_pos (by omega), chk_pos (by omega)]
            exact Ok.some (by refine lsaid_no ?_; omega)
          · rw [show (decide (v < 0) || decide (v > 1099511627776)) = false from by simp; omega, cnd_false, if_neg hr, chk_pos (by omega), chk_pos (by omega)]
            refine Ok.bnd (station_ok (by omega) (by omega)) ?_
            rintro ⟨y1, y2, ⟨⟩⟩ ⟨a1, a2⟩
            dsimp only at a1 a2 ⊢
            rcases a2 with ⟨a2, a3⟩ | ⟨a2, a3, q2, a4⟩
            · rw [a3, if_pos a2, a1]
              exact Ok.some lsaid_ok
            · rw [a4, if_neg (by omega)]
              exact Ok.some (by refine lsaid_no ?_; omega)
        · rw [show (Lib.itoa v == f.getD 3 []) = false from not_beq hi, Bool.not_false, cnd_true]
          exact bad (.inr hi)
    · rw [show (f.getD 0 [] == ([108, 101, 97, 115, 101] : List UInt8)) = false from not_beq h1, Bool.not_false, cnd_true, if_pos h1]
      exact Ok.some (by refine lsaid_no ?_; omega)
  · have e4 : (((f.length : Nat) : Int) != 4) = true := by simp; omega
    rw [e4, if_pos h4]
    simp only [Bool.or_true, Bool.true_or, cnd_true, Bool.not_true]
    rw [chk_pos (by simp)]
    exact Ok.some (by refine lsaid_no ?_; omega)
theorem lease08 (s : List UInt8) : terrierlaw08_lease s = some ((leP s).1, (leP s).2, ()) := by
  unfold terrierlaw08_lease leP
  by_cases h2 : 200 < s.length
  · rw [decide_eq_true (by omega), cnd_true, if_pos h2]
  have hl : ∀ i, ((splitC 32 s).getD i []).length ≤ 200 := getD_len fun w hw => Nat.le_trans (split_len 32 s w hw) (by omega)
  rw [decide_eq_false (by omega), cnd_false, if_neg h2, split08, cut_eq (by omega), bnd_val]
  generalize splitC 32 s = f at hl
  dsimp only
  simp only [ltO_def, chk_same, chk_nn]
  by_cases h4 : f.length = 4
  · have e4 : (((f.length : Nat) : Int) != 4) = false := by rw [h4]; rfl
    have l1 := hl 1
    have l3 := hl 3
    rw [e4]
    simp only [Bool.false_or, Bool.not_false, h4, ne_eq, not_true, if_false]
    rw [chk_pos (by intro _; omega), chk_pos (by intro _; omega)]
    by_cases h1 : f.getD 0 [] = wLE
    · rw [show (f.getD 0 [] == ([108, 101, 97, 115, 101] : List UInt8)) = true from is_beq h1, Bool.not_true, cnd_false, chk_pos (by omega), chk_pos (by omega), if_neg (fun h => h h1)]
      obtain ⟨N, b, n1, n2, n3⟩ := number_nuP (s := f.getD 3 []) (by omega)
      rw [n1, bnd_val]
      cases b with
      | false => rw [n3 rfl]; simp only [Bool.not_false, cnd_true]
      | true =>
        rw [(n2 rfl).1]
        simp only [Bool.not_true, cnd_false]
        by_cases hr : N < 0 ∨ N > 1099511627776
        · rw [show (decide (N < 0) || decide (N > 1099511627776)) = true from by simp; omega, cnd_true, if_pos hr]
        · rw [show (decide (N < 0) || decide (N > 1099511627776)) = false from by simp; omega, cnd_false, if_neg hr, chk_pos (by omega), chk_pos (by omega), chk_pos (by omega), chk_pos (by omega), station08 (by omega), bnd_val]
          dsimp only
          by_cases h0 : (staP (f.getD 1 []) (f.getD 2 [])).2 = 0
          · rw [show ((staP (f.getD 1 []) (f.getD 2 [])).2 == 0) = true from by rw [h0]; rfl, cnd_true, if_pos h0, h0]
          · rw [show ((staP (f.getD 1 []) (f.getD 2 [])).2 == 0) = false from beq_eq_false_iff_ne.2 h0, cnd_false, if_neg h0, sta_z h0]
    · rw [show (f.getD 0 [] == ([108, 101, 97, 115, 101] : List UInt8)) = false from not_beq h1, Bool.not_false, cnd_true, if_pos h1]
  · have e4 : (((f.length : Nat) : Int) != 4) = true := by simp; omega
    rw [e4, if_pos h4]
    simp only [Bool.or_true, Bool.true_or, cnd_true, Bool.not_true]
    rw [chk_pos (by simp), chk_pos (by simp)]
theorem told_nil : terrierlaw08_told .nil 0 = some (true, ()) := by
  unfold terrierlaw08_told
  rw [number_ok ok_nil]
  simp only [ltO_def, BEq.rfl, cnd_true, errN_nil, chk_same, bndG_val, no_nil, Bool.and_true]
theorem told_lin {q : List UInt8} {n : Int} (hn : n = 1 ∨ n = 3 ∨ n = 8) : terrierlaw08_told (eLin q (eNum n)) n = some (true, ()) := by
  have ok : ErrOk eTy (eLin q (eNum n)) := ok_lin num_ne (ok_num ⟨by omega, by omega⟩)
  unfold terrierlaw08_told
  rw [is_ok ok, number_ok ok]
  have h0 : (n == 0) = false := by rcases hn with rfl | rfl | rfl <;> rfl
  simp only [ltO_def, h0, cnd_false, bnd_val, is_lin, is_num, no_lin, no_num, BEq.rfl, chk_same, bndG_val, Bool.and_true]
theorem LSaid.told {y : TSight × TErr × Unit} {r : TSight × Int} (h : LSaid y r) : terrierlaw08_told y.2.1 r.2 = some (true, ()) := by
  rcases h.2 with ⟨a, b⟩ | ⟨a, _, q, b⟩
  · rw [a, b]; exact told_nil
  · rw [b]; exact told_lin a
end Go.Tr
namespace Go.Tr
open Go
set_option linter.unusedVariables false
set_option linter.unusedSimpArgs false
set_option maxRecDepth 100000
set_option maxHeartbeats 4000000
def litN : List UInt8 := [49, 48, 46, 48, 46, 48, 46, 49, 32, 108, 108, 97, 100, 100, 114, 32, 48, 50, 58, 48, 48, 58, 48, 48, 58, 48, 48, 58, 48, 48, 58, 48, 49, 32, 83, 84, 65, 76, 69]
def litL : List UInt8 := [108, 101, 97, 115, 101, 32, 49, 48, 46, 48, 46, 48, 46, 49, 32, 48, 50, 58, 48, 48, 58, 48, 48, 58, 48, 48, 58, 48, 48, 58, 48, 49, 32, 48, 48, 55]
theorem litN_eq : nbP litN = ((167772161, (2, 0, 0, 0, 0, 1), 0), 0) := by kernel_rfl
theorem nu007 : nuP [48, 48, 55] = none := nuP_none (by
  rintro ⟨v, hv, h⟩
  have a := atoi_itoa hv
  rw [h] at a
  have b : Lib.atoiAll [48, 48, 55] = .ok 7 := by kernel_rfl
  rw [b] at a
  injection a with a
  subst a
  rw [show (7 : Int) = ((7 : Nat) : Int) from rfl, Lib.itoa_nonneg, Lib.decDigits, dif_pos (by decide)] at h
  simp at h)
theorem litL_eq : leP litL = (zSight, 1) := by
  have e : splitC 32 litL = [wLE, [49, 48, 46, 48, 46, 48, 46, 49], [48, 50, 58, 48, 48, 58, 48, 48, 58, 48, 48, 58, 48, 48, 58, 48, 49], [48, 48, 55]] := by kernel_rfl
  unfold leP
  rw [e, if_neg (by decide), if_neg (by simp), if_neg (by intro h; exact h rfl)]
  rw [show ([wLE, [49, 48, 46, 48, 46, 48, 46, 49], [48, 50, 58, 48, 48, 58, 48, 48, 58, 48, 48, 58, 48, 48, 58, 48, 49], [48, 48, 55]] : List (List UInt8)).getD 3 [] = [48, 48, 55] from rfl, nu007]
theorem awake08 : terrierlaw08_awake = some (true, ()) := by
  obtain ⟨⟨y1, y2, ⟨⟩⟩, hy, a1, a2⟩ := Neighbour_ok (s := litN) (by decide)
  obtain ⟨⟨z1, z2, ⟨⟩⟩, hz, b1, b2⟩ := Lease_ok (s := litL) (by decide)
  rw [litN_eq] at a1 a2
  rw [litL_eq] at b1 b2
  have h1 : y2 = .nil := by
    rcases a2 with ⟨_, h⟩ | ⟨h, _⟩
    · exact h
    · exfalso; have : (0 : Int) = 1 ∨ (0 : Int) = 3 ∨ (0 : Int) = 8 := h; omega
  obtain ⟨q, h2⟩ : ∃ q, z2 = eLin q (eNum 1) := by
    rcases b2 with ⟨h, _⟩ | ⟨_, _, h⟩
    · exfalso; have : (1 : Int) = 0 := h; omega
    · exact h
  simp only at a1 b1
  subst a1 h1 h2
  have ok : ErrOk eTy (eLin q (eNum 1)) := ok_lin num_ne (ok_num ⟨by decide, by decide⟩)
  show bnd (lines_Neighbour litN) _ = _
  rw [hy, bnd_val]
  show bnd (lines_Lease litL) _ = _
  rw [hz, bnd_val]
  dsimp only
  rw [is_ok ok, number_ok ok]
  simp only [ltO_def, chk_same, errN_nil, bndG_val, is_lin, is_num, no_lin, no_num]
  rw [chk_pos (by intro _; decide)]
  rfl
abbrev TWords : Type := Int × TMac × Int × Int × Int × List UInt8
structure WordsOk (B : Nat) (w : TWords) : Prop where
  a : in32 w.1
  m : M6ok w.2.1
  s : 0 ≤ w.2.2.1 ∧ w.2.2.1 ≤ 255
  u : i64 w.2.2.2.1
  p : 0 ≤ w.2.2.2.2.1 ∧ w.2.2.2.2.1 ≤ 255
  t : w.2.2.2.2.2.length ≤ B
def four4 (l : List (List UInt8)) : (List UInt8) × (List UInt8) × (List UInt8) × List UInt8 := (l.getD 0 [], l.getD 1 [], l.getD 2 [], l.getD 3 [])
theorem itoa_len {n : Int} (h : i64 n) : (Lib.itoa n).length ≤ 21 := Lib.itoa_length_le n h.1 h.2
def stsW : List (List UInt8) := [wRE, wST, wDE, wFA, wIN, [114, 101, 97, 99, 104, 97, 98, 108, 101], []]
theorem four_ok {B : Nat} {w : TWords} (h : WordsOk B w) (hB : 100 ≤ B) (lease : Bool) : ∃ l, terrierlaw08_Words_four w lease = some (four4 l, ()) ∧ AllLe B l ∧ l.length = 4 := by
  unfold terrierlaw08_Words_four
  have la := adT_len w.1
  have lm := lowT_len w.2.1
  have hs := h.s
  have hp := h.p
  have li := itoa_len h.u
  have hst : ∀ i, (stsW.getD i []).length ≤ B := getD_len (fun w hw => Nat.le_trans (by revert w hw; decide : w.length ≤ 100) hB)
  rw [Text_eq h.a, bnd_val, text_eq h.m, bnd_val, chk_pos (by decide), Int.tmod_eq_emod_of_nonneg hs.1, ltO_def, chk_pos (by omega), chk_pos (by omega), digs_eq h.u]
  cases lease with
  | true =>
    rw [cnd_true, bnd_val, bnd_val, bnd_val]
    dsimp only
    have base : AllLe B [wLE, adT w.1, lowT w.2.1, Lib.itoa w.2.2.2.1] := by
      intro x hx
      simp only [List.mem_cons, List.not_mem_nil, or_false] at hx
      rcases hx with rfl | rfl | rfl | rfl
      · show 5 ≤ B; omega
      · omega
      · omega
      · omega
    by_cases hp4 : w.2.2.2.2.1 < 4
    · rw [decide_eq_true hp4, cnd_true, chk_pos (by omega)]
      exact ⟨_, rfl, base.set (i := w.2.2.2.2.1.toNat) h.t, by simp⟩
    · rw [decide_eq_false hp4, cnd_false]
      exact ⟨_, rfl, base, rfl⟩
  | false =>
    rw [cnd_false]
    dsimp only
    have base : AllLe B [adT w.1, wLL, lowT w.2.1, stsW.getD (w.2.2.1 % 7).toNat []] := by
      intro x hx
      simp only [List.mem_cons, List.not_mem_nil, or_false] at hx
      rcases hx with rfl | rfl | rfl | rfl
      · omega
      · show 6 ≤ B; omega
      · omega
      · exact hst _
    by_cases hp4 : w.2.2.2.2.1 < 4
    · rw [decide_eq_true hp4, cnd_true, chk_pos (by omega)]
      exact ⟨_, rfl, base.set (i := w.2.2.2.2.1.toNat) h.t, by simp⟩
    · rw [decide_eq_false hp4, cnd_false]
      exact ⟨_, rfl, base, rfl⟩
end Go.Tr
