/- The laws of addresses: texts and numbers. Conditions: none but the numbers' bounds. -/
import Derived.Test.YtbdgfpfafcjmgaaDoorAddrL2
namespace Go.Tr
open Go
set_option linter.unusedVariables false
set_option linter.unusedSimpArgs false
set_option maxRecDepth 100000
set_option maxHeartbeats 1000000

/-! ### Prefixes as texts -/

theorem cut_app {c : UInt8} {x : List UInt8} (y : List UInt8) (h : c ∉ x) : Lib.cut (x ++ c :: y) [c] = (x, y, true) := by
  have hix : ∀ {x : List UInt8}, c ∉ x → Lib.index (x ++ c :: y) [c] = (x.length : Int) := by
    intro x
    induction x with
    | nil => intro _; rw [List.nil_append, Lib.index]; simp [List.isPrefixOf]
    | cons b l ih =>
      intro h
      simp only [List.mem_cons, not_or] at h
      have hp : ([c] : List UInt8).isPrefixOf (b :: (l ++ c :: y)) = false := by simp [List.isPrefixOf, h.1]
      rw [List.cons_append, Lib.index, hp, ih h.2]
      have : (((l.length : Nat) : Int) == -1) = false := beq_eq_false_iff_ne.2 (by omega)
      rw [this]; simp
  unfold Lib.cut
  rw [hix h, if_pos (by omega), Int.toNat_natCast]
  simp
theorem cut_none {c : UInt8} {x : List UInt8} (h : c ∉ x) : Lib.cut x [c] = (x, [], false) := by
  have hix : ∀ {x : List UInt8}, c ∉ x → Lib.index x [c] = -1 := by
    intro x
    induction x with
    | nil => intro _; simp [Lib.index]
    | cons b l ih =>
      intro h
      simp only [List.mem_cons, not_or] at h
      have hp : ([c] : List UInt8).isPrefixOf (b :: l) = false := by simp [List.isPrefixOf, h.1]
      rw [Lib.index, hp, ih h.2]; simp
  unfold Lib.cut
  rw [hix h, if_neg (by decide)]
/-- At a byte a text is cut, or has none. -/
theorem cut_ways (c : UInt8) : ∀ s : List UInt8, c ∉ s ∨ ∃ x y, c ∉ x ∧ s = x ++ c :: y
  | [] => .inl (by simp)
  | b :: l => by
    by_cases h : b = c
    · exact .inr ⟨[], l, by simp, by simp [h]⟩
    · rcases cut_ways c l with h1 | ⟨x, y, h1, h2⟩
      · exact .inl (by simp [Ne.symm h, h1])
      · exact .inr ⟨b :: x, y, by simp [Ne.symm h, h1], by simp [h2]⟩

def bt (b : Int × Int) : List UInt8 := adT b.1 ++ 47 :: ds b.2.toNat

/-- What a text is the prefix of. -/
def rdB (s : List UInt8) : Option (Int × Int) :=
  match Lib.cut s [47] with
  | (x, y, true) => match rdA x with
    | some a => if goodN y = true ∧ valN y ≤ 32 ∧ rB (a, (valN y : Int)) = true then some (a, (valN y : Int)) else none
    | none => none
  | (_, _, false) => none

theorem ParseBlock_eq {s : List UInt8} (hs : s.length < 4294967281) : addr_ParseBlock s = some (match rdB s with
    | some b => (b, true, ())
    | none => ((0, 0), false, ())) := by
  unfold addr_ParseBlock strings_Cut
  rw [chk_pos hs, bnd_val]
  rcases cut_ways 47 s with h | ⟨x, y, h, rfl⟩
  · rw [cut_none h]
    simp only []
    rw [Parse_eq hs, bnd_val, number_eq, bnd_val]
    have : rdB s = none := by unfold rdB; rw [cut_none h]
    rw [this]
    simp only [ltO_def, chk_same, chk_nn]
    simp only [Bool.not_false, Bool.true_or, Bool.not_true, bndG_false, cnd_true]
  · rw [cut_app y h]
    simp only []
    have hx : x.length < 4294967281 := by simp at hs; omega
    rw [Parse_eq hx, bnd_val, number_eq, bnd_val]
    have hr : rdB (x ++ 47 :: y) = match rdA x with
      | some a => if goodN y = true ∧ valN y ≤ 32 ∧ rB (a, (valN y : Int)) = true then some (a, (valN y : Int)) else none
      | none => none := by unfold rdB; rw [cut_app y h]
    rw [hr]
    simp only [ltO_def, chk_same, chk_nn]
    cases hA : rdA x with
    | none =>
      simp only [Bool.not_true, Bool.not_false, Bool.or_true, Bool.true_or, Bool.false_or, bndG_false, cnd_true]
    | some a =>
      have ha := (adT_rd hA).1
      simp only [Bool.not_true, Bool.false_or]
      rw [Right_eq (b := (a, _)) ha]
      simp only [bndG_val]
      cases hg : goodN y with
      | false => simp
      | true =>
        simp only [if_true, true_and]
        by_cases h32 : valN y ≤ 32
        · rw [decide_eq_true (by omega : (valN y : Int) ≤ 32)]
          cases hrb : rB (a, (valN y : Int)) with
          | false => simp
          | true => simp [h32]
        · rw [decide_eq_false (by omega : ¬ (valN y : Int) ≤ 32)]
          simp [h32]

theorem adT_no {a : Int} : (47 : UInt8) ∉ adT a := by
  have hn := fun k => ds_no (show pt a k < 1000 from by have := @pt_lt a k; omega) (c := 47) (.inr rfl)
  unfold adT
  simp [hn]

theorem rd_bt {b : Int × Int} (hb : in32 b.1) (h : rB b = true) : rdB (bt b) = some b := by
  have g := (rB_bo h).1
  unfold bo at g
  unfold rdB bt
  rw [cut_app _ adT_no]
  simp only [rd_adT hb]
  obtain ⟨h1, h2, _⟩ := ds_ok (show b.2.toNat < 1000 by omega)
  have e : ((b.2.toNat : Nat) : Int) = b.2 := by omega
  rw [h1, h2, e, if_pos ⟨rfl, by omega, h⟩]

theorem bt_rd {s : List UInt8} {b : Int × Int} (h : rdB s = some b) : in32 b.1 ∧ rB b = true ∧ bt b = s := by
  rcases cut_ways 47 s with hc | ⟨x, y, hc, rfl⟩
  · unfold rdB at h; rw [cut_none hc] at h; simp at h
  · unfold rdB at h
    rw [cut_app y hc] at h
    simp only at h
    split at h
    · rename_i a ha
      split at h
      · rename_i hh
        obtain ⟨h1, h2, h3⟩ := hh
        simp only [Option.some.injEq] at h
        subst h
        obtain ⟨g1, g2⟩ := adT_rd ha
        refine ⟨g1, h3, ?_⟩
        unfold bt
        rw [g2, Int.toNat_natCast, (good_ds h1).2]
      · simp at h
    · simp at h

theorem BlockText_eq {b : Int × Int} (hb : in32 b.1) (h : bo b.2) : addr_BlockText b = some (bt b, ()) := by
  unfold bo at h
  unfold addr_BlockText
  have hl := adT_len b.1
  have hd := (ds_ok (show b.2.toNat < 1000 by omega)).2.2.2
  rw [Text_eq hb, bnd_val, chk_pos (by simp; omega), ltO_def, itoa_ds h.1 (by omega), bnd_val, chk_pos (by simp; omega), ltO_def]
  simp [bt]

/-! ### The document's examples -/

theorem awakeA_eq : terrierlaw01_awake = some (true, ()) := by
  unfold terrierlaw01_awake
  have i1 : in32 167772161 := ⟨by decide, by decide⟩
  have i0 : in32 167772160 := ⟨by decide, by decide⟩
  have t1 : adT 167772161 = [(49 : UInt8), (48 : UInt8), (46 : UInt8), (48 : UInt8), (46 : UInt8), (48 : UInt8), (46 : UInt8), (49 : UInt8)] := by decide
  have t0 : bt (167772160, 31) = [(49 : UInt8), (48 : UInt8), (46 : UInt8), (48 : UInt8), (46 : UInt8), (48 : UInt8), (46 : UInt8), (48 : UInt8), (47 : UInt8), (51 : UInt8), (49 : UInt8)] := by decide
  have r0 : rB (167772160, 31) = true := by decide
  rw [← t1, ← t0, Parse_eq (by decide), ParseBlock_eq (by decide), rd_adT i1, rd_bt (b := (167772160, 31)) i0 r0]
  simp only [bnd_val]
  rw [show (((167772160 : Int), (31 : Int)).1, ((167772160 : Int), (31 : Int)).2) = ((167772160 : Int), (31 : Int)) from rfl, Halves_eq (b := (167772160, 31)) i0, Text_eq i1, Size_eq (b := (167772160, 31)) i0]
  have hh : haB (167772160, 31) = ((167772160, 32), (167772161, 32), true, ()) := by decide
  have hz : szB (167772160, 31) = 2 := by decide
  rw [hh, hz]
  simp only [bnd_val, bndG_val, chk_same, ltO_def]
  simp

/-! ### AddrText -/

theorem text_round {n : Int} {xs : List (List UInt8)} (i : Nat) (hi : i < xs.length) (hn : n = (xs.length : Int)) (h100 : xs.length ≤ 100) (hx : (xs.getD i []).length < 4294967281) :
    terrierlaw01_AddrText_b0 n (i : Int) xs = some (.inl (n, ((i + 1 : Nat) : Int), xs, ())) := by
  unfold terrierlaw01_AddrText_b0
  rw [decide_eq_true (by omega : (i : Int) < n), cnd_true, chk_pos (by omega), Int.toNat_natCast, chk_pos hi, Parse_eq hx, bnd_val]
  have w : IntKind.i64.wrap ((i : Int) + 1) = ((i + 1 : Nat) : Int) := w64 (by omega) (by omega)
  cases hA : rdA (xs.getD i []) with
  | none =>
    simp only [ltO_def, chk_same, chk_nn, chk_and, bndG_false]
    simp [w]
  | some a =>
    obtain ⟨ha, ht⟩ := adT_rd hA
    rw [lawtext_eq ha]
    simp only [ltO_def, chk_same, chk_nn, chk_and, bndG_val]
    rw [ht]
    simp [w]

theorem addrText_law {a : Int} (ha : in32 a) {s : List UInt8} (hs : s.length ≤ 268435456) : terrierlaw01_AddrText a s = some (true, ()) := by
  unfold terrierlaw01_AddrText
  have hl := adT_len a
  rw [awakeA_eq, bnd_val, Text_eq ha, bnd_val, Parse_eq (by show (adT a).length < _; omega), lawtext_eq ha]
  simp only [rd_adT ha, Bool.not_true, cnd_false, bnd_val, ltO_def, chk_same, chk_nn]
  rw [cnd_ite, if_neg (by simp), chk_pos (by omega), chk_pos (by omega)]
  have L := loopM_steps (f := fun s : Int × Int × (List (List UInt8)) × Unit => terrierlaw01_AddrText_b0 s.1 s.2.1 s.2.2.1) (fun i => ((([s, adT a ++ s, s ++ adT a].length : Nat) : Int), (i : Int), [s, adT a ++ s, s ++ adT a], ())) (a := 0) (n := 3) (by omega)
    fun i _ hi => text_round i hi rfl (by simp) (by
      match i, hi with
      | 0, _ => show s.length < _; omega
      | 1, _ => show (adT a ++ s).length < _; rw [List.length_append]; omega
      | 2, _ => show (s ++ adT a).length < _; rw [List.length_append]; omega)
  have L' : terrierlaw01_AddrText_l0 ((([s, adT a ++ s, s ++ adT a].length : Nat) : Int), 0, [s, adT a ++ s, s ++ adT a], ()) = _ := L
  rw [L', loopM_last (y := .inl ())]
  · rfl
  · show terrierlaw01_AddrText_b0 (([s, adT a ++ s, s ++ adT a].length : Nat) : Int) ((3 : Nat) : Int) [s, adT a ++ s, s ++ adT a] = _
    unfold terrierlaw01_AddrText_b0
    rw [decide_eq_false (by simp)]; rfl

end Go.Tr
