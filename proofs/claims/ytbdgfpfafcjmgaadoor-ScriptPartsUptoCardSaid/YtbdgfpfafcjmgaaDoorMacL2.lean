/- The laws of stations, of the printed functions: the statements. Conditions: none but the numbers' bounds. -/
import Derived.Test.YtbdgfpfafcjmgaaDoorMacL
namespace Go.Tr
open Go
set_option linter.unusedVariables false
set_option linter.unusedSimpArgs false
set_option maxRecDepth 100000
set_option maxHeartbeats 4000000

abbrev m6at (m : M6) (i : Nat) : Int := [m.1, m.2.1, m.2.2.1, m.2.2.2.1, m.2.2.2.2.1, m.2.2.2.2.2].getD i 0
theorem M6ok.at {m : M6} (hm : M6ok m) {i : Nat} (hi : i < 6) : by8 (m6at m i) := by
  match i, hi with
  | 0, _ => exact hm.h0
  | 1, _ => exact hm.h1
  | 2, _ => exact hm.h2
  | 3, _ => exact hm.h3
  | 4, _ => exact hm.h4
  | 5, _ => exact hm.h5

def upB (great : Int) (i : Nat) : Bool := IntKind.u8.wrap (bandI .u8 (shrI .u8 great (i : Int)) 1) == 1

theorem macText_body {m : M6} (hm : M6ok m) (great : Int) (s t : List UInt8) (sep : UInt8) (i : Nat) (hi : i < 6) (hs : s.length ≤ 100) (ht : t.length ≤ 100) (m0 m1 m2 m3 m4 m5 : Int) :
    terrierlaw02_MacText_b0 great s t [sep] m (i : Int) m0 m1 m2 m3 m4 m5 = some (.inl (great, (if 0 < i then s ++ [58] else s) ++ [hexd false (m6at m i / 16), hexd false (m6at m i % 16)],
      (if 0 < i then t ++ [sep] else t) ++ [hexd (upB great i) (m6at m i / 16), hexd (upB great i) (m6at m i % 16)], [sep], m, (i : Int) + 1, m0, m1, m2, m3, m4, m5, ())) := by
  have ha := hm.at hi
  have w : IntKind.i64.wrap ((i : Int) + 1) = (i : Int) + 1 := by rw [i64_wrap]; omega
  unfold terrierlaw02_MacText_b0
  simp only [ltO_def]
  rw [decide_eq_true (by omega : (i : Int) < 6), cnd_true, chk_pos (by omega)]
  have e : [m.1, m.2.1, m.2.2.1, m.2.2.2.1, m.2.2.2.2.1, m.2.2.2.2.2].getD (i : Int).toNat 0 = m6at m i := by simp only [Int.toNat_natCast]
  rw [e, w, cnd_ite, pair_eq ha.1 ha.2 false, pair_eq ha.1 ha.2 (IntKind.u8.wrap (bandI IntKind.u8 (shrI IntKind.u8 great (i : Int)) 1) == 1)]
  simp only [bnd_val]
  by_cases hp : 0 < i
  · rw [if_pos (by simp; omega), if_pos hp, if_pos hp, chk_pos (by omega), chk_pos (by simp; omega), chk_pos (by simp; omega), chk_pos (by omega), chk_pos (by simp; omega)]
    rfl
  · rw [if_neg (by simp; omega), if_neg hp, if_neg hp, chk_pos (by simp; omega), chk_pos (by omega), chk_pos (by simp; omega)]
    rfl

def txU (great : Int) : Fin 6 → Bool := fun i => upB great i.val
theorem macText_loop {m : M6} (hm : M6ok m) (great : Int) (sep : UInt8) (m0 m1 m2 m3 m4 m5 : Int) :
    terrierlaw02_MacText_l0 (great, [], [], [sep], m, 0, m0, m1, m2, m3, m4, m5, ()) = some (.inl (lowT m, tx sep (txU great) m, m0, m1, m2, m3, m4, m5, ())) := by
  have L := loopM_steps (f := fun s : Int × (List UInt8) × (List UInt8) × (List UInt8) × (Int × Int × Int × Int × Int × Int) × Int × Int × Int × Int × Int × Int × Int × Unit => terrierlaw02_MacText_b0 s.1 s.2.1 s.2.2.1 s.2.2.2.1 s.2.2.2.2.1 s.2.2.2.2.2.1 s.2.2.2.2.2.2.1 s.2.2.2.2.2.2.2.1 s.2.2.2.2.2.2.2.2.1 s.2.2.2.2.2.2.2.2.2.1 s.2.2.2.2.2.2.2.2.2.2.1 s.2.2.2.2.2.2.2.2.2.2.2.1)
    (fun i => (great, (lowT m).take (3 * i - 1), (tx sep (txU great) m).take (3 * i - 1), [sep], m, (i : Int), m0, m1, m2, m3, m4, m5, ())) (a := 0) (n := 6) (by omega)
    (fun i h1 h2 => by
      show terrierlaw02_MacText_b0 great ((lowT m).take (3 * i - 1)) ((tx sep (txU great) m).take (3 * i - 1)) [sep] m (i : Int) m0 m1 m2 m3 m4 m5 = _
      rw [macText_body hm great _ _ sep i h2 (by simp; omega) (by simp; omega)]
      match i, h2 with
      | 0, _ => rfl
      | 1, _ => rfl
      | 2, _ => rfl
      | 3, _ => rfl
      | 4, _ => rfl
      | 5, _ => rfl)
  have L' : terrierlaw02_MacText_l0 (great, [], [], [sep], m, 0, m0, m1, m2, m3, m4, m5, ()) = _ := L
  rw [L', loopM_last (y := .inl (lowT m, tx sep (txU great) m, m0, m1, m2, m3, m4, m5, ()))]
  show terrierlaw02_MacText_b0 great ((lowT m).take (3 * 6 - 1)) ((tx sep (txU great) m).take (3 * 6 - 1)) [sep] m ((6 : Nat) : Int) m0 m1 m2 m3 m4 m5 = _
  unfold terrierlaw02_MacText_b0
  rw [decide_eq_false (by decide)]
  rfl

theorem macText_law {m : M6} (hm : M6ok m) (great : Int) (stroke : Bool) : terrierlaw02_MacText m great stroke = some (true, ()) := by
  unfold terrierlaw02_MacText
  have L := fun sep => macText_loop hm great sep m.1 m.2.1 m.2.2.1 m.2.2.2.1 m.2.2.2.2.1 m.2.2.2.2.2
  simp only [awake_eq, bnd_val, Bool.not_true, cnd_false, L, sumO_inl, chk_same, ltO_def, text_eq hm]
  rw [show mac_Parse (lowT m) = some (m, true, ()) from parse_tx 58 (.inl rfl) _ hm, parse_tx 58 (.inl rfl) _ hm, parse_tx 45 (.inr rfl) _ hm]
  cases stroke <;> simp [cnd, lowT]

theorem tx_inj {a b : M6} (ha : M6ok a) (hb : M6ok b) (h : lowT a = lowT b) : a = b := by
  have p := parse_tx 58 (.inl rfl) (fun _ => false) ha
  have q := parse_tx 58 (.inl rfl) (fun _ => false) hb
  have : mac_Parse (lowT a) = mac_Parse (lowT b) := by rw [h]
  unfold lowT at this
  rw [p, q] at this
  simp only [Option.some.injEq, Prod.mk.injEq, and_true] at this
  exact this

theorem macRound_law {a b : M6} (ha : M6ok a) (hb : M6ok b) : terrierlaw02_MacRound a b = some (true, ()) := by
  unfold terrierlaw02_MacRound
  simp only [awake_eq, bnd_val, bndG_val, Bool.not_true, cnd_false, chk_same, ltO_def, text_eq ha, text_eq hb]
  have e : (lowT a == lowT b) = (a == b) := by
    apply Bool.eq_iff_iff.2
    simp only [beq_iff_eq]
    exact ⟨tx_inj ha hb, fun h => by rw [h]⟩
  rw [e]
  have e2 : (a == b) = (a.1 == b.1 && (a.2.1 == b.2.1 && (a.2.2.1 == b.2.2.1 && (a.2.2.2.1 == b.2.2.2.1 && (a.2.2.2.2.1 == b.2.2.2.2.1 && a.2.2.2.2.2 == b.2.2.2.2.2))))) := rfl
  rw [← e2]
  simp [lowT, tx]

/-! ### Any text -/

def isD (c : UInt8) : Bool := (dgS (c.toNat : Int)).2
def wtP (x : List UInt8) (k : Nat) : Bool := (k % 3 == 2 && x.getD k 0 == x.getD 2 0) || (decide (k % 3 < 2) && isD (x.getD k 0))

theorem isD_eq (c : UInt8) : isD c = ((decide (((c.toNat : Nat) : Int) ≥ 48) && decide (((c.toNat : Nat) : Int) ≤ 57)) || (decide (((c.toNat : Nat) : Int) ≥ 97) && decide (((c.toNat : Nat) : Int) ≤ 102)) || (decide (((c.toNat : Nat) : Int) ≥ 65) && decide (((c.toNat : Nat) : Int) ≤ 70))) := by
  unfold isD dgS
  apply Bool.eq_iff_iff.2
  simp only [Bool.or_eq_true, Bool.and_eq_true, decide_eq_true_eq]
  split
  · simp; omega
  · split
    · simp; omega
    · split
      · simp; omega
      · simp; omega

theorem any_body {x : List UInt8} (hx : x.length = 17) (ok : Bool) (k : Nat) (hk : k < 17) (t1 t2 n0 n1 n2 n3 n4 n5 : Int) (xs : List (List UInt8)) :
    terrierlaw02_MacAny_b1 x ok true (k : Int) t1 t2 n0 n1 n2 n3 n4 n5 xs = some (.inl (x, ok, wtP x k, (k : Int) + 1, t1, t2, n0, n1, n2, n3, n4, n5, xs, ())) := by
  have w : IntKind.i64.wrap ((k : Int) + 1) = (k : Int) + 1 := by rw [i64_wrap]; omega
  have m : (k : Int).tmod 3 = ((k % 3 : Nat) : Int) := by rw [Int.tmod_eq_emod_of_nonneg (by omega)]; rfl
  unfold terrierlaw02_MacAny_b1
  simp only [ltO_def, chk_same, chk_nn, chk_and, w, m, hx, Int.toNat_natCast]
  rw [decide_eq_true (by omega : (k : Int) < ((17 : Int))), Bool.true_and, cnd_true]
  rw [chk_pos (by omega), chk_pos (by intro _; omega), chk_pos (by intro _; omega), chk_pos (by intro _; omega), chk_pos (by intro _; omega), chk_pos (by intro _; omega), chk_pos (by decide), chk_pos (by intro _; omega), chk_pos (by intro _; omega), chk_pos (by intro _; decide), u8i, ← isD_eq]
  have e : (((k % 3 : Nat) : Int) == 2 && x.getD k 0 == x.getD 2 0 || decide (((k % 3 : Nat) : Int) < 2) && isD (x.getD k 0)) = wtP x k := by
    unfold wtP
    have a : (((k % 3 : Nat) : Int) == 2) = (k % 3 == 2) := by apply Bool.eq_iff_iff.2; simp only [beq_iff_eq]; omega
    have b : decide (((k % 3 : Nat) : Int) < 2) = decide (k % 3 < 2) := by simp only [decide_eq_decide]; omega
    rw [a, b]
  rw [e]

theorem any_loop {x : List UInt8} (hx : x.length = 17) (ok : Bool) (t1 t2 n0 n1 n2 n3 n4 n5 : Int) (xs : List (List UInt8)) : ∀ (n k : Nat), k + n = 17 → ∀ w : Bool,
    terrierlaw02_MacAny_l1 (x, ok, w, (k : Int), t1, t2, n0, n1, n2, n3, n4, n5, xs, ()) = some (.inl (ok, w && (List.range' k n).all (wtP x), t1, t2, n0, n1, n2, n3, n4, n5, xs, ()))
  | 0, k, hk, w => by
    unfold terrierlaw02_MacAny_l1
    rw [loopM_last (y := .inl (ok, w && (List.range' k 0).all (wtP x), t1, t2, n0, n1, n2, n3, n4, n5, xs, ()))]
    show terrierlaw02_MacAny_b1 x ok w (k : Int) t1 t2 n0 n1 n2 n3 n4 n5 xs = _
    unfold terrierlaw02_MacAny_b1
    rw [decide_eq_false (by omega)]
    simp [ltO_def]
  | n + 1, k, hk, false => by
    unfold terrierlaw02_MacAny_l1
    rw [loopM_last (y := .inl (ok, false, t1, t2, n0, n1, n2, n3, n4, n5, xs, ()))]
    · simp
    show terrierlaw02_MacAny_b1 x ok false (k : Int) t1 t2 n0 n1 n2 n3 n4 n5 xs = _
    unfold terrierlaw02_MacAny_b1
    simp [ltO_def]
  | n + 1, k, hk, true => by
    have ih := any_loop hx ok t1 t2 n0 n1 n2 n3 n4 n5 xs n (k + 1) (by omega) (wtP x k)
    unfold terrierlaw02_MacAny_l1 at ih ⊢
    rw [loopM_next (any_body hx ok k (by omega) t1 t2 n0 n1 n2 n3 n4 n5 xs), List.range'_succ, List.all_cons, Bool.true_and]
    exact ih

theorem all_okP {x : List UInt8} (hx : x.length = 17) : ((x.getD 2 0 == 58 || x.getD 2 0 == 45) && (List.range' 0 17).all (wtP x)) = okP x := by
  unfold okP
  rw [hx]
  simp [List.range', wtP, cnP, isD, Bool.and_assoc]

theorem any_round (t37 : Int) (i : Nat) (xs : List (List UInt8)) (hi : i < xs.length) (h37 : t37 = (xs.length : Int)) (hb : xs.length ≤ 100) :
    terrierlaw02_MacAny_b0 t37 (i : Int) xs = some (.inl (t37, (i : Int) + 1, xs, ())) := by
  have w : IntKind.i64.wrap ((i : Int) + 1) = (i : Int) + 1 := by rw [i64_wrap]; omega
  unfold terrierlaw02_MacAny_b0
  rw [decide_eq_true (by omega : (i : Int) < t37), cnd_true, chk_pos (by omega), Int.toNat_natCast, chk_pos hi]
  generalize xs.getD i [] = x
  simp only [ltO_def, chk_same, chk_nn, chk_and, w, parse_eq, bnd_val]
  have hw : (((x.length : Nat) : Int) == 17 && ((((x.getD 2 0).toNat : Nat) : Int) == 58 || (((x.getD 2 0).toNat : Nat) : Int) == 45)) = (x.length == 17 && (x.getD 2 0 == 58 || x.getD 2 0 == 45)) := by
    have a := @u8i (x.getD 2 0) 58
    have b := @u8i (x.getD 2 0) 45
    rw [← a, ← b]
    have c : (((x.length : Nat) : Int) == 17) = (x.length == 17) := by apply Bool.eq_iff_iff.2; simp only [beq_iff_eq]; omega
    rw [c]; rfl
  rw [chk_pos (by intro h; simp at h ⊢; omega), chk_pos (by intro h; simp at h ⊢; omega)]
  rw [chk_pos (by intro h1 h2; rw [h1, h2]; rfl)]
  rw [hw]
  have key : ∀ (ok : Bool) (n0 n1 n2 n3 n4 n5 : Int), terrierlaw02_MacAny_l1 (x, ok, (x.length == 17 && (x.getD 2 0 == 58 || x.getD 2 0 == 45)), 0, t37, (i : Int), n0, n1, n2, n3, n4, n5, xs, ()) = some (.inl (ok, okP x, t37, (i : Int), n0, n1, n2, n3, n4, n5, xs, ())) := by
    intro ok n0 n1 n2 n3 n4 n5
    by_cases hx : x.length = 17
    · have := any_loop hx ok t37 i n0 n1 n2 n3 n4 n5 xs 17 0 rfl (x.length == 17 && (x.getD 2 0 == 58 || x.getD 2 0 == 45))
      rw [show (0 : Int) = ((0 : Nat) : Int) from rfl, this, ← all_okP hx]
      rw [show (x.length == 17) = true from by simp [hx], Bool.true_and]
    · have h2 : (x.length == 17) = false := by simp [hx]
      have h3 : okP x = false := by unfold okP; rw [h2]; rfl
      rw [h2, h3, Bool.false_and]
      unfold terrierlaw02_MacAny_l1
      rw [loopM_last (y := .inl (ok, false, t37, i, n0, n1, n2, n3, n4, n5, xs, ()))]
      show terrierlaw02_MacAny_b1 x ok false 0 t37 i n0 n1 n2 n3 n4 n5 xs = _
      unfold terrierlaw02_MacAny_b1
      simp [ltO_def]
  rw [key]
  cases okP x
  · simp only [bnd_val, sumO_inl, chk_same, Bool.false_eq_true, if_false, ltO_def]
    simp [w]
  · simp only [bnd_val, sumO_inl, chk_same, if_true, ltO_def]
    simp [w]

theorem macAny_law (s : List UInt8) {m : M6} (hm : M6ok m) {at' c : Int} (hat : by8 at') : terrierlaw02_MacAny s m at' c = some (true, ()) := by
  unfold terrierlaw02_MacAny
  have hl : (ofBytes (lowT m)).length = 17 := by simp [ofBytes, lowT, tx]
  have ht : at'.tmod 17 = at' % 17 := Int.tmod_eq_emod_of_nonneg hat.1
  simp only [awake_eq, bnd_val, Bool.not_true, cnd_false, text_eq hm, ltO_def, hl, ht]
  rw [show (((17 : Nat) : Int) != 17) = false from rfl, cnd_false, chk_pos (by decide), chk_pos (by omega), chk_pos (by omega), chk_pos (by simp [hl]), chk_pos (by simp [hl])]
  have G : ∀ (a b : List UInt8), terrierlaw02_MacAny_l0 ((([s, a, b].length : Nat) : Int), 0, [s, a, b], ()) = some (.inl ()) := by
    intro a b
    have L := loopM_steps (f := fun s : Int × Int × (List (List UInt8)) × Unit => terrierlaw02_MacAny_b0 s.1 s.2.1 s.2.2.1) (fun i => ((([s, a, b].length : Nat) : Int), (i : Int), [s, a, b], ())) (a := 0) (n := 3) (by omega) fun i _ hi => any_round _ i [s, a, b] hi rfl (by simp)
    have L' : terrierlaw02_MacAny_l0 ((([s, a, b].length : Nat) : Int), 0, [s, a, b], ()) = _ := L
    rw [L', loopM_last (y := .inl ())]
    show terrierlaw02_MacAny_b0 (([s, a, b].length : Nat) : Int) ((3 : Nat) : Int) [s, a, b] = _
    unfold terrierlaw02_MacAny_b0
    rw [decide_eq_false (by simp)]; rfl
  rw [G]; rfl

end Go.Tr
