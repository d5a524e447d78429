/- A part of the proof: contracts of functions of this program, by the evaluator. Conditions: none. -/
import Derived.Test.YthbkpjlimmckaaaTrY
import Derived.KernelRfl
import Derived.Test.YthbkpjlimmckaaaProg
namespace Go.Tr
open Go Go.Proofs
set_option maxRecDepth 4000
set_option linter.unusedSimpArgs false
set_option linter.unusedVariables false
theorem mix : Try.prog.follows .mixedOrders = true := by rfl
def digitV (c : Int) : Int × Bool := if 48 ≤ c ∧ c ≤ 57 then (c - 48, true) else if 65 ≤ c ∧ c ≤ 70 then (c - 55, true) else if 97 ≤ c ∧ c ≤ 102 then (c - 87, true) else (0, false)
theorem digit_ok (c : Int) (h0 : 0 ≤ c) (h1 : c < 256) : FnOK Try.prog 15 [.int .u8 c] (.tup [.int .u8 (digitV c).1, .bool (digitV c).2]) := by
  refine FnOK.of_ev (ctxP_ok (noP_ok _)) mix Try.func15 rfl (by decide) (by simp [AV.nms, AV.nm]) (by show 1 ≤ Try.f15.ntmps; decide) ?_
  repeat' (first | apply And.intro | intro _)
  all_goals refine ⟨?_⟩
  all_goals (try simp only [leA, leAs, Bool.and_eq_true, decide_eq_true_eq, Bool.and_eq_false_iff, decide_eq_false_iff_not, u8_wrap, AV.int.injEq, AV.bool.injEq, true_and, and_true] at *)
  all_goals first | omega | (unfold digitV; (repeat' split) <;> simp_all <;> omega) | skip
def digitT : List AV → Option (Prop × AV)
  | [.int .u8 c] => some (0 ≤ c ∧ c < 256, .tup [.int .u8 (digitV c).1, .bool (digitV c).2])
  | _ => none
def T1 : Pure := addP 15 digitT noP
theorem T1_ok : PureOK Try.prog T1 := by
  refine addP_ok (noP_ok _) fun args p r h => ?_
  unfold digitT at h
  split at h
  · simp only [Option.some.injEq, Prod.mk.injEq] at h
    obtain ⟨rfl, rfl⟩ := h
    exact ⟨fun hp => digit_ok _ hp.1 hp.2, by simp [AV.nm, AV.nms]⟩
  · simp at h
def gI (s : List UInt8) (i : Nat) : Int := ((s.getD i 0).toNat : Int)
def badR (s : List UInt8) (k : Nat) : Bool := !(digitV (gI s (3 * k))).2 || !(digitV (gI s (3 * k + 1))).2 || decide ((k : Int) < 5) && gI s (3 * k + 2) != gI s 2
def badL (s : List UInt8) : Bool := (s.length : Int) != 17 || gI s 2 != 58 && gI s 2 != 45
def macOk (s : List UInt8) : Bool := !badL s && !badR s 0 && !badR s 1 && !badR s 2 && !badR s 3 && !badR s 4 && !badR s 5
def macB (s : List UInt8) (k : Nat) : Int := if macOk s then (digitV (gI s (3 * k))).1 * 16 + (digitV (gI s (3 * k + 1))).1 else 0
def macV (s : List UInt8) : AV := .agg [.int .u8 (macB s 0), .int .u8 (macB s 1), .int .u8 (macB s 2), .int .u8 (macB s 3), .int .u8 (macB s 4), .int .u8 (macB s 5)]
def pv (s : List UInt8) (j k : Nat) : Int := if j < k then (digitV (gI s (3 * j))).1 * 16 + (digitV (gI s (3 * j + 1))).1 else 0
noncomputable def GP (s : List UInt8) (k : Nat) : Ga := ⟨[(24, .int .i64 k), (4, .ptr 15 0), (3, .bool false), (2, .ptr 0 0), (0, .str s)],
  [(15, some (.cells [.int .u8 (pv s 0 k), .int .u8 (pv s 1 k), .int .u8 (pv s 2 k), .int .u8 (pv s 3 k), .int .u8 (pv s 4 k), .int .u8 (pv s 5 k)])),
   (0, some (.cells [.int .u8 0, .int .u8 0, .int .u8 0, .int .u8 0, .int .u8 0, .int .u8 0]))], 17, Try.f10.ntmps⟩
theorem digit_lt (c : Int) : 0 ≤ (digitV c).1 ∧ (digitV c).1 < 16 := by
  unfold digitV
  (repeat' split) <;> simp <;> omega
theorem macOk_false (s : List UInt8) (k : Nat) (hk : k < 6) (h : badR s k = true) : macOk s = false := by
  have hc : k = 0 ∨ k = 1 ∨ k = 2 ∨ k = 3 ∨ k = 4 ∨ k = 5 := by omega
  rcases hc with rfl | rfl | rfl | rfl | rfl | rfl <;> simp [macOk, h]
theorem mac_none (s : List UInt8) (h : macOk s = false) : AV.tup [.agg [.int .u8 0, .int .u8 0, .int .u8 0, .int .u8 0, .int .u8 0, .int .u8 0], .bool false] = AV.tup [macV s, .bool (macOk s)] := by
  simp [macV, macB, h]
theorem mac_some (s : List UInt8) (hL : badL s = false) (hk : ∀ j, j < 6 → badR s j = false) : AV.tup [.agg [.int .u8 (pv s 0 6), .int .u8 (pv s 1 6), .int .u8 (pv s 2 6), .int .u8 (pv s 3 6), .int .u8 (pv s 4 6), .int .u8 (pv s 5 6)], .bool true] = AV.tup [macV s, .bool (macOk s)] := by
  have h : macOk s = true := by simp [macOk, hL, hk 0, hk 1, hk 2, hk 3, hk 4, hk 5]
  simp [macV, macB, h, pv]
theorem mac_bad (s : List UInt8) (hL : badL s = true) : macOk s = false := by simp [macOk, hL]
theorem less_succ (s : List UInt8) (k : Nat) (hk : ∀ j, j < k → badR s j = false) (h : badR s k = false) : ∀ j, j < k + 1 → badR s j = false := by
  intro j hj
  rcases Nat.lt_or_ge j k with h1 | h1
  · exact hk j h1
  · rw [show j = k by omega]; exact h
set_option maxHeartbeats 0
theorem parse_ok (s : List UInt8) (hl : s.length = 17) : FnOK Try.prog 10 [.str s] (.tup [macV s, .bool (macOk s)]) := by
  generalize hr : AV.tup [macV s, .bool (macOk s)] = r
  refine FnOK.of_ev (ctxP_ok T1_ok) mix Try.func10 rfl (by decide) (by simp [AV.nms, AV.nm]) (by show 1 ≤ Try.f10.ntmps; decide) ?_
  repeat' (first | (intro h; exact absurd h (by decide)) | apply And.intro | intro _ | refine Obe.mk ?_)
  any_goals (first | (refine Ob.mk ?_; with_reducible assumption) | (refine Ob.mk ?_; simp [hl]; done) | (refine Ob.mk ?_; simp_all; done))
  · rename_i hx; exact leA_of_eq (Eq.trans (mac_none s (mac_bad s hx)) hr)
  rename_i hL
  refine Looped.inv (ctxP_ok T1_ok) mix (GP s) (fun k => k ≤ 6 ∧ ∀ j, j < k → badR s j = false) (fun k => 6 - k) 0 some ?_ ?_ ?_
  · exact ⟨by omega, fun j hj => by omega⟩
  · refine SubG.of rfl rfl ?_ ?_ <;> (repeat' (first | apply And.intro | exact True.intro | exact Ob.mk rfl))
  rintro k ⟨h6, hk⟩
  have hc : k = 0 ∨ k = 1 ∨ k = 2 ∨ k = 3 ∨ k = 4 ∨ k = 5 ∨ k = 6 := by omega
  rcases hc with rfl | rfl | rfl | rfl | rfl | rfl | rfl
  all_goals (repeat' (first | (intro h; exact absurd h (by decide)) | apply And.intro | intro _ | refine Obe.mk ?_ | refine Obl.mk ?_))
  any_goals (first | with_reducible exact byte_of _ | (refine Ob.mk ?_; with_reducible assumption) | (with_reducible refine chk_of ?_; kernel_rfl) | skip)
  any_goals (first | (refine Ob.mk ?_; rw [hl]; decide) | (refine Ob.mk ?_; decide) | skip)
  any_goals (first | (refine Ob.mk ?_; simp_all; done) | skip)
  any_goals (first | (rename_i hx; exact leA_of_eq (Eq.trans (mac_none s (macOk_false s 0 (by decide) hx)) hr)) | (rename_i hx; exact leA_of_eq (Eq.trans (mac_none s (macOk_false s 1 (by decide) hx)) hr)) | (rename_i hx; exact leA_of_eq (Eq.trans (mac_none s (macOk_false s 2 (by decide) hx)) hr)) | (rename_i hx; exact leA_of_eq (Eq.trans (mac_none s (macOk_false s 3 (by decide) hx)) hr)) | (rename_i hx; exact leA_of_eq (Eq.trans (mac_none s (macOk_false s 4 (by decide) hx)) hr)) | (rename_i hx; exact leA_of_eq (Eq.trans (mac_none s (macOk_false s 5 (by decide) hx)) hr)) | skip)
  any_goals (first | (rename_i hx; refine ⟨_, some, ⟨?_, less_succ s _ hk hx⟩, ?_, SubG.of rfl rfl ?_ ?_⟩) | skip)
  any_goals (first | decide | skip)
  any_goals (repeat' (first | apply And.intro | exact True.intro))
  any_goals (first | (refine Ob.mk ?_; first | rfl | exact or4 (digit_lt _).1 (digit_lt _).2 (digit_lt _).1 (digit_lt _).2) | skip)
  exact leA_of_eq (Eq.trans (mac_some s hL hk) hr)
theorem parse_short (s : List UInt8) (hl : ¬ s.length = 17) : FnOK Try.prog 10 [.str s] (.tup [macV s, .bool (macOk s)]) := by
  have hb : ((s.length : Int) != 17) = true := by simp; omega
  have hL : macOk s = false := by simp [macOk, badL, hb]
  generalize hr : AV.tup [macV s, .bool (macOk s)] = r
  refine FnOK.of_ev (ctxP_ok T1_ok) mix Try.func10 rfl (by decide) (by simp [AV.nms, AV.nm]) (by show 1 ≤ Try.f10.ntmps; decide) ?_
  repeat' (first | (intro h; exact absurd h (by decide)) | (intro h; rw [hb] at h; simp at h; done) | apply And.intro | intro _ | refine Obe.mk ?_)
  any_goals (first | (refine Ob.mk ?_; with_reducible assumption) | (refine Ob.mk ?_; simp_all; done))
  exact leA_of_eq (Eq.trans (mac_none s hL) hr)
theorem parse_all (s : List UInt8) : FnOK Try.prog 10 [.str s] (.tup [macV s, .bool (macOk s)]) := by
  by_cases hl : s.length = 17
  · exact parse_ok s hl
  · exact parse_short s hl
end Go.Tr
