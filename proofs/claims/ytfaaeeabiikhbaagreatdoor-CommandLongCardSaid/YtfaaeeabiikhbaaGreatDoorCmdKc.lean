/- What numbers make of a command; the statements' examples. A command's text means its event. The statements of commands hold of the printed functions. The statements of commands hold of the printed functions: which texts are one, what is too long, what a text means. Conditions: none but those that each theorem states. -/
import Derived.Test.YtfaaeeabiikhbaaGreatDoorCmdKb
import Derived.Test.YtfaaeeabiikhbaaGreatDoorAddrT
import Derived.Test.YtfaaeeabiikhbaaGreatDoorMacS
import Derived.KernelRfl
namespace Go.Tr
open Go
set_option linter.unusedVariables false
set_option linter.unusedSimpArgs false
set_option maxRecDepth 100000
set_option maxHeartbeats 4000000
def AllLe (B : Nat) (l : List (List UInt8)) : Prop := ∀ w ∈ l, w.length ≤ B
theorem AllLe.app {B : Nat} {l m : List (List UInt8)} (h : AllLe B l) (k : AllLe B m) : AllLe B (l ++ m) := fun w hw => (List.mem_append.1 hw).elim (h w) (k w)
theorem AllLe.one {B : Nat} {w : List UInt8} (h : w.length ≤ B) : AllLe B [w] := fun x hx => by simp at hx; subst hx; exact h
theorem AllLe.set {B : Nat} {l : List (List UInt8)} (h : AllLe B l) {i : Nat} {w : List UInt8} (k : w.length ≤ B) : AllLe B (l.set i w) := fun x hx => by
  rcases List.mem_or_eq_of_mem_set hx with hx | rfl
  · exact h x hx
  · exact k
theorem AllLe.slice {B : Nat} {l : List (List UInt8)} (h : AllLe B l) (i j : Nat) : AllLe B (sliceA i j l) := fun x hx => h x (List.mem_of_mem_drop (List.mem_of_mem_take hx))
abbrev TSay : Type := Int × Int × Int × Int × Int × Int × List UInt8
structure SayOk (B : Nat) (s : TSay) : Prop where
  w : 0 ≤ s.1 ∧ s.1 ≤ 255
  a : in32 s.2.1
  b : 0 ≤ s.2.2.1 ∧ s.2.2.1 ≤ 255
  o : 0 ≤ s.2.2.2.1 ∧ s.2.2.2.1 ≤ 255
  m : 0 ≤ s.2.2.2.2.1 ∧ s.2.2.2.2.1 ≤ 255
  p : 0 ≤ s.2.2.2.2.2.1 ∧ s.2.2.2.2.2.1 ≤ 255
  t : s.2.2.2.2.2.2.length ≤ B
theorem zMac_ok' : M6ok zMac := ⟨⟨by decide, by decide⟩, ⟨by decide, by decide⟩, ⟨by decide, by decide⟩, ⟨by decide, by decide⟩, ⟨by decide, by decide⟩, ⟨by decide, by decide⟩⟩
def StM (m : TMac) : Prop := m = zMac ∨ ∃ k, 1 ≤ k ∧ k ≤ 3 ∧ m = (2, 0, 0, 0, 0, k)
theorem StM.ok {m : TMac} (h : StM m) : M6ok m := by
  rcases h with rfl | ⟨k, h1, h2, rfl⟩
  · exact zMac_ok'
  · constructor <;> (unfold by8; dsimp only; omega)
theorem station_S {n : Int} (h : 0 ≤ n) : ∃ m, terrierlaw11_Station n = some (m, ()) ∧ StM m := by
  unfold terrierlaw11_Station
  cases decide (n ≥ 128)
  · simp only [cnd_false, ltO_def]
    rw [chk_pos (by decide)]
    have e : n.tmod 3 = n % 3 := Int.tmod_eq_emod_of_nonneg h
    rw [e, wu8 (by omega) (by omega)]
    exact ⟨_, rfl, .inr ⟨1 + n % 3, by omega, by omega, rfl⟩⟩
  · exact ⟨_, rfl, .inl rfl⟩
def abc : List UInt8 := [97, 98, 99, 100, 101, 102, 103, 104]
structure SayE (e : TEv) : Prop where
  k : e.1 = 1 ∨ e.1 = 2 ∨ e.1 = 3 ∨ e.1 = 4 ∨ e.1 = 6 ∨ e.1 = 7
  b : e.1 = 3 ∨ e.1 = 4 → BlkOK e.2.2.1 ∧ e.2.1 = zHold
  h : ¬ (e.1 = 3 ∨ e.1 = 4) → e.2.2.1 = (0, 0)
  a : in32 e.2.1.1
  m : StM e.2.1.2.2
  o : e.1 = 1 → ∃ n, 1 ≤ n ∧ n ≤ 8 ∧ e.2.1.2.1 = abc.take n
  z : e.1 ≠ 1 → e.2.1.2 = ([], zMac)
  r : e.2.2.2 = (0, zMac, 0)
theorem say_ok {B : Nat} {s : TSay} (h : SayOk B s) : ∃ e, terrierlaw17_Say_Event s = some (e, ()) ∧ SayE e := by
  unfold terrierlaw17_Say_Event
  simp only [ltO_def, chk_same, chk_nn]
  have hw := h.w
  have ho := h.o
  rw [chk_pos (by decide), Int.tmod_eq_emod_of_nonneg hw.1, chk_pos (by omega), chk_pos (by omega)]
  have hk : ∀ i : Fin 6, ([1, 2, 3, 4, 6, 7] : List Int).getD i.val 0 = 1 ∨ ([1, 2, 3, 4, 6, 7] : List Int).getD i.val 0 = 2 ∨ ([1, 2, 3, 4, 6, 7] : List Int).getD i.val 0 = 3 ∨ ([1, 2, 3, 4, 6, 7] : List Int).getD i.val 0 = 4 ∨ ([1, 2, 3, 4, 6, 7] : List Int).getD i.val 0 = 6 ∨ ([1, 2, 3, 4, 6, 7] : List Int).getD i.val 0 = 7 := by decide
  have hk' := hk ⟨(s.1 % 6).toNat, by omega⟩
  simp only at hk'
  generalize ([1, 2, 3, 4, 6, 7] : List Int).getD (s.1 % 6).toNat 0 = w at hk'
  obtain ⟨m, hm, hmk⟩ := station_S h.m.1
  rw [Block_eq h.a h.b.1, bnd_val, hm, bnd_val, chk_pos (by decide), Int.tmod_eq_emod_of_nonneg ho.1, wu8 (by omega) (by omega), chk_pos (by omega)]
  have hB := bB_ok h.a h.b.1
  have z32 : in32 0 := ⟨by decide, by decide⟩
  rcases hk' with rfl | rfl | rfl | rfl | rfl | rfl
  · refine ⟨_, rfl, ⟨.inl rfl, fun hh => ?_, fun _ => rfl, h.a, hmk, fun _ => ⟨(1 + s.2.2.2.1 % 8).toNat, by omega, by omega, ?_⟩, fun hh => absurd rfl hh, rfl⟩⟩
    · rcases hh with hh | hh <;> (have : (1 : Int) = _ := hh; omega)
    · show sliceA 0 (1 + s.2.2.2.1 % 8).toNat abc = _
      unfold sliceA
      simp
  · exact ⟨_, rfl, ⟨.inr (.inl rfl), fun hh => by rcases hh with hh | hh <;> (have : (2 : Int) = _ := hh; omega), fun _ => rfl, h.a, .inl rfl, fun hh => by have : (2 : Int) = 1 := hh; omega, fun _ => rfl, rfl⟩⟩
  · exact ⟨_, rfl, ⟨.inr (.inr (.inl rfl)), fun _ => ⟨hB, rfl⟩, fun hh => absurd (.inl rfl) hh, z32, .inl rfl, fun hh => by have : (3 : Int) = 1 := hh; omega, fun _ => rfl, rfl⟩⟩
  · exact ⟨_, rfl, ⟨.inr (.inr (.inr (.inl rfl))), fun _ => ⟨hB, rfl⟩, fun hh => absurd (.inr rfl) hh, z32, .inl rfl, fun hh => by have : (4 : Int) = 1 := hh; omega, fun _ => rfl, rfl⟩⟩
  · exact ⟨_, rfl, ⟨.inr (.inr (.inr (.inr (.inl rfl)))), fun hh => by rcases hh with hh | hh <;> (have : (6 : Int) = _ := hh; omega), fun _ => rfl, h.a, .inl rfl, fun hh => by have : (6 : Int) = 1 := hh; omega, fun _ => rfl, rfl⟩⟩
  · exact ⟨_, rfl, ⟨.inr (.inr (.inr (.inr (.inr rfl)))), fun hh => by rcases hh with hh | hh <;> (have : (7 : Int) = _ := hh; omega), fun _ => rfl, h.a, .inl rfl, fun hh => by have : (7 : Int) = 1 := hh; omega, fun _ => rfl, rfl⟩⟩
theorem SayE.ev {e : TEv} (h : SayE e) : EvOk e := by
  refine ⟨h.a, h.m.ok, ?_, ?_, fun hh => ?_⟩
  · by_cases h1 : e.1 = 1
    · obtain ⟨n, _, _, hn⟩ := h.o h1
      rw [hn]; simp [abc]; omega
    · rw [h.z h1]; simp
  · by_cases hb : e.1 = 3 ∨ e.1 = 4
    · exact (h.b hb).1.i
    · rw [h.h hb]; exact ⟨by decide, by decide⟩
  · have := (h.b hh).1.n
    unfold bo; omega
end Go.Tr
namespace Go.Tr
open Go
set_option linter.unusedVariables false
set_option linter.unusedSimpArgs false
set_option maxRecDepth 100000
set_option maxHeartbeats 4000000
theorem ds_no32 {u : Nat} (h : u < 1000) : (32 : UInt8) ∉ ds u := by
  have D : ∀ n : Fin 1000, (32 : UInt8) ∉ ds n.val := by decide +kernel
  exact D ⟨u, h⟩
theorem adT_no32 {a : Int} : (32 : UInt8) ∉ adT a := by
  unfold adT
  have p := fun i => ds_no32 (u := pt a i) (by have := @pt_lt a i; omega)
  simp only [List.mem_append, List.mem_cons, not_or]
  exact ⟨p 3, by decide, p 2, by decide, p 1, by decide, p 0⟩
theorem bt_no32 {b : Int × Int} (h : b.2 ≤ 32) : (32 : UInt8) ∉ bt b := by
  unfold bt
  simp only [List.mem_append, List.mem_cons, not_or]
  exact ⟨adT_no32, by decide, ds_no32 (by omega)⟩
theorem hexd_no32 : ∀ n : Fin 16, hexd false (n.val : Int) ≠ 32 := by decide +kernel
theorem hx {a : Int} (h0 : 0 ≤ a) (h1 : a < 16) : (32 : UInt8) ≠ hexd false a := by
  have := hexd_no32 ⟨a.toNat, by omega⟩
  simp only [Int.toNat_of_nonneg h0] at this
  exact this.symm
theorem lowT_no32 {m : M6} (hm : M6ok m) : (32 : UInt8) ∉ lowT m := by
  obtain ⟨⟨a1, a2⟩, ⟨b1, b2⟩, ⟨c1, c2⟩, ⟨d1, d2⟩, ⟨e1, e2⟩, ⟨f1, f2⟩⟩ := hm
  unfold lowT tx
  simp only [List.mem_cons, List.not_mem_nil, not_or, or_false]
  refine ⟨hx (by omega) (by omega), hx (by omega) (by omega), by decide, hx (by omega) (by omega), hx (by omega) (by omega), by decide, hx (by omega) (by omega), hx (by omega) (by omega), by decide, hx (by omega) (by omega), hx (by omega) (by omega), by decide, hx (by omega) (by omega), hx (by omega) (by omega), by decide, hx (by omega) (by omega), hx (by omega) (by omega)⟩
theorem low_rd {m : M6} (hm : M6ok m) : okP (lowT m) = true ∧ macP (lowT m) = m := by
  have p := parse_tx 58 (.inl rfl) (fun _ => false) hm
  rw [parse_eq] at p
  have p' : (if okP (lowT m) = true then ((vlP (lowT m) 0, vlP (lowT m) 1, vlP (lowT m) 2, vlP (lowT m) 3, vlP (lowT m) 4, vlP (lowT m) 5), true, ()) else ((0, 0, 0, 0, 0, 0), false, ())) = (m, true, ()) := Option.some.inj p
  cases h : okP (lowT m) with
  | true => rw [h, if_pos rfl] at p'; exact ⟨rfl, congrArg Prod.fst p'⟩
  | false => rw [h] at p'; simp at p'
structure CmdE (e : TEv) : Prop where
  k : e.1 = 1 ∨ e.1 = 2 ∨ e.1 = 3 ∨ e.1 = 4 ∨ e.1 = 6 ∨ e.1 = 7
  b : e.1 = 3 ∨ e.1 = 4 → in32 e.2.2.1.1 ∧ rB e.2.2.1 = true ∧ bo e.2.2.1.2 ∧ e.2.1 = zHold
  h : ¬ (e.1 = 3 ∨ e.1 = 4) → e.2.2.1 = (0, 0)
  a : in32 e.2.1.1
  o : e.1 = 1 → mayS e.2.1.2.1 = true ∧ (e.2.1.2.2 = zMac ∨ M6ok e.2.1.2.2 ∧ e.2.1.2.2 ≠ zMac ∧ e.2.1.2.2.1 % 2 ≠ 1)
  z : e.1 ≠ 1 → e.2.1.2 = ([], zMac)
  r : e.2.2.2 = (0, zMac, 0)
theorem may_no32 {o : List UInt8} (h : mayS o = true) : (32 : UInt8) ∉ o := by
  unfold mayS at h
  simp only [Bool.and_eq_true, List.all_eq_true] at h
  intro hm
  have := h.1 32 hm
  revert this; decide
theorem word_no32 (w : Int) : (32 : UInt8) ∉ wordS w := by
  unfold wordS
  repeat' split
  all_goals decide
theorem wordN_S {w : Int} (h : w = 1 ∨ w = 2 ∨ w = 3 ∨ w = 4 ∨ w = 6 ∨ w = 7) : wordN (wordS w) = w := by
  rcases h with rfl | rfl | rfl | rfl | rfl | rfl <;> rfl
theorem okM_low {m : M6} (h : M6ok m) (h1 : m ≠ zMac) (h2 : m.1 % 2 ≠ 1) : okM (lowT m) = true ∧ macP (lowT m) = m := by
  obtain ⟨a, b⟩ := low_rd h
  refine ⟨?_, b⟩
  have b' : (vlP (lowT m) 0, vlP (lowT m) 1, vlP (lowT m) 2, vlP (lowT m) 3, vlP (lowT m) 4, vlP (lowT m) 5) = m := b
  unfold okM
  rw [a, b', show vlP (lowT m) 0 = m.1 from congrArg Prod.fst b']
  have c1 : (m == ((0, 0, 0, 0, 0, 0) : M6)) = false := beq_eq_false_iff_ne.2 h1
  have c2 : (m.1 % 2 == 1) = false := beq_eq_false_iff_ne.2 h2
  rw [c1, c2]; rfl
theorem text_rd {e : TEv} (h : CmdE e) : cmdP (splitC 32 (cmdT e)) = (e, 0, 0) := by
  obtain ⟨w, ⟨a, o, m⟩, b, r⟩ := e
  have hr := h.r
  simp only at hr
  subst hr
  have hk := h.k
  have ha := h.a
  simp only at hk ha
  unfold cmdT
  dsimp only
  by_cases hb : w = 3 ∨ w = 4
  · obtain ⟨b1, b2, b3, b4⟩ := h.b hb
    simp only at b1 b2 b3 b4
    have s1 : splitC 32 (wordS w ++ [32] ++ bt b) = [wordS w, bt b] := by
      rw [List.append_assoc, show ([32] ++ bt b : List UInt8) = 32 :: bt b from rfl, splitC_app _ (word_no32 w), splitC_none (bt_no32 b3.2)]
    have e0 : ([wordS w, bt b] : List (List UInt8)).getD 0 [] = wordS w := rfl
    have e1 : ([wordS w, bt b] : List (List UInt8)).getD 1 [] = bt b := rfl
    rw [if_pos hb, s1]
    unfold cmdP
    rw [e0, e1, wordN_S hk, if_neg (by omega), if_neg (by omega), if_neg (by simp), if_neg (by simp), if_pos hb, rd_bt b1 b2, b4]
  · have hb0 := h.h hb
    simp only at hb0
    subst hb0
    rw [if_neg hb]
    by_cases h1 : w = 1
    · obtain ⟨o1, o2⟩ := h.o h1
      simp only at o1 o2
      subst h1
      rw [if_pos rfl]
      by_cases hm : m = (0, 0, 0, 0, 0, 0)
      · subst hm
        rw [if_pos rfl]
        have s1 : splitC 32 (wordS 1 ++ [32] ++ adT a ++ [32] ++ o) = [wordS 1, adT a, o] := by
          rw [List.append_assoc, List.append_assoc, List.append_assoc, show ([32] ++ (adT a ++ ([32] ++ o)) : List UInt8) = 32 :: (adT a ++ 32 :: o) from rfl, splitC_app _ (word_no32 1), splitC_app _ adT_no32, splitC_none (may_no32 o1)]
        have e0 : ([wordS 1, adT a, o] : List (List UInt8)).getD 0 [] = wordS 1 := rfl
        have e1 : ([wordS 1, adT a, o] : List (List UInt8)).getD 1 [] = adT a := rfl
        have e2 : ([wordS 1, adT a, o] : List (List UInt8)).getD 2 [] = o := rfl
        rw [s1]
        unfold cmdP
        rw [e0, e1, e2, wordN_S hk, if_neg (by decide), if_pos rfl, if_neg (by simp), if_neg (by simp), rd_adT ha]
        dsimp only
        rw [if_neg (by simp [o1]), if_neg (by simp)]
      · rcases o2 with o2 | ⟨o2, o3, o4⟩
        · exact absurd o2 hm
        rw [if_neg hm]
        have s1 : splitC 32 (wordS 1 ++ [32] ++ adT a ++ [32] ++ o ++ [32] ++ lowT m) = [wordS 1, adT a, o, lowT m] := by
          rw [List.append_assoc, List.append_assoc, List.append_assoc, List.append_assoc, List.append_assoc, show ([32] ++ (adT a ++ ([32] ++ (o ++ ([32] ++ lowT m)))) : List UInt8) = 32 :: (adT a ++ 32 :: (o ++ 32 :: lowT m)) from rfl, splitC_app _ (word_no32 1), splitC_app _ adT_no32, splitC_app _ (may_no32 o1), splitC_none (lowT_no32 o2)]
        have e0 : ([wordS 1, adT a, o, lowT m] : List (List UInt8)).getD 0 [] = wordS 1 := rfl
        have e1 : ([wordS 1, adT a, o, lowT m] : List (List UInt8)).getD 1 [] = adT a := rfl
        have e2 : ([wordS 1, adT a, o, lowT m] : List (List UInt8)).getD 2 [] = o := rfl
        have e3 : ([wordS 1, adT a, o, lowT m] : List (List UInt8)).getD 3 [] = lowT m := rfl
        obtain ⟨m1, m2⟩ := okM_low o2 o3 o4
        rw [s1]
        unfold cmdP
        rw [e0, e1, e2, e3, wordN_S hk, if_neg (by decide), if_pos rfl, if_neg (by simp), if_neg (by simp), rd_adT ha]
        dsimp only
        rw [if_neg (by simp [o1]), if_pos (by simp), if_pos m1, m2]
    · have hz := h.z h1
      simp only [Prod.mk.injEq] at hz
      obtain ⟨rfl, rfl⟩ := hz
      rw [if_neg h1, if_pos (by omega)]
      have s1 : splitC 32 (wordS w ++ [32] ++ adT a) = [wordS w, adT a] := by
        rw [List.append_assoc, show ([32] ++ adT a : List UInt8) = 32 :: adT a from rfl, splitC_app _ (word_no32 w), splitC_none adT_no32]
      have e0 : ([wordS w, adT a] : List (List UInt8)).getD 0 [] = wordS w := rfl
      have e1 : ([wordS w, adT a] : List (List UInt8)).getD 1 [] = adT a := rfl
      rw [s1]
      unfold cmdP
      rw [e0, e1, wordN_S hk, if_neg (by omega), if_neg (by omega), if_neg (by simp), if_neg (by simp), if_neg hb, rd_adT ha]
theorem cmdT_len {e : TEv} (h : CmdE e) : (cmdT e).length ≤ 60 := by
  have hw := wordS_len e.1
  have ha := adT_len e.2.1.1
  have hb := bt_len e.2.2.1
  have hl := lowT_len e.2.1.2.2
  have hw1 := wordS_len 1
  have ho : e.1 = 1 → e.2.1.2.1.length ≤ 8 := fun h1 => by
    have := (h.o h1).1
    unfold mayS at this
    simp only [Bool.and_eq_true, decide_eq_true_eq] at this
    exact this.2.2
  unfold cmdT
  repeat' split
  all_goals (simp only [List.length_append, List.length_cons, List.length_nil])
  all_goals first
    | omega
    | (have := ho (by assumption); omega)
end Go.Tr
namespace Go.Tr
open Go
set_option linter.unusedVariables false
set_option linter.unusedSimpArgs false
set_option maxRecDepth 100000
set_option maxHeartbeats 4000000
def lit1 : List UInt8 := [104, 111, 108, 100, 32, 49, 48, 46, 48, 46, 48, 46, 49, 32, 97, 110, 110, 32, 48, 50, 58, 48, 48, 58, 48, 48, 58, 48, 48, 58, 48, 48, 58, 48, 49]
def lit2 : List UInt8 := [104, 111, 108, 100, 32, 49, 48, 46, 48, 46, 48, 46, 49, 32, 65, 110, 110]
def evA : TEv := (1, (167772161, [97, 110, 110], (2, 0, 0, 0, 0, 1)), (0, 0), 0, zMac, 0)
theorem evA_ok : CmdE evA := by
  refine ⟨.inl rfl, fun h => by rcases h with h | h <;> (have : (1 : Int) = _ := h; omega), fun _ => rfl, ⟨by decide, by decide⟩, fun _ => ⟨by decide, .inr ⟨by constructor <;> (unfold by8 evA; dsimp only; omega), by intro h; have : (2 : Int) = 0 := congrArg Prod.fst h; omega, by decide⟩⟩, fun h => absurd rfl h, rfl⟩
theorem CmdE.ev {e : TEv} (h : CmdE e) : EvOk e := by
  refine ⟨h.a, ?_, ?_, ?_, fun hh => (h.b hh).2.2.1⟩
  · by_cases h1 : e.1 = 1
    · rcases (h.o h1).2 with hm | hm
      · rw [hm]; exact zMac_ok'
      · exact hm.1
    · rw [h.z h1]; exact zMac_ok'
  · by_cases h1 : e.1 = 1
    · have := (h.o h1).1
      unfold mayS at this
      simp only [Bool.and_eq_true, decide_eq_true_eq] at this
      omega
    · rw [h.z h1]; simp
  · by_cases hb : e.1 = 3 ∨ e.1 = 4
    · exact (h.b hb).1
    · rw [h.h hb]; exact ⟨by decide, by decide⟩
theorem Parse_text {e : TEv} (h : CmdE e) : command_Parse (cmdT e) = some (e, .nil, ()) := by
  obtain ⟨⟨y1, y2, ⟨⟩⟩, hy, h1, h2⟩ := Parse_ok (s := cmdT e) (by have := cmdT_len h; omega)
  rw [text_rd h] at h1 h2
  rcases h2 with ⟨_, _, h2⟩ | ⟨h2, _⟩
  · simp only at h1 h2
    rw [hy, h1, h2]
  · rcases h2 with h2 | h2 <;> (have : (0 : Int) = _ := h2; omega)
theorem lit1_eq : lit1 = cmdT evA := by decide +kernel
theorem lit2_eq : cmdP (splitC 32 lit2) = (zEv, 2, 3) := by kernel_rfl
theorem awake17 : terrierlaw17_awake = some (true, ()) := by
  have p1 : command_Parse lit1 = some (evA, .nil, ()) := by rw [lit1_eq]; exact Parse_text evA_ok
  obtain ⟨⟨y1, y2, ⟨⟩⟩, hy, h1, h2⟩ := Parse_ok (s := lit2) (by decide)
  rw [lit2_eq] at h1 h2
  have : ∃ q, y2 = eAt 2 (eCmd q (eNum 3)) := by
    rcases h2 with ⟨h2, _⟩ | ⟨_, _, h2⟩
    · have : (3 : Int) = 0 := h2; omega
    · exact h2
  obtain ⟨q, rfl⟩ := this
  show bnd (command_Parse lit1) _ = _
  rw [p1, bnd_val]
  show bnd (command_Parse lit2) _ = _
  rw [hy, bnd_val, where_ok (fault_ok ⟨by decide, by decide⟩ ⟨by decide, by decide⟩), bnd_val]
  simp only [cmd_eq evA_ok.ev, bndG_val, chk_same, ltO_def, ← lit1_eq, at_at, no_at, no_cmd, no_num, errN_nil]
  rfl
end Go.Tr
namespace Go.Tr
open Go
set_option linter.unusedVariables false
set_option linter.unusedSimpArgs false
set_option maxRecDepth 100000
set_option maxHeartbeats 4000000
def ones (w : List UInt8) (k : Nat) : List UInt8 := w ++ List.replicate k 49
theorem long_loop {n : Nat} {w : List UInt8} (hw : w.length ≤ 1000) : terrierlaw17_CommandLong_l0 ((n : Int), w, 0, ()) = some (.inl (ones w (n % 400), ())) := by
  unfold terrierlaw17_CommandLong_l0
  have hm : (n : Int).tmod 400 = ((n % 400 : Nat) : Int) := by rw [Int.tmod_eq_emod_of_nonneg (by omega)]; omega
  have S := loopM_steps (f := fun s : Int × (List UInt8) × Int × Unit => terrierlaw17_CommandLong_b0 s.1 s.2.1 s.2.2.1) (fun i => ((n : Int), ones w i, (i : Int), ())) (a := 0) (n := n % 400) (Nat.zero_le _) (fun i _ hi => by
    show terrierlaw17_CommandLong_b0 (n : Int) (ones w i) (i : Int) = _
    unfold terrierlaw17_CommandLong_b0
    have hl : (ones w i).length = w.length + i := by unfold ones; simp
    rw [chk_pos (by decide), hm]
    simp only [ltO_def]
    rw [w64 (n := ((n % 400 : Nat) : Int)) (by omega) (by omega), decide_eq_true (by omega), cnd_true, chk_pos (by omega), w64 (by omega) (by omega)]
    have : ones w i ++ [49] = ones w (i + 1) := by unfold ones; rw [List.replicate_succ', List.append_assoc]
    rw [this]
    rfl)
  have S' : loopM (fun s : Int × (List UInt8) × Int × Unit => terrierlaw17_CommandLong_b0 s.1 s.2.1 s.2.2.1) ((n : Int), ones w 0, ((0 : Nat) : Int), ()) = _ := S
  rw [show ((n : Int), w, (0 : Int), ()) = ((n : Int), ones w 0, ((0 : Nat) : Int), ()) from by simp [ones], S']
  refine loopM_last ?_
  show terrierlaw17_CommandLong_b0 (n : Int) (ones w (n % 400)) ((n % 400 : Nat) : Int) = _
  unfold terrierlaw17_CommandLong_b0
  rw [chk_pos (by decide), hm]
  simp only [ltO_def]
  rw [w64 (n := ((n % 400 : Nat) : Int)) (by omega) (by omega), decide_eq_false (by omega), cnd_false]
theorem ones_split (w : Int) (k : Nat) : splitC 32 (ones (wordS w ++ [32]) k) = [wordS w, List.replicate k 49] := by
  unfold ones
  rw [List.append_assoc, show ([32] ++ List.replicate k 49 : List UInt8) = 32 :: List.replicate k 49 from rfl, splitC_app _ (word_no32 w), splitC_none (by
    intro h
    have := List.eq_of_mem_replicate h
    revert this; decide)]
theorem ones_rd (k : Nat) : rdA (List.replicate k 49) = none ∧ rdB (List.replicate k 49) = none := by
  have n46 : (46 : UInt8) ∉ List.replicate k (49 : UInt8) := by
    intro h
    have := List.eq_of_mem_replicate h
    revert this; decide
  have n47 : (47 : UInt8) ∉ List.replicate k (49 : UInt8) := by
    intro h
    have := List.eq_of_mem_replicate h
    revert this; decide
  constructor
  · unfold rdA; rw [splitC_none n46]
  · unfold rdB; rw [cut_none n47]
theorem commandLong_law {B : Nat} {n : Int} {s : TSay} (hn : 0 ≤ n) (hs : SayOk B s) : terrierlaw17_CommandLong n s = some (true, ()) := by
  obtain ⟨m, rfl⟩ : ∃ m : Nat, n = m := ⟨n.toNat, by omega⟩
  obtain ⟨e, he, hs2⟩ := say_ok hs
  unfold terrierlaw17_CommandLong
  rw [awake17, bnd_val, Bool.not_true, cnd_false, words_eq, bnd_val, he, bnd_val]
  dsimp only
  have hk := hs2.k
  have hwd : wds.getD e.1.toNat [] = wordS e.1 := by rcases hk with h | h | h | h | h | h <;> rw [h] <;> rfl
  have hwl := wordS_len e.1
  rw [chk_pos (by show 0 ≤ e.1 ∧ e.1 < 8; omega), chk_pos (by show e.1.toNat < 8; omega), hwd, chk_pos (by omega), ltO_def, long_loop (by simp; omega), bnd_val, sumO_inl]
  dsimp only
  have hl : (ones (wordS e.1 ++ [32]) (m % 400)).length ≤ 1000 := by unfold ones; simp; omega
  by_cases h : 200 < (ones (wordS e.1 ++ [32]) (m % 400)).length
  · obtain ⟨q, hq⟩ := Parse_long h (by omega)
    rw [hq, bnd_val, where_ok (ok_cmd num_ne (ok_num ⟨by decide, by decide⟩)), bnd_val, decide_eq_true (by omega), cnd_true]
    simp only [ltO_def, chk_same, at_cmd, at_num, no_cmd, no_num]
    rfl
  · obtain ⟨⟨y1, y2, ⟨⟩⟩, hy, h1, h2⟩ := Parse_ok (s := ones (wordS e.1 ++ [32]) (m % 400)) (by omega)
    have hc : (cmdP (splitC 32 (ones (wordS e.1 ++ [32]) (m % 400)))).2.2 = 1 ∧ 0 ≤ (cmdP (splitC 32 (ones (wordS e.1 ++ [32]) (m % 400)))).2.1 := by
      rw [ones_split]
      obtain ⟨r1, r2⟩ := ones_rd (m % 400)
      generalize List.replicate (m % 400) (49 : UInt8) = l at r1 r2
      have e0 : ([wordS e.1, l] : List (List UInt8)).getD 0 [] = wordS e.1 := rfl
      have e1 : ([wordS e.1, l] : List (List UInt8)).getD 1 [] = l := rfl
      unfold cmdP
      rw [e0, e1, wordN_S hk, r1, r2, if_neg (by omega)]
      by_cases h1 : e.1 = 1
      · rw [if_pos h1, if_pos (by simp)]; exact ⟨rfl, by simp⟩
      · rw [if_neg h1, if_neg (by simp), if_neg (by simp)]
        split <;> exact ⟨rfl, by show (0 : Int) ≤ 1; decide⟩
    rcases h2 with ⟨h2, _⟩ | ⟨h2, h3, q, h4⟩
    · omega
    · simp only at h4
      rw [hy, bnd_val]
      dsimp only
      rw [h4, where_ok (fault_ok ⟨by omega, by omega⟩ (by rw [hc.1]; exact ⟨by decide, by decide⟩)), bnd_val, decide_eq_false (by omega), cnd_false]
      simp only [ltO_def, chk_same, at_at, errN_at]
      rfl
end Go.Tr
