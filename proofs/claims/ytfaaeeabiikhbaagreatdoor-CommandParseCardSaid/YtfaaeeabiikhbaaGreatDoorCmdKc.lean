/- What numbers make of a command; the statements' examples. A command's text means its event. The statements of commands hold of the printed functions. The statements of commands hold of the printed functions: which texts are one, what is too long, what a text means. Conditions: none but those that each theorem states. -/
import Derived.Test.YtfaaeeabiikhbaaGreatDoorCmdKb
import Derived.Test.YtfaaeeabiikhbaaGreatDoorAddrT
import Derived.Test.YtfaaeeabiikhbaaGreatDoorMacS
import Derived.KernelRfl
namespace Go.Tr
open Go
set_option linter.unusedVariables false
set_option linter.unusedSimpArgs false
set_option maxRecDepth 100000
set_option maxHeartbeats 4000000
def AllLe (B : Nat) (l : List (List UInt8)) : Prop := ∀ w ∈ l, w.length ≤ B
theorem AllLe.app {B : Nat} {l m : List (List UInt8)} (h : AllLe B l) (k : AllLe B m) : AllLe B (l ++ m) := fun w hw => (List.mem_append.1 hw).elim (h w) (k w)
theorem AllLe.one {B : Nat} {w : List UInt8} (h : w.length ≤ B) : AllLe B [w] := fun x hx => by simp at hx; subst hx; exact h
theorem AllLe.two {B : Nat} {w x : List UInt8} (h : w.length ≤ B) (k : x.length ≤ B) : AllLe B [w, x] := fun y hy => by
  simp at hy
  rcases hy with rfl | rfl
  · exact h
  · exact k
theorem AllLe.set {B : Nat} {l : List (List UInt8)} (h : AllLe B l) {i : Nat} {w : List UInt8} (k : w.length ≤ B) : AllLe B (l.set i w) := fun x hx => by
  rcases List.mem_or_eq_of_mem_set hx with hx | rfl
  · exact h x hx
  · exact k
theorem AllLe.slice {B : Nat} {l : List (List UInt8)} (h : AllLe B l) (i j : Nat) : AllLe B (sliceA i j l) := fun x hx => h x (List.mem_of_mem_drop (List.mem_of_mem_take hx))
noncomputable def spoilT (sp : Int) (tx : List UInt8) (out : List (List UInt8)) : Option ((List (List UInt8)) × Unit) :=
  ltO (IntKind.i64.wrap sp) fun (v10 : Int) =>
  ltO (decide (sp < (5 : Int)) && decide (v10 < (↑out.length : Int))) fun (v11 : Bool) =>
  cnd (v11) (
   chk ((0 : Int) ≤ sp ∧ sp < (↑out.length : Int)) <|
   chk (sp.toNat < out.length) <|
   ltO (sp == (5 : Int)) fun (v12 : Bool) =>
   cnd (v12) (
    ltO (IntKind.i64.wrap ((↑(out.set sp.toNat tx).length : Int) - (1 : Int))) fun (v13 : Int) =>
    chk ((0 : Int) ≤ (0 : Int) ∧ (0 : Int) ≤ v13 ∧ v13 ≤ (↑(out.set sp.toNat tx).length : Int)) <|
    ltO (sp == (6 : Int)) fun (v14 : Bool) =>
    cnd (v14) (
     chk ((0 : Nat) = (0 : Nat) ∧ v13.toNat - (0 : Nat) = (out.set sp.toNat tx).length ∧ room (16 : Nat) ((out.set sp.toNat tx).length + [tx].length)) <|
     some (out.set sp.toNat tx ++ [tx], ())) (
     chk ((0 : Nat) + (v13.toNat - (0 : Nat)) ≤ (out.set sp.toNat tx).length) <|
     some (sliceA (0 : Nat) ((0 : Nat) + (v13.toNat - (0 : Nat))) (out.set sp.toNat tx), ()))) (
    ltO (sp == (6 : Int)) fun (v15 : Bool) =>
    cnd (v15) (
     chk (room (16 : Nat) ((out.set sp.toNat tx).length + [tx].length)) <|
     some (out.set sp.toNat tx ++ [tx], ())) (
     some (out.set sp.toNat tx, ())))) (
   ltO (sp == (5 : Int)) fun (v16 : Bool) =>
   cnd (v16) (
    ltO (IntKind.i64.wrap ((↑out.length : Int) - (1 : Int))) fun (v17 : Int) =>
    chk ((0 : Int) ≤ (0 : Int) ∧ (0 : Int) ≤ v17 ∧ v17 ≤ (↑out.length : Int)) <|
    ltO (sp == (6 : Int)) fun (v18 : Bool) =>
    cnd (v18) (
     chk ((0 : Nat) = (0 : Nat) ∧ v17.toNat - (0 : Nat) = out.length ∧ room (16 : Nat) (out.length + [tx].length)) <|
     some (out ++ [tx], ())) (
     chk ((0 : Nat) + (v17.toNat - (0 : Nat)) ≤ out.length) <|
     some (sliceA (0 : Nat) ((0 : Nat) + (v17.toNat - (0 : Nat))) out, ()))) (
    ltO (sp == (6 : Int)) fun (v19 : Bool) =>
    cnd (v19) (
     chk (room (16 : Nat) (out.length + [tx].length)) <|
     some (out ++ [tx], ())) (
     some (out, ()))))
theorem spoil_ok {sp : Int} {tx : List UInt8} {out : List (List UInt8)} {B : Nat} (h0 : 0 ≤ sp) (h1 : sp ≤ 255) (ht : tx.length ≤ B) (ho : AllLe B out) (hl : 1 ≤ out.length) (hl2 : out.length ≤ 10) :
    Ok (spoilT sp tx out) (fun y => AllLe B y.1 ∧ y.1.length ≤ 20) := by
  unfold spoilT
  simp only [ltO_def]
  rw [w64 (n := sp) (by omega) (by omega), w64 (n := ((out.length : Nat) : Int) - 1) (by omega) (by omega)]
  by_cases h : sp < 5 ∧ sp < ((out.length : Nat) : Int)
  · rw [show (decide (sp < 5) && decide (sp < ((out.length : Nat) : Int))) = true from by simp [h.1, h.2], cnd_true, chk_pos (by omega), chk_pos (by omega),
      show (sp == 5) = false from by simp; omega, cnd_false, show (sp == 6) = false from by simp; omega, cnd_false]
    exact Ok.some ⟨ho.set ht, by simp; omega⟩
  · rw [show (decide (sp < 5) && decide (sp < ((out.length : Nat) : Int))) = false from by simp; omega, cnd_false]
    by_cases h5 : sp = 5
    · rw [show (sp == 5) = true from by simp [h5], cnd_true, chk_pos (by omega), show (sp == 6) = false from by simp; omega, cnd_false, chk_pos (by omega)]
      exact Ok.some ⟨ho.slice _ _, by unfold sliceA; simp; omega⟩
    · rw [show (sp == 5) = false from by simp [h5], cnd_false]
      by_cases h6 : sp = 6
      · rw [show (sp == 6) = true from by simp [h6], cnd_true, chk_pos (by show _ * 16 ≤ 140737488355328; simp only [List.length_cons, List.length_nil]; omega)]
        exact Ok.some ⟨ho.app (AllLe.one ht), by simp; omega⟩
      · rw [show (sp == 6) = false from by simp [h6], cnd_false]
        exact Ok.some ⟨ho, by simp; omega⟩
abbrev TSay : Type := Int × Int × Int × Int × Int × Int × List UInt8
structure SayOk (B : Nat) (s : TSay) : Prop where
  w : 0 ≤ s.1 ∧ s.1 ≤ 255
  a : in32 s.2.1
  b : 0 ≤ s.2.2.1 ∧ s.2.2.1 ≤ 255
  o : 0 ≤ s.2.2.2.1 ∧ s.2.2.2.1 ≤ 255
  m : 0 ≤ s.2.2.2.2.1 ∧ s.2.2.2.2.1 ≤ 255
  p : 0 ≤ s.2.2.2.2.2.1 ∧ s.2.2.2.2.2.1 ≤ 255
  t : s.2.2.2.2.2.2.length ≤ B
theorem zMac_ok' : M6ok zMac := ⟨⟨by decide, by decide⟩, ⟨by decide, by decide⟩, ⟨by decide, by decide⟩, ⟨by decide, by decide⟩, ⟨by decide, by decide⟩, ⟨by decide, by decide⟩⟩
def StM (m : TMac) : Prop := m = zMac ∨ ∃ k, 1 ≤ k ∧ k ≤ 3 ∧ m = (2, 0, 0, 0, 0, k)
theorem StM.ok {m : TMac} (h : StM m) : M6ok m := by
  rcases h with rfl | ⟨k, h1, h2, rfl⟩
  · exact zMac_ok'
  · constructor <;> (unfold by8; dsimp only; omega)
theorem station_S {n : Int} (h : 0 ≤ n) : ∃ m, terrierlaw11_Station n = some (m, ()) ∧ StM m := by
  unfold terrierlaw11_Station
  cases decide (n ≥ 128)
  · simp only [cnd_false, ltO_def]
    rw [chk_pos (by decide)]
    have e : n.tmod 3 = n % 3 := Int.tmod_eq_emod_of_nonneg h
    rw [e, wu8 (by omega) (by omega)]
    exact ⟨_, rfl, .inr ⟨1 + n % 3, by omega, by omega, rfl⟩⟩
  · exact ⟨_, rfl, .inl rfl⟩
def abc : List UInt8 := [97, 98, 99, 100, 101, 102, 103, 104]
structure SayE (e : TEv) : Prop where
  k : e.1 = 1 ∨ e.1 = 2 ∨ e.1 = 3 ∨ e.1 = 4 ∨ e.1 = 6 ∨ e.1 = 7
  b : e.1 = 3 ∨ e.1 = 4 → BlkOK e.2.2.1 ∧ e.2.1 = zHold
  h : ¬ (e.1 = 3 ∨ e.1 = 4) → e.2.2.1 = (0, 0)
  a : in32 e.2.1.1
  m : StM e.2.1.2.2
  o : e.1 = 1 → ∃ n, 1 ≤ n ∧ n ≤ 8 ∧ e.2.1.2.1 = abc.take n
  z : e.1 ≠ 1 → e.2.1.2 = ([], zMac)
  r : e.2.2.2 = (0, zMac, 0)
theorem say_ok {B : Nat} {s : TSay} (h : SayOk B s) : ∃ e, terrierlaw17_Say_Event s = some (e, ()) ∧ SayE e := by
  unfold terrierlaw17_Say_Event
  simp only [ltO_def, chk_same, chk_nn]
  have hw := h.w
  have ho := h.o
  rw [chk_pos (by decide), Int.tmod_eq_emod_of_nonneg hw.1, chk_pos (by omega), chk_pos (by omega)]
  have hk : ∀ i : Fin 6, ([1, 2, 3, 4, 6, 7] : List Int).getD i.val 0 = 1 ∨ ([1, 2, 3, 4, 6, 7] : List Int).getD i.val 0 = 2 ∨ ([1, 2, 3, 4, 6, 7] : List Int).getD i.val 0 = 3 ∨ ([1, 2, 3, 4, 6, 7] : List Int).getD i.val 0 = 4 ∨ ([1, 2, 3, 4, 6, 7] : List Int).getD i.val 0 = 6 ∨ ([1, 2, 3, 4, 6, 7] : List Int).getD i.val 0 = 7 := by decide
  have hk' := hk ⟨(s.1 % 6).toNat, by omega⟩
  simp only at hk'
  generalize ([1, 2, 3, 4, 6, 7] : List Int).getD (s.1 % 6).toNat 0 = w at hk'
  obtain ⟨m, hm, hmk⟩ := station_S h.m.1
  rw [Block_eq h.a h.b.1, bnd_val, hm, bnd_val, chk_pos (by decide), Int.tmod_eq_emod_of_nonneg ho.1, wu8 (by omega) (by omega), chk_pos (by omega)]
  have hB := bB_ok h.a h.b.1
  have z32 : in32 0 := ⟨by decide, by decide⟩
  rcases hk' with rfl | rfl | rfl | rfl | rfl | rfl
  · refine ⟨_, rfl, ⟨.inl rfl, fun hh => ?_, fun _ => rfl, h.a, hmk, fun _ => ⟨(1 + s.2.2.2.1 % 8).toNat, by omega, by omega, ?_⟩, fun hh => absurd rfl hh, rfl⟩⟩
    · rcases hh with hh | hh <;> (have : (1 : Int) = _ := hh; omega)
    · show sliceA 0 (1 + s.2.2.2.1 % 8).toNat abc = _
      unfold sliceA
      simp
  · exact ⟨_, rfl, ⟨.inr (.inl rfl), fun hh => by rcases hh with hh | hh <;> (have : (2 : Int) = _ := hh; omega), fun _ => rfl, h.a, .inl rfl, fun hh => by have : (2 : Int) = 1 := hh; omega, fun _ => rfl, rfl⟩⟩
  · exact ⟨_, rfl, ⟨.inr (.inr (.inl rfl)), fun _ => ⟨hB, rfl⟩, fun hh => absurd (.inl rfl) hh, z32, .inl rfl, fun hh => by have : (3 : Int) = 1 := hh; omega, fun _ => rfl, rfl⟩⟩
  · exact ⟨_, rfl, ⟨.inr (.inr (.inr (.inl rfl))), fun _ => ⟨hB, rfl⟩, fun hh => absurd (.inr rfl) hh, z32, .inl rfl, fun hh => by have : (4 : Int) = 1 := hh; omega, fun _ => rfl, rfl⟩⟩
  · exact ⟨_, rfl, ⟨.inr (.inr (.inr (.inr (.inl rfl)))), fun hh => by rcases hh with hh | hh <;> (have : (6 : Int) = _ := hh; omega), fun _ => rfl, h.a, .inl rfl, fun hh => by have : (6 : Int) = 1 := hh; omega, fun _ => rfl, rfl⟩⟩
  · exact ⟨_, rfl, ⟨.inr (.inr (.inr (.inr (.inr rfl)))), fun hh => by rcases hh with hh | hh <;> (have : (7 : Int) = _ := hh; omega), fun _ => rfl, h.a, .inl rfl, fun hh => by have : (7 : Int) = 1 := hh; omega, fun _ => rfl, rfl⟩⟩
theorem SayE.ev {e : TEv} (h : SayE e) : EvOk e := by
  refine ⟨h.a, h.m.ok, ?_, ?_, fun hh => ?_⟩
  · by_cases h1 : e.1 = 1
    · obtain ⟨n, _, _, hn⟩ := h.o h1
      rw [hn]; simp [abc]; omega
    · rw [h.z h1]; simp
  · by_cases hb : e.1 = 3 ∨ e.1 = 4
    · exact (h.b hb).1.i
    · rw [h.h hb]; exact ⟨by decide, by decide⟩
  · have := (h.b hh).1.n
    unfold bo; omega
theorem split_words {B : Nat} {s : TSay} (h : SayOk B s) (hB : 100 ≤ B) : Ok (terrierlaw17_Say_split s) (fun y => AllLe B y.1 ∧ y.1.length ≤ 20) := by
  obtain ⟨e, he, hs⟩ := say_ok h
  unfold terrierlaw17_Say_split
  rw [he, bnd_val, words_eq, bnd_val]
  dsimp only
  have hw : ∀ i, (wds.getD i []).length ≤ B := getD_len (fun w hw => Nat.le_trans (by revert w hw; decide : w.length ≤ 100) hB)
  have hk := hs.k
  have ha := adT_len e.2.1.1
  have hbt := bt_len e.2.2.1
  have hlt := lowT_len e.2.1.2.2
  have ho := hs.ev.o
  have hob : e.2.1.2.1.length ≤ B := by
    by_cases h1 : e.1 = 1
    · obtain ⟨n, _, _, hn⟩ := hs.o h1
      rw [hn]; simp [abc]; omega
    · rw [hs.z h1]; simp
  rw [chk_pos (by show 0 ≤ e.1 ∧ e.1 < 8; omega), chk_pos (by show e.1.toNat < 8; omega), Text_eq hs.a, bnd_val]
  simp only [ltO_def, chk_same, chk_nn]
  have base : AllLe B [wds.getD e.1.toNat [], adT e.2.1.1] := AllLe.two (hw _) (by omega)
  have fin : ∀ out : List (List UInt8), AllLe B out → 1 ≤ out.length → out.length ≤ 10 → Ok (spoilT s.2.2.2.2.2.1 s.2.2.2.2.2.2 out) (fun y => AllLe B y.1 ∧ y.1.length ≤ 20) := fun out h1 h2 h3 => spoil_ok h.p.1 h.p.2 h.t h1 h2 h3
  unfold spoilT at fin
  simp only [ltO_def] at fin
  by_cases hb : e.1 = 3 ∨ e.1 = 4
  · have e1 : (e.1 == 1) = false := by rcases hb with hb | hb <;> rw [hb] <;> rfl
    have eb : (e.1 == 3 || e.1 == 4) = true := by rcases hb with hb | hb <;> rw [hb] <;> rfl
    have := (hs.b hb).1
    rw [eb, cnd_true, BlockText_eq this.i (by unfold bo; have := this.n; omega), bnd_val, chk_pos (by simp), chk_pos (by simp), e1, cnd_false]
    exact fin _ (base.set (by show (bt e.2.2.1).length ≤ B; omega)) (by simp) (by simp)
  · have eb : (e.1 == 3 || e.1 == 4) = false := by simp; omega
    rw [eb, cnd_false]
    by_cases h1 : e.1 = 1
    · rw [show (e.1 == 1) = true from by rw [h1]; rfl, cnd_true, chk_pos (by show _ * 16 ≤ 140737488355328; simp), none_eq, bnd_val]
      cases hn : (e.2.1.2.2 == ((0, 0, 0, 0, 0, 0) : M6)) with
      | true =>
        simp only [Bool.not_true, cnd_false]
        exact fin _ (base.app (AllLe.one hob)) (by simp) (by simp)
      | false =>
        simp only [Bool.not_false, cnd_true, text_eq hs.m.ok, bnd_val]
        rw [chk_pos (by show _ * 16 ≤ 140737488355328; simp)]
        exact fin _ ((base.app (AllLe.one hob)).app (AllLe.one (by omega))) (by simp) (by simp)
    · rw [show (e.1 == 1) = false from by simp [h1], cnd_false]
      exact fin _ base (by simp) (by simp)
end Go.Tr
namespace Go.Tr
open Go
set_option linter.unusedVariables false
set_option linter.unusedSimpArgs false
set_option maxRecDepth 100000
set_option maxHeartbeats 4000000
theorem ds_no32 {u : Nat} (h : u < 1000) : (32 : UInt8) ∉ ds u := by
  have D : ∀ n : Fin 1000, (32 : UInt8) ∉ ds n.val := by decide +kernel
  exact D ⟨u, h⟩
theorem adT_no32 {a : Int} : (32 : UInt8) ∉ adT a := by
  unfold adT
  have p := fun i => ds_no32 (u := pt a i) (by have := @pt_lt a i; omega)
  simp only [List.mem_append, List.mem_cons, not_or]
  exact ⟨p 3, by decide, p 2, by decide, p 1, by decide, p 0⟩
theorem bt_no32 {b : Int × Int} (h : b.2 ≤ 32) : (32 : UInt8) ∉ bt b := by
  unfold bt
  simp only [List.mem_append, List.mem_cons, not_or]
  exact ⟨adT_no32, by decide, ds_no32 (by omega)⟩
theorem hexd_no32 : ∀ n : Fin 16, hexd false (n.val : Int) ≠ 32 := by decide +kernel
theorem hx {a : Int} (h0 : 0 ≤ a) (h1 : a < 16) : (32 : UInt8) ≠ hexd false a := by
  have := hexd_no32 ⟨a.toNat, by omega⟩
  simp only [Int.toNat_of_nonneg h0] at this
  exact this.symm
theorem lowT_no32 {m : M6} (hm : M6ok m) : (32 : UInt8) ∉ lowT m := by
  obtain ⟨⟨a1, a2⟩, ⟨b1, b2⟩, ⟨c1, c2⟩, ⟨d1, d2⟩, ⟨e1, e2⟩, ⟨f1, f2⟩⟩ := hm
  unfold lowT tx
  simp only [List.mem_cons, List.not_mem_nil, not_or, or_false]
  refine ⟨hx (by omega) (by omega), hx (by omega) (by omega), by decide, hx (by omega) (by omega), hx (by omega) (by omega), by decide, hx (by omega) (by omega), hx (by omega) (by omega), by decide, hx (by omega) (by omega), hx (by omega) (by omega), by decide, hx (by omega) (by omega), hx (by omega) (by omega), by decide, hx (by omega) (by omega), hx (by omega) (by omega)⟩
theorem low_rd {m : M6} (hm : M6ok m) : okP (lowT m) = true ∧ macP (lowT m) = m := by
  have p := parse_tx 58 (.inl rfl) (fun _ => false) hm
  rw [parse_eq] at p
  have p' : (if okP (lowT m) = true then ((vlP (lowT m) 0, vlP (lowT m) 1, vlP (lowT m) 2, vlP (lowT m) 3, vlP (lowT m) 4, vlP (lowT m) 5), true, ()) else ((0, 0, 0, 0, 0, 0), false, ())) = (m, true, ()) := Option.some.inj p
  cases h : okP (lowT m) with
  | true => rw [h, if_pos rfl] at p'; exact ⟨rfl, congrArg Prod.fst p'⟩
  | false => rw [h] at p'; simp at p'
structure CmdE (e : TEv) : Prop where
  k : e.1 = 1 ∨ e.1 = 2 ∨ e.1 = 3 ∨ e.1 = 4 ∨ e.1 = 6 ∨ e.1 = 7
  b : e.1 = 3 ∨ e.1 = 4 → in32 e.2.2.1.1 ∧ rB e.2.2.1 = true ∧ bo e.2.2.1.2 ∧ e.2.1 = zHold
  h : ¬ (e.1 = 3 ∨ e.1 = 4) → e.2.2.1 = (0, 0)
  a : in32 e.2.1.1
  o : e.1 = 1 → mayS e.2.1.2.1 = true ∧ (e.2.1.2.2 = zMac ∨ M6ok e.2.1.2.2 ∧ e.2.1.2.2 ≠ zMac ∧ e.2.1.2.2.1 % 2 ≠ 1)
  z : e.1 ≠ 1 → e.2.1.2 = ([], zMac)
  r : e.2.2.2 = (0, zMac, 0)
theorem may_no32 {o : List UInt8} (h : mayS o = true) : (32 : UInt8) ∉ o := by
  unfold mayS at h
  simp only [Bool.and_eq_true, List.all_eq_true] at h
  intro hm
  have := h.1 32 hm
  revert this; decide
theorem word_no32 (w : Int) : (32 : UInt8) ∉ wordS w := by
  unfold wordS
  repeat' split
  all_goals decide
theorem wordN_S {w : Int} (h : w = 1 ∨ w = 2 ∨ w = 3 ∨ w = 4 ∨ w = 6 ∨ w = 7) : wordN (wordS w) = w := by
  rcases h with rfl | rfl | rfl | rfl | rfl | rfl <;> rfl
theorem okM_low {m : M6} (h : M6ok m) (h1 : m ≠ zMac) (h2 : m.1 % 2 ≠ 1) : okM (lowT m) = true ∧ macP (lowT m) = m := by
  obtain ⟨a, b⟩ := low_rd h
  refine ⟨?_, b⟩
  have b' : (vlP (lowT m) 0, vlP (lowT m) 1, vlP (lowT m) 2, vlP (lowT m) 3, vlP (lowT m) 4, vlP (lowT m) 5) = m := b
  unfold okM
  rw [a, b', show vlP (lowT m) 0 = m.1 from congrArg Prod.fst b']
  have c1 : (m == ((0, 0, 0, 0, 0, 0) : M6)) = false := beq_eq_false_iff_ne.2 h1
  have c2 : (m.1 % 2 == 1) = false := beq_eq_false_iff_ne.2 h2
  rw [c1, c2]; rfl
theorem text_rd {e : TEv} (h : CmdE e) : cmdP (splitC 32 (cmdT e)) = (e, 0, 0) := by
  obtain ⟨w, ⟨a, o, m⟩, b, r⟩ := e
  have hr := h.r
  simp only at hr
  subst hr
  have hk := h.k
  have ha := h.a
  simp only at hk ha
  unfold cmdT
  dsimp only
  by_cases hb : w = 3 ∨ w = 4
  · obtain ⟨b1, b2, b3, b4⟩ := h.b hb
    simp only at b1 b2 b3 b4
    have s1 : splitC 32 (wordS w ++ [32] ++ bt b) = [wordS w, bt b] := by
      rw [List.append_assoc, show ([32] ++ bt b : List UInt8) = 32 :: bt b from rfl, splitC_app _ (word_no32 w), splitC_none (bt_no32 b3.2)]
    have e0 : ([wordS w, bt b] : List (List UInt8)).getD 0 [] = wordS w := rfl
    have e1 : ([wordS w, bt b] : List (List UInt8)).getD 1 [] = bt b := rfl
    rw [if_pos hb, s1]
    unfold cmdP
    rw [e0, e1, wordN_S hk, if_neg (by omega), if_neg (by omega), if_neg (by simp), if_neg (by simp), if_pos hb, rd_bt b1 b2, b4]
  · have hb0 := h.h hb
    simp only at hb0
    subst hb0
    rw [if_neg hb]
    by_cases h1 : w = 1
    · obtain ⟨o1, o2⟩ := h.o h1
      simp only at o1 o2
      subst h1
      rw [if_pos rfl]
      by_cases hm : m = (0, 0, 0, 0, 0, 0)
      · subst hm
        rw [if_pos rfl]
        have s1 : splitC 32 (wordS 1 ++ [32] ++ adT a ++ [32] ++ o) = [wordS 1, adT a, o] := by
          rw [List.append_assoc, List.append_assoc, List.append_assoc, show ([32] ++ (adT a ++ ([32] ++ o)) : List UInt8) = 32 :: (adT a ++ 32 :: o) from rfl, splitC_app _ (word_no32 1), splitC_app _ adT_no32, splitC_none (may_no32 o1)]
        have e0 : ([wordS 1, adT a, o] : List (List UInt8)).getD 0 [] = wordS 1 := rfl
        have e1 : ([wordS 1, adT a, o] : List (List UInt8)).getD 1 [] = adT a := rfl
        have e2 : ([wordS 1, adT a, o] : List (List UInt8)).getD 2 [] = o := rfl
        rw [s1]
        unfold cmdP
        rw [e0, e1, e2, wordN_S hk, if_neg (by decide), if_pos rfl, if_neg (by simp), if_neg (by simp), rd_adT ha]
        dsimp only
        rw [if_neg (by simp [o1]), if_neg (by simp)]
      · rcases o2 with o2 | ⟨o2, o3, o4⟩
        · exact absurd o2 hm
        rw [if_neg hm]
        have s1 : splitC 32 (wordS 1 ++ [32] ++ adT a ++ [32] ++ o ++ [32] ++ lowT m) = [wordS 1, adT a, o, lowT m] := by
          rw [List.append_assoc, List.append_assoc, List.append_assoc, List.append_assoc, List.append_assoc, show ([32] ++ (adT a ++ ([32] ++ (o ++ ([32] ++ lowT m)))) : List UInt8) = 32 :: (adT a ++ 32 :: (o ++ 32 :: lowT m)) from rfl, splitC_app _ (word_no32 1), splitC_app _ adT_no32, splitC_app _ (may_no32 o1), splitC_none (lowT_no32 o2)]
        have e0 : ([wordS 1, adT a, o, lowT m] : List (List UInt8)).getD 0 [] = wordS 1 := rfl
        have e1 : ([wordS 1, adT a, o, lowT m] : List (List UInt8)).getD 1 [] = adT a := rfl
        have e2 : ([wordS 1, adT a, o, lowT m] : List (List UInt8)).getD 2 [] = o := rfl
        have e3 : ([wordS 1, adT a, o, lowT m] : List (List UInt8)).getD 3 [] = lowT m := rfl
        obtain ⟨m1, m2⟩ := okM_low o2 o3 o4
        rw [s1]
        unfold cmdP
        rw [e0, e1, e2, e3, wordN_S hk, if_neg (by decide), if_pos rfl, if_neg (by simp), if_neg (by simp), rd_adT ha]
        dsimp only
        rw [if_neg (by simp [o1]), if_pos (by simp), if_pos m1, m2]
    · have hz := h.z h1
      simp only [Prod.mk.injEq] at hz
      obtain ⟨rfl, rfl⟩ := hz
      rw [if_neg h1, if_pos (by omega)]
      have s1 : splitC 32 (wordS w ++ [32] ++ adT a) = [wordS w, adT a] := by
        rw [List.append_assoc, show ([32] ++ adT a : List UInt8) = 32 :: adT a from rfl, splitC_app _ (word_no32 w), splitC_none adT_no32]
      have e0 : ([wordS w, adT a] : List (List UInt8)).getD 0 [] = wordS w := rfl
      have e1 : ([wordS w, adT a] : List (List UInt8)).getD 1 [] = adT a := rfl
      rw [s1]
      unfold cmdP
      rw [e0, e1, wordN_S hk, if_neg (by omega), if_neg (by omega), if_neg (by simp), if_neg (by simp), if_neg hb, rd_adT ha]
theorem cmdT_len {e : TEv} (h : CmdE e) : (cmdT e).length ≤ 60 := by
  have hw := wordS_len e.1
  have ha := adT_len e.2.1.1
  have hb := bt_len e.2.2.1
  have hl := lowT_len e.2.1.2.2
  have hw1 := wordS_len 1
  have ho : e.1 = 1 → e.2.1.2.1.length ≤ 8 := fun h1 => by
    have := (h.o h1).1
    unfold mayS at this
    simp only [Bool.and_eq_true, decide_eq_true_eq] at this
    exact this.2.2
  unfold cmdT
  repeat' split
  all_goals (simp only [List.length_append, List.length_cons, List.length_nil])
  all_goals first
    | omega
    | (have := ho (by assumption); omega)
end Go.Tr
namespace Go.Tr
open Go
set_option linter.unusedVariables false
set_option linter.unusedSimpArgs false
set_option maxRecDepth 100000
set_option maxHeartbeats 4000000
def lit1 : List UInt8 := [104, 111, 108, 100, 32, 49, 48, 46, 48, 46, 48, 46, 49, 32, 97, 110, 110, 32, 48, 50, 58, 48, 48, 58, 48, 48, 58, 48, 48, 58, 48, 48, 58, 48, 49]
def lit2 : List UInt8 := [104, 111, 108, 100, 32, 49, 48, 46, 48, 46, 48, 46, 49, 32, 65, 110, 110]
def evA : TEv := (1, (167772161, [97, 110, 110], (2, 0, 0, 0, 0, 1)), (0, 0), 0, zMac, 0)
theorem evA_ok : CmdE evA := by
  refine ⟨.inl rfl, fun h => by rcases h with h | h <;> (have : (1 : Int) = _ := h; omega), fun _ => rfl, ⟨by decide, by decide⟩, fun _ => ⟨by decide, .inr ⟨by constructor <;> (unfold by8 evA; dsimp only; omega), by intro h; have : (2 : Int) = 0 := congrArg Prod.fst h; omega, by decide⟩⟩, fun h => absurd rfl h, rfl⟩
theorem CmdE.ev {e : TEv} (h : CmdE e) : EvOk e := by
  refine ⟨h.a, ?_, ?_, ?_, fun hh => (h.b hh).2.2.1⟩
  · by_cases h1 : e.1 = 1
    · rcases (h.o h1).2 with hm | hm
      · rw [hm]; exact zMac_ok'
      · exact hm.1
    · rw [h.z h1]; exact zMac_ok'
  · by_cases h1 : e.1 = 1
    · have := (h.o h1).1
      unfold mayS at this
      simp only [Bool.and_eq_true, decide_eq_true_eq] at this
      omega
    · rw [h.z h1]; simp
  · by_cases hb : e.1 = 3 ∨ e.1 = 4
    · exact (h.b hb).1
    · rw [h.h hb]; exact ⟨by decide, by decide⟩
theorem Parse_text {e : TEv} (h : CmdE e) : command_Parse (cmdT e) = some (e, .nil, ()) := by
  obtain ⟨⟨y1, y2, ⟨⟩⟩, hy, h1, h2⟩ := Parse_ok (s := cmdT e) (by have := cmdT_len h; omega)
  rw [text_rd h] at h1 h2
  rcases h2 with ⟨_, _, h2⟩ | ⟨h2, _⟩
  · simp only at h1 h2
    rw [hy, h1, h2]
  · rcases h2 with h2 | h2 <;> (have : (0 : Int) = _ := h2; omega)
theorem lit1_eq : lit1 = cmdT evA := by decide +kernel
theorem lit2_eq : cmdP (splitC 32 lit2) = (zEv, 2, 3) := by kernel_rfl
theorem awake17 : terrierlaw17_awake = some (true, ()) := by
  have p1 : command_Parse lit1 = some (evA, .nil, ()) := by rw [lit1_eq]; exact Parse_text evA_ok
  obtain ⟨⟨y1, y2, ⟨⟩⟩, hy, h1, h2⟩ := Parse_ok (s := lit2) (by decide)
  rw [lit2_eq] at h1 h2
  have : ∃ q, y2 = eAt 2 (eCmd q (eNum 3)) := by
    rcases h2 with ⟨h2, _⟩ | ⟨_, _, h2⟩
    · have : (3 : Int) = 0 := h2; omega
    · exact h2
  obtain ⟨q, rfl⟩ := this
  show bnd (command_Parse lit1) _ = _
  rw [p1, bnd_val]
  show bnd (command_Parse lit2) _ = _
  rw [hy, bnd_val, where_ok (fault_ok ⟨by decide, by decide⟩ ⟨by decide, by decide⟩), bnd_val]
  simp only [cmd_eq evA_ok.ev, bndG_val, chk_same, ltO_def, ← lit1_eq, at_at, no_at, no_cmd, no_num, errN_nil]
  rfl
end Go.Tr
namespace Go.Tr
open Go
set_option linter.unusedVariables false
set_option linter.unusedSimpArgs false
set_option maxRecDepth 100000
set_option maxHeartbeats 4000000
theorem Parse_any {s : List UInt8} (h2 : s.length ≤ 1152921504606846976) : ∃ e t k n, command_Parse s = some (e, t, ()) ∧ terrierlaw17_parse s = some (e, k, n, ()) ∧
    ((n = 0 ∧ k = 0 ∧ t = .nil ∧ s.length ≤ 200) ∨ (200 < s.length ∧ n = 3 ∧ k = -1 ∧ ∃ q, t = eCmd q (eNum 3)) ∨ (s.length ≤ 200 ∧ (n = 1 ∨ n = 3) ∧ (0 ≤ k ∧ k ≤ 4) ∧ ∃ q, t = eAt k (eCmd q (eNum n)))) := by
  by_cases h : s.length ≤ 200
  · obtain ⟨⟨y1, y2, ⟨⟩⟩, hy, h1, h2⟩ := Parse_ok h
    refine ⟨y1, y2, (cmdP (splitC 32 s)).2.1, (cmdP (splitC 32 s)).2.2, hy, ?_, ?_⟩
    · rw [parse17 h]; simp only at h1; rw [h1]
    · rcases h2 with ⟨a, b, c⟩ | ⟨a, b, c⟩
      · exact .inl ⟨a, b, c, h⟩
      · exact .inr (.inr ⟨h, a, b, c⟩)
  · obtain ⟨q, hq⟩ := Parse_long (s := s) (by omega) h2
    exact ⟨zEv, _, -1, 3, hq, parse17_long (by omega), .inr (.inl ⟨by omega, rfl, rfl, q, rfl⟩)⟩
theorem parse_round17 {s : List UInt8} (h2 : s.length ≤ 1152921504606846976) {x : List (List UInt8)} {i N : Nat} (hN : x.length = N) (hi : i < N) (hn : N ≤ 10) (hx : x.getD i [] = s) :
    terrierlaw17_CommandParse_b0 (N : Int) (i : Int) x = some (.inl ((N : Int), ((i + 1 : Nat) : Int), x, ())) := by
  unfold terrierlaw17_CommandParse_b0
  rw [decide_eq_true (by omega), cnd_true, chk_pos (by omega), chk_pos (by omega), Int.toNat_natCast, hx]
  obtain ⟨e, t, k, n, hy, hz, h⟩ := Parse_any h2
  rw [hy, bnd_val, hz, bnd_val]
  simp only [ltO_def, chk_same, chk_nn]
  have w : IntKind.i64.wrap ((i : Int) + 1) = ((i + 1 : Nat) : Int) := by rw [w64 (by omega) (by omega)]; omega
  rw [w]
  have ee : (!(e == e)) = false := by simp
  rw [ee]
  rcases h with ⟨rfl, rfl, rfl, hs⟩ | ⟨hs, rfl, rfl, q, rfl⟩ | ⟨hs, hn, hk, q, rfl⟩
  · rw [where_ok ok_nil]
    simp
  · rw [where_ok (ok_cmd num_ne (ok_num ⟨by decide, by decide⟩))]
    simp
  · have hz : (n == 0) = false := by rcases hn with rfl | rfl <;> rfl
    have hne : (n != 0) = true := by rcases hn with rfl | rfl <;> rfl
    rw [where_ok (fault_ok ⟨by omega, by omega⟩ (by rcases hn with rfl | rfl <;> exact ⟨by decide, by decide⟩))]
    simp only [at_at, no_at, no_cmd, no_num, errN_at, hz, hne, bnd_val]
    rw [decide_eq_true hk.1]
    simp
theorem line_ok {B : Nat} {l : List (List UInt8)} (h : AllLe B l) (hl : l.length ≤ 100) (hB : B ≤ 281474976710656) : Ok (terrierlaw17_line l) (fun y => y.1.length ≤ l.length * (B + 1)) := by
  unfold terrierlaw17_line terrierlaw17_line_l0
  refine Ok.bnd (R := fun y => match y with
    | .inl t => t.1.length ≤ l.length * (B + 1)
    | .inr r => r.1.length ≤ l.length * (B + 1)) (Ok.loop (fun s : (List UInt8) × (List (List UInt8)) × Int × Int × Unit => s.2.1 = l ∧ s.2.2.1 = ((l.length : Nat) : Int) ∧ ∃ i : Nat, s.2.2.2.1 = (i : Int) ∧ i ≤ l.length ∧ s.1.length ≤ i * (B + 1)) (fun s => l.length - s.2.2.2.1.toNat) ⟨rfl, rfl, 0, rfl, Nat.zero_le _, by simp⟩ ?_) ?_
  · rintro ⟨o, l', n, i, ⟨⟩⟩ ⟨q1, q2, j, q3, hj, ho⟩
    dsimp only at q1 q2 q3 hj ho ⊢
    subst q1 q2 q3
    unfold terrierlaw17_line_b0
    by_cases hlt : j < l'.length
    · have hw := getD_len (f := l') (n := B) h j
      have hmul : (j + 1) * (B + 1) = j * (B + 1) + (B + 1) := Nat.succ_mul _ _
      have hmul2 : j * (B + 1) ≤ 100 * (B + 1) := Nat.mul_le_mul_right _ (by omega)
      have hm3 : 100 * (B + 1) = 100 * B + 100 := by omega
      have w : IntKind.i64.wrap ((j : Int) + 1) = ((j + 1 : Nat) : Int) := by rw [w64 (by omega) (by omega)]; omega
      rw [decide_eq_true (by omega), cnd_true, chk_pos (by omega)]
      simp only [ltO_def, Int.toNat_natCast, w]
      by_cases h0 : 0 < j
      · rw [decide_eq_true (by omega), cnd_true, chk_pos (by omega), chk_pos (by simp only [List.length_append, List.length_cons, List.length_nil]; omega)]
        refine Ok.some ⟨⟨rfl, rfl, j + 1, rfl, by omega, ?_⟩, ?_⟩
        · simp only [List.length_append, List.length_cons, List.length_nil]; omega
        · show l'.length - ((j + 1 : Nat) : Int).toNat < l'.length - ((j : Nat) : Int).toNat
          omega
      · rw [decide_eq_false (by omega), cnd_false, chk_pos (by omega)]
        refine Ok.some ⟨⟨rfl, rfl, j + 1, rfl, by omega, ?_⟩, ?_⟩
        · simp only [List.length_append]; omega
        · show l'.length - ((j + 1 : Nat) : Int).toNat < l'.length - ((j : Nat) : Int).toNat
          omega
    · rw [decide_eq_false (by omega), cnd_false]
      refine Ok.some ?_
      show o.length ≤ _
      have : j = l'.length := by omega
      subst this
      exact ho
  · intro z hz
    cases z with
    | inl t => exact Ok.some hz
    | inr r => exact Ok.some hz
theorem commandParse_law {s : TSay} {raw more : List UInt8} (hs : SayOk 281474976710656 s) (hr : raw.length ≤ 281474976710656) (hm : more.length ≤ 281474976710656) : terrierlaw17_CommandParse s raw more = some (true, ()) := by
  unfold terrierlaw17_CommandParse
  obtain ⟨⟨l, ⟨⟩⟩, h1, h2, h3⟩ := split_words hs (by decide)
  obtain ⟨⟨t, ⟨⟩⟩, h4, h5⟩ := line_ok (l := l) h2 (by simp only at h3; omega) (by decide)
  simp only at h3 h5
  have hl : t.length ≤ 20 * (281474976710656 + 1) := Nat.le_trans h5 (Nat.mul_le_mul_right _ h3)
  rw [awake17, bnd_val, Bool.not_true, cnd_false, h1, bnd_val, h4, bnd_val, bnd_val, h4, bnd_val]
  simp only [ltO_def]
  rw [chk_pos (by omega)]
  have S := loopM_steps (f := fun s : Int × Int × (List (List UInt8)) × Unit => terrierlaw17_CommandParse_b0 s.1 s.2.1 s.2.2.1) (fun i => (((3 : Nat) : Int), (i : Int), [t, raw, t ++ more], ())) (a := 0) (n := 3) (by decide) (fun i _ hi => by
    have C : ∀ (x : List UInt8), x.length ≤ 1152921504606846976 → ([t, raw, t ++ more] : List (List UInt8)).getD i [] = x → terrierlaw17_CommandParse_b0 ((3 : Nat) : Int) (i : Int) [t, raw, t ++ more] = some (.inl (((3 : Nat) : Int), ((i + 1 : Nat) : Int), [t, raw, t ++ more], ())) := fun x hx he => parse_round17 hx rfl hi (by decide) he
    match i, hi with
    | 0, _ => exact C t (by omega) rfl
    | 1, _ => exact C raw (by omega) rfl
    | 2, _ => exact C (t ++ more) (by simp only [List.length_append]; omega) rfl)
  have L : terrierlaw17_CommandParse_l0 (((3 : Nat) : Int), ((0 : Nat) : Int), [t, raw, t ++ more], ()) = some (.inl ()) := by
    unfold terrierlaw17_CommandParse_l0
    rw [S]
    exact loopM_last (by show terrierlaw17_CommandParse_b0 ((3 : Nat) : Int) ((3 : Nat) : Int) [t, raw, t ++ more] = _; unfold terrierlaw17_CommandParse_b0; rw [decide_eq_false (by omega), cnd_false])
  show bnd (terrierlaw17_CommandParse_l0 (((3 : Nat) : Int), ((0 : Nat) : Int), [t, raw, t ++ more], ())) _ = _
  rw [L, bnd_val, sumO_inl]
end Go.Tr
