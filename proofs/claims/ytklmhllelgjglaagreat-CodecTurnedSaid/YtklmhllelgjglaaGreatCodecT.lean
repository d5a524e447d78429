/- A state's bytes: what the printed functions come to. A state's bytes, as the law's own text says them. What is read of bytes as a state. What is read of a state's own bytes; the law of any state's bytes. The law of any state's bytes. Conditions: none but those that each theorem states. -/
import Derived.Test.YtklmhllelgjglaaGreatRightS
namespace Go.Tr
open Go
set_option linter.unusedVariables false
set_option linter.unusedSimpArgs false
set_option maxRecDepth 100000
set_option maxHeartbeats 4000000
theorem fold_loop {S Y : Type} (f : S → Option (S ⊕ Y)) (n : Nat) (St : Nat → S) (y : Y) (h : ∀ i, i < n → f (St i) = some (.inl (St (i + 1)))) (he : f (St n) = some (.inr y)) : loopM f (St 0) = some y := by
  rw [loopM_steps (f := f) St (a := 0) (n := n) (by omega) (fun i _ hi => h i hi), loopM_last he]
def swB (s : TSweep) : List Int := be s.1.1 4 ++ [s.1.2 % 256] ++ be s.2.1 8 ++ be s.2.2 2
def siB (x : TSight) : List Int := [x.1 % 256] ++ m6l x.2.1 ++ be x.2.2 8
def knB (x : TKnown) : List Int := be x.1 4 ++ (be (x.2.length : Int) 2 ++ x.2.flatMap siB)
def prB (x : TProbe) : List Int := be x.1 4 ++ be x.2.2.1 2 ++ be x.2.2.2.1 8 ++ [x.2.2.2.2 % 256]
def caB (c : TCase) : List Int := be c.1 4 ++ be c.2.1 8 ++ be c.2.2.1 8 ++ [c.2.2.2 % 256]
def HoOk (h : THold) : Prop := in32 h.1 ∧ h.2.1.length ≤ 1000 ∧ M6ok h.2.2
def SwOk (s : TSweep) : Prop := in32 s.1.1
def SiOk (x : TSight) : Prop := M6ok x.2.1
def KnOk (x : TKnown) : Prop := in32 x.1 ∧ x.2.length ≤ 1000 ∧ ∀ y ∈ x.2, SiOk y
def PrOk (x : TProbe) : Prop := in32 x.1
def CaOk (c : TCase) : Prop := in32 c.1
theorem flat_len {α : Type} {g : α → List Int} {K : Nat} : ∀ {l : List α}, (∀ x ∈ l, (g x).length ≤ K) → (l.flatMap g).length ≤ l.length * K
  | [], _ => by simp
  | x :: l, h => by
    have h1 := h x (by simp)
    have h2 := flat_len (l := l) fun y hy => h y (by simp [hy])
    simp only [List.flatMap_cons, List.length_append, List.length_cons]
    rw [Nat.add_mul]; omega
theorem flat_take {α : Type} {g : α → List Int} {l : List α} {i : Nat} (hi : i < l.length) : (l.take (i + 1)).flatMap g = (l.take i).flatMap g ++ g l[i] := by
  rw [← List.take_append_getElem hi, List.flatMap_append]; simp
theorem flat_by8 {α : Type} {g : α → List Int} {l : List α} (h : ∀ x ∈ l, by8s (g x)) : by8s (l.flatMap g) := by
  intro c hc
  obtain ⟨x, hx, hc⟩ := List.mem_flatMap.1 hc
  exact h x hx c hc
theorem m6l_len (m : TMac) : (m6l m).length = 6 := rfl
theorem hoB_len {h : THold} (hh : HoOk h) : (hoB h).length ≤ 20000 := by
  unfold hoB; simp only [List.length_append, be_len, ofBytes_len, List.length_cons, List.length_nil, m6l_len]; have := hh.2.1; omega
theorem swB_len {s : TSweep} (hh : SwOk s) : (swB s).length ≤ 20000 := by
  unfold swB; simp only [List.length_append, be_len, List.length_cons, List.length_nil]; omega
theorem siB_len {s : TSight} (hh : SiOk s) : (siB s).length ≤ 15 := by
  unfold siB; simp only [List.length_append, be_len, List.length_cons, List.length_nil, m6l_len]; omega
theorem knB_len {s : TKnown} (hh : KnOk s) : (knB s).length ≤ 20000 := by
  have := flat_len (g := siB) (K := 15) (l := s.2) fun x hx => siB_len (hh.2.2 x hx)
  unfold knB; simp only [List.length_append, be_len]; have := hh.2.1; omega
theorem prB_len {s : TProbe} (hh : PrOk s) : (prB s).length ≤ 20000 := by
  unfold prB; simp only [List.length_append, be_len, List.length_cons, List.length_nil]; omega
theorem caB_len {s : TCase} (hh : CaOk s) : (caB s).length ≤ 20000 := by
  unfold caB; simp only [List.length_append, be_len, List.length_cons, List.length_nil]; omega
theorem part_ {h : THold} (hh : HoOk h) (b : List Int) (hb : b.length ≤ 70000000000000) : codec_holder h b = some (b ++ hoB h, ()) :=
  holder_eq hh.1 (by have := hh.2.1; omega) b (by omega)
theorem part_v1 {s : TSweep} (hh : SwOk s) (b : List Int) (hb : b.length ≤ 70000000000000) : codec_State_1 s b = some (b ++ swB s, ()) := by
  unfold codec_State_1
  have l4 := be_len s.1.1 4
  have l8 := be_len s.2.1 8
  rw [block_eq hh b (by omega)]
  simp only [bnd_val]
  rw [num_eq _ _ (by simp only [List.length_append, l4, List.length_cons, List.length_nil]; omega)]
  simp only [bnd_val]
  rw [small_eq _ _ (by simp only [List.length_append, l4, l8, List.length_cons, List.length_nil]; omega)]
  simp [swB]
theorem part_v2 {s : TSight} (hh : SiOk s) (b : List Int) (hb : b.length ≤ 70000000000000) : codec_sight s b = some (b ++ siB s, ()) := by
  unfold codec_sight
  rw [ltO_def, u8_wrap, chk_pos (by simp only [room1, List.length_cons, List.length_nil]; omega), chk_pos (by decide), chk_pos (by simp only [room1, List.length_append, List.length_cons, List.length_nil]; omega),
    num_eq _ _ (by simp only [List.length_append, List.length_cons, List.length_nil]; omega)]
  simp [siB, m6l]
theorem part_v4 {s : TProbe} (hh : PrOk s) (b : List Int) (hb : b.length ≤ 70000000000000) : codec_State_3 s b = some (b ++ prB s, ()) := by
  unfold codec_State_3
  have l4 := be_len s.1 4
  have l2 := be_len s.2.2.1 2
  have l8 := be_len s.2.2.2.1 8
  rw [ip_eq hh b (by omega)]
  simp only [bnd_val]
  rw [small_eq _ _ (by simp only [List.length_append, l4]; omega)]
  simp only [bnd_val]
  rw [num_eq _ _ (by simp only [List.length_append, l4, l2]; omega)]
  simp only [bnd_val, ltO_def]
  rw [chk_pos (by simp only [room1, List.length_append, List.length_cons, List.length_nil, l4, l2, l8]; omega), u8_wrap]
  simp [prB]
theorem part_v5 {s : TCase} (hh : CaOk s) (b : List Int) (hb : b.length ≤ 70000000000000) : codec_State_4 s b = some (b ++ caB s, ()) := by
  unfold codec_State_4
  have l4 := be_len s.1 4
  have l8 := be_len s.2.1 8
  have l9 := be_len s.2.2.1 8
  rw [ip_eq hh b (by omega)]
  simp only [bnd_val]
  rw [num_eq _ _ (by simp only [List.length_append, l4]; omega)]
  simp only [bnd_val]
  rw [num_eq _ _ (by simp only [List.length_append, l4, l8]; omega)]
  simp only [bnd_val, ltO_def]
  rw [chk_pos (by simp only [room1, List.length_append, List.length_cons, List.length_nil, l4, l8, l9]; omega), u8_wrap]
  simp [caB]
theorem rows_eq {l : List THold} (hl : ∀ x ∈ l, HoOk x) (hn : l.length ≤ 1000) (b : List Int) (hb : b.length ≤ 60000000000000) : codec_rows l b = some (b ++ (be (l.length : Int) 2 ++ l.flatMap hoB), ()) := by
  unfold codec_rows
  rw [small_eq _ b (by omega)]
  simp only [bnd_val]
  have l2 := be_len (l.length : Int) 2
  have L : codec_rows_l0 (l, (l.length : Int), 0, b ++ be (l.length : Int) 2, ()) = some (.inl (b ++ be (l.length : Int) 2 ++ l.flatMap hoB, ())) := by
    unfold codec_rows_l0
    have := fold_loop (fun s : (List THold) × Int × Int × (List Int) × Unit => codec_rows_b0 s.1 s.2.1 s.2.2.1 s.2.2.2.1) l.length (fun i => (l, (l.length : Int), (i : Int), b ++ be (l.length : Int) 2 ++ (l.take i).flatMap hoB, ())) (.inl (b ++ be (l.length : Int) 2 ++ l.flatMap hoB, ()))
      (fun i hi => by
        show codec_rows_b0 l (l.length : Int) (i : Int) (b ++ be (l.length : Int) 2 ++ (l.take i).flatMap hoB) = _
        unfold codec_rows_b0
        have hx : HoOk l[i] := hl _ (List.getElem_mem hi)
        have hf := flat_len (g := hoB) (K := 20000) (l := l.take i) fun x hx => hoB_len (hl x (List.mem_of_mem_take hx))
        have hf2 : (l.take i).length ≤ 1000 := by rw [List.length_take]; omega
        rw [decide_eq_true (by omega), cnd_true, chk_pos (by omega)]
        simp only [ltO_def, recD, getD_toNat]
        have hg : l.getD i zHold = l[i] := by rw [List.getD_eq_getElem?_getD, List.getElem?_eq_getElem hi]; rfl
        rw [hg, part_ hx _ (by simp only [List.length_append, l2]; omega), w64 (by omega) (by omega), flat_take hi]
        simp only [bnd_val, List.append_assoc]; rfl)
      (by
        show codec_rows_b0 l (l.length : Int) (l.length : Int) (b ++ be (l.length : Int) 2 ++ (l.take l.length).flatMap hoB) = _
        unfold codec_rows_b0
        rw [decide_eq_false (by omega), List.take_length]; rfl)
    simpa using this
  rw [L]
  simp
theorem rows_v1_eq {l : List TSweep} (hl : ∀ x ∈ l, SwOk x) (hn : l.length ≤ 1000) (b : List Int) (hb : b.length ≤ 60000000000000) : codec_rows_v1 l b = some (b ++ (be (l.length : Int) 2 ++ l.flatMap swB), ()) := by
  unfold codec_rows_v1
  rw [small_eq _ b (by omega)]
  simp only [bnd_val]
  have l2 := be_len (l.length : Int) 2
  have L : codec_rows_v1_l0 (l, (l.length : Int), 0, b ++ be (l.length : Int) 2, ()) = some (.inl (b ++ be (l.length : Int) 2 ++ l.flatMap swB, ())) := by
    unfold codec_rows_v1_l0
    have := fold_loop (fun s : (List TSweep) × Int × Int × (List Int) × Unit => codec_rows_v1_b0 s.1 s.2.1 s.2.2.1 s.2.2.2.1) l.length (fun i => (l, (l.length : Int), (i : Int), b ++ be (l.length : Int) 2 ++ (l.take i).flatMap swB, ())) (.inl (b ++ be (l.length : Int) 2 ++ l.flatMap swB, ()))
      (fun i hi => by
        show codec_rows_v1_b0 l (l.length : Int) (i : Int) (b ++ be (l.length : Int) 2 ++ (l.take i).flatMap swB) = _
        unfold codec_rows_v1_b0
        have hx : SwOk l[i] := hl _ (List.getElem_mem hi)
        have hf := flat_len (g := swB) (K := 20000) (l := l.take i) fun x hx => swB_len (hl x (List.mem_of_mem_take hx))
        have hf2 : (l.take i).length ≤ 1000 := by rw [List.length_take]; omega
        rw [decide_eq_true (by omega), cnd_true, chk_pos (by omega)]
        simp only [ltO_def, recD, getD_toNat]
        have hg : l.getD i zSweep = l[i] := by rw [List.getD_eq_getElem?_getD, List.getElem?_eq_getElem hi]; rfl
        rw [hg, part_v1 hx _ (by simp only [List.length_append, l2]; omega), w64 (by omega) (by omega), flat_take hi]
        simp only [bnd_val, List.append_assoc]; rfl)
      (by
        show codec_rows_v1_b0 l (l.length : Int) (l.length : Int) (b ++ be (l.length : Int) 2 ++ (l.take l.length).flatMap swB) = _
        unfold codec_rows_v1_b0
        rw [decide_eq_false (by omega), List.take_length]; rfl)
    simpa using this
  rw [L]
  simp
theorem rows_v2_eq {l : List TSight} (hl : ∀ x ∈ l, SiOk x) (hn : l.length ≤ 1000) (b : List Int) (hb : b.length ≤ 60000000000000) : codec_rows_v2 l b = some (b ++ (be (l.length : Int) 2 ++ l.flatMap siB), ()) := by
  unfold codec_rows_v2
  rw [small_eq _ b (by omega)]
  simp only [bnd_val]
  have l2 := be_len (l.length : Int) 2
  have L : codec_rows_v2_l0 (l, (l.length : Int), 0, b ++ be (l.length : Int) 2, ()) = some (.inl (b ++ be (l.length : Int) 2 ++ l.flatMap siB, ())) := by
    unfold codec_rows_v2_l0
    have := fold_loop (fun s : (List TSight) × Int × Int × (List Int) × Unit => codec_rows_v2_b0 s.1 s.2.1 s.2.2.1 s.2.2.2.1) l.length (fun i => (l, (l.length : Int), (i : Int), b ++ be (l.length : Int) 2 ++ (l.take i).flatMap siB, ())) (.inl (b ++ be (l.length : Int) 2 ++ l.flatMap siB, ()))
      (fun i hi => by
        show codec_rows_v2_b0 l (l.length : Int) (i : Int) (b ++ be (l.length : Int) 2 ++ (l.take i).flatMap siB) = _
        unfold codec_rows_v2_b0
        have hx : SiOk l[i] := hl _ (List.getElem_mem hi)
        have hf := flat_len (g := siB) (K := 15) (l := l.take i) fun x hx => siB_len (hl x (List.mem_of_mem_take hx))
        have hf2 : (l.take i).length ≤ 1000 := by rw [List.length_take]; omega
        rw [decide_eq_true (by omega), cnd_true, chk_pos (by omega)]
        simp only [ltO_def, recD, getD_toNat]
        have hg : l.getD i zSight = l[i] := by rw [List.getD_eq_getElem?_getD, List.getElem?_eq_getElem hi]; rfl
        rw [hg, part_v2 hx _ (by simp only [List.length_append, l2]; omega), w64 (by omega) (by omega), flat_take hi]
        simp only [bnd_val, List.append_assoc]; rfl)
      (by
        show codec_rows_v2_b0 l (l.length : Int) (l.length : Int) (b ++ be (l.length : Int) 2 ++ (l.take l.length).flatMap siB) = _
        unfold codec_rows_v2_b0
        rw [decide_eq_false (by omega), List.take_length]; rfl)
    simpa using this
  rw [L]
  simp
theorem part_v3 {s : TKnown} (hh : KnOk s) (b : List Int) (hb : b.length ≤ 50000000000000) : codec_State_2 s b = some (b ++ knB s, ()) := by
  unfold codec_State_2
  have l4 := be_len s.1 4
  rw [ip_eq hh.1 b (by omega)]
  simp only [bnd_val]
  rw [rows_v2_eq hh.2.2 hh.2.1 _ (by simp only [List.length_append, l4]; omega)]
  simp [knB]
theorem rows_v3_eq {l : List TKnown} (hl : ∀ x ∈ l, KnOk x) (hn : l.length ≤ 1000) (b : List Int) (hb : b.length ≤ 40000000000000) : codec_rows_v3 l b = some (b ++ (be (l.length : Int) 2 ++ l.flatMap knB), ()) := by
  unfold codec_rows_v3
  rw [small_eq _ b (by omega)]
  simp only [bnd_val]
  have l2 := be_len (l.length : Int) 2
  have L : codec_rows_v3_l0 (l, (l.length : Int), 0, b ++ be (l.length : Int) 2, ()) = some (.inl (b ++ be (l.length : Int) 2 ++ l.flatMap knB, ())) := by
    unfold codec_rows_v3_l0
    have := fold_loop (fun s : (List TKnown) × Int × Int × (List Int) × Unit => codec_rows_v3_b0 s.1 s.2.1 s.2.2.1 s.2.2.2.1) l.length (fun i => (l, (l.length : Int), (i : Int), b ++ be (l.length : Int) 2 ++ (l.take i).flatMap knB, ())) (.inl (b ++ be (l.length : Int) 2 ++ l.flatMap knB, ()))
      (fun i hi => by
        show codec_rows_v3_b0 l (l.length : Int) (i : Int) (b ++ be (l.length : Int) 2 ++ (l.take i).flatMap knB) = _
        unfold codec_rows_v3_b0
        have hx : KnOk l[i] := hl _ (List.getElem_mem hi)
        have hf := flat_len (g := knB) (K := 20000) (l := l.take i) fun x hx => knB_len (hl x (List.mem_of_mem_take hx))
        have hf2 : (l.take i).length ≤ 1000 := by rw [List.length_take]; omega
        rw [decide_eq_true (by omega), cnd_true, chk_pos (by omega)]
        simp only [ltO_def, recD, getD_toNat]
        have hg : l.getD i ((0 : Int), []) = l[i] := by rw [List.getD_eq_getElem?_getD, List.getElem?_eq_getElem hi]; rfl
        rw [hg, part_v3 hx _ (by simp only [List.length_append, l2]; omega), w64 (by omega) (by omega), flat_take hi]
        simp only [bnd_val, List.append_assoc]; rfl)
      (by
        show codec_rows_v3_b0 l (l.length : Int) (l.length : Int) (b ++ be (l.length : Int) 2 ++ (l.take l.length).flatMap knB) = _
        unfold codec_rows_v3_b0
        rw [decide_eq_false (by omega), List.take_length]; rfl)
    simpa using this
  rw [L]
  simp
theorem rows_v4_eq {l : List TProbe} (hl : ∀ x ∈ l, PrOk x) (hn : l.length ≤ 1000) (b : List Int) (hb : b.length ≤ 60000000000000) : codec_rows_v4 l b = some (b ++ (be (l.length : Int) 2 ++ l.flatMap prB), ()) := by
  unfold codec_rows_v4
  rw [small_eq _ b (by omega)]
  simp only [bnd_val]
  have l2 := be_len (l.length : Int) 2
  have L : codec_rows_v4_l0 (l, (l.length : Int), 0, b ++ be (l.length : Int) 2, ()) = some (.inl (b ++ be (l.length : Int) 2 ++ l.flatMap prB, ())) := by
    unfold codec_rows_v4_l0
    have := fold_loop (fun s : (List TProbe) × Int × Int × (List Int) × Unit => codec_rows_v4_b0 s.1 s.2.1 s.2.2.1 s.2.2.2.1) l.length (fun i => (l, (l.length : Int), (i : Int), b ++ be (l.length : Int) 2 ++ (l.take i).flatMap prB, ())) (.inl (b ++ be (l.length : Int) 2 ++ l.flatMap prB, ()))
      (fun i hi => by
        show codec_rows_v4_b0 l (l.length : Int) (i : Int) (b ++ be (l.length : Int) 2 ++ (l.take i).flatMap prB) = _
        unfold codec_rows_v4_b0
        have hx : PrOk l[i] := hl _ (List.getElem_mem hi)
        have hf := flat_len (g := prB) (K := 20000) (l := l.take i) fun x hx => prB_len (hl x (List.mem_of_mem_take hx))
        have hf2 : (l.take i).length ≤ 1000 := by rw [List.length_take]; omega
        rw [decide_eq_true (by omega), cnd_true, chk_pos (by omega)]
        simp only [ltO_def, recD, getD_toNat]
        have hg : l.getD i ((0 : Int), (0 : Int), (0 : Int), (0 : Int), (0 : Int)) = l[i] := by rw [List.getD_eq_getElem?_getD, List.getElem?_eq_getElem hi]; rfl
        rw [hg, part_v4 hx _ (by simp only [List.length_append, l2]; omega), w64 (by omega) (by omega), flat_take hi]
        simp only [bnd_val, List.append_assoc]; rfl)
      (by
        show codec_rows_v4_b0 l (l.length : Int) (l.length : Int) (b ++ be (l.length : Int) 2 ++ (l.take l.length).flatMap prB) = _
        unfold codec_rows_v4_b0
        rw [decide_eq_false (by omega), List.take_length]; rfl)
    simpa using this
  rw [L]
  simp
theorem rows_v5_eq {l : List TCase} (hl : ∀ x ∈ l, CaOk x) (hn : l.length ≤ 1000) (b : List Int) (hb : b.length ≤ 60000000000000) : codec_rows_v5 l b = some (b ++ (be (l.length : Int) 2 ++ l.flatMap caB), ()) := by
  unfold codec_rows_v5
  rw [small_eq _ b (by omega)]
  simp only [bnd_val]
  have l2 := be_len (l.length : Int) 2
  have L : codec_rows_v5_l0 (l, (l.length : Int), 0, b ++ be (l.length : Int) 2, ()) = some (.inl (b ++ be (l.length : Int) 2 ++ l.flatMap caB, ())) := by
    unfold codec_rows_v5_l0
    have := fold_loop (fun s : (List TCase) × Int × Int × (List Int) × Unit => codec_rows_v5_b0 s.1 s.2.1 s.2.2.1 s.2.2.2.1) l.length (fun i => (l, (l.length : Int), (i : Int), b ++ be (l.length : Int) 2 ++ (l.take i).flatMap caB, ())) (.inl (b ++ be (l.length : Int) 2 ++ l.flatMap caB, ()))
      (fun i hi => by
        show codec_rows_v5_b0 l (l.length : Int) (i : Int) (b ++ be (l.length : Int) 2 ++ (l.take i).flatMap caB) = _
        unfold codec_rows_v5_b0
        have hx : CaOk l[i] := hl _ (List.getElem_mem hi)
        have hf := flat_len (g := caB) (K := 20000) (l := l.take i) fun x hx => caB_len (hl x (List.mem_of_mem_take hx))
        have hf2 : (l.take i).length ≤ 1000 := by rw [List.length_take]; omega
        rw [decide_eq_true (by omega), cnd_true, chk_pos (by omega)]
        simp only [ltO_def, recD, getD_toNat]
        have hg : l.getD i ((0 : Int), (0 : Int), (0 : Int), (0 : Int)) = l[i] := by rw [List.getD_eq_getElem?_getD, List.getElem?_eq_getElem hi]; rfl
        rw [hg, part_v5 hx _ (by simp only [List.length_append, l2]; omega), w64 (by omega) (by omega), flat_take hi]
        simp only [bnd_val, List.append_assoc]; rfl)
      (by
        show codec_rows_v5_b0 l (l.length : Int) (l.length : Int) (b ++ be (l.length : Int) 2 ++ (l.take l.length).flatMap caB) = _
        unfold codec_rows_v5_b0
        rw [decide_eq_false (by omega), List.take_length]; rfl)
    simpa using this
  rw [L]
  simp
structure StOk (s : TState) : Prop where
  h : ∀ x ∈ s.2.2.1, HoOk x
  hn : s.2.2.1.length ≤ 1000
  w : ∀ x ∈ s.2.2.2.1, SwOk x
  wn : s.2.2.2.1.length ≤ 1000
  k : ∀ x ∈ s.2.2.2.2.1, KnOk x
  kn : s.2.2.2.2.1.length ≤ 1000
  p : ∀ x ∈ s.2.2.2.2.2.1, PrOk x
  pn : s.2.2.2.2.2.1.length ≤ 1000
  c : ∀ x ∈ s.2.2.2.2.2.2, CaOk x
  cn : s.2.2.2.2.2.2.length ≤ 1000
def rowB {α : Type} (g : α → List Int) (l : List α) : List Int := be (l.length : Int) 2 ++ l.flatMap g
def stB (s : TState) : List Int := be s.1 8 ++ (be s.2.1 2 ++ (rowB hoB s.2.2.1 ++ (rowB swB s.2.2.2.1 ++ (rowB knB s.2.2.2.2.1 ++ (rowB prB s.2.2.2.2.2.1 ++ rowB caB s.2.2.2.2.2.2)))))
theorem rowB_len {α : Type} {g : α → List Int} {l : List α} (h : ∀ x ∈ l, (g x).length ≤ 20000) (hn : l.length ≤ 1000) : (rowB g l).length ≤ 20000002 := by
  have := flat_len h
  unfold rowB; rw [List.length_append, be_len]; omega
theorem State_eq {s : TState} (h : StOk s) : codec_State s = some (stB s, ()) := by
  unfold codec_State
  have a1 := rowB_len (g := hoB) (fun x hx => hoB_len (h.h x hx)) h.hn
  have a2 := rowB_len (g := swB) (fun x hx => swB_len (h.w x hx)) h.wn
  have a3 := rowB_len (g := knB) (fun x hx => knB_len (h.k x hx)) h.kn
  have a4 := rowB_len (g := prB) (fun x hx => prB_len (h.p x hx)) h.pn
  have l8 := be_len s.1 8
  have l2 := be_len s.2.1 2
  rw [num_eq _ _ (by simp)]
  simp only [bnd_val, List.nil_append]
  rw [small_eq _ _ (by omega)]
  simp only [bnd_val]
  rw [rows_eq h.h h.hn _ (by simp only [List.length_append]; omega)]
  simp only [bnd_val]
  rw [show be (s.2.2.1.length : Int) 2 ++ s.2.2.1.flatMap hoB = rowB hoB s.2.2.1 from rfl, rows_v1_eq h.w h.wn _ (by simp only [List.length_append]; omega)]
  simp only [bnd_val]
  rw [show be (s.2.2.2.1.length : Int) 2 ++ s.2.2.2.1.flatMap swB = rowB swB s.2.2.2.1 from rfl, rows_v3_eq h.k h.kn _ (by simp only [List.length_append]; omega)]
  simp only [bnd_val]
  rw [show be (s.2.2.2.2.1.length : Int) 2 ++ s.2.2.2.2.1.flatMap knB = rowB knB s.2.2.2.2.1 from rfl, rows_v4_eq h.p h.pn _ (by simp only [List.length_append]; omega)]
  simp only [bnd_val]
  rw [show be (s.2.2.2.2.2.1.length : Int) 2 ++ s.2.2.2.2.2.1.flatMap prB = rowB prB s.2.2.2.2.2.1 from rfl, rows_v5_eq h.c h.cn _ (by simp only [List.length_append]; omega)]
  simp only [bnd_val, List.append_assoc]
  rfl
end Go.Tr
namespace Go.Tr
open Go
set_option linter.unusedVariables false
set_option linter.unusedSimpArgs false
set_option maxRecDepth 100000
set_option maxHeartbeats 4000000
theorem tb_app (a b : List Int) : toBytes a ++ toBytes b = toBytes (a ++ b) := (toBytes_app a b).symm
theorem lsight_eq {x : TSight} (h : SiOk x) : terrierlaw19_sight x = some (toBytes (siB x), ()) := by
  unfold terrierlaw19_sight
  rw [put1_eq, put8_eq]
  have l1 : (toBytes (be x.1 1)).length = 1 := by rw [toBytes_len, be_len]
  have l8 : (toBytes (be x.2.2 8)).length = 8 := by rw [toBytes_len, be_len]
  have l6 : (toBytes (m6l x.2.1)).length = 6 := by rw [toBytes_len]; rfl
  unfold m6l at l6
  simp only [bnd_val, ltO_def]
  rw [chk_pos (by decide), chk_pos (by omega), chk_pos (by simp only [List.length_append, l1, l6, l8]; omega)]
  unfold siB m6l
  rw [tb_app, tb_app, be1]
theorem lhold_eq {x : THold} (h : HoOk x) : terrierlaw19_holder x = some (toBytes (hoB x), ()) := lholder_eq h.1 (by have := h.2.1; omega)
end Go.Tr
namespace Go.Tr
open Go
set_option linter.unusedVariables false
set_option linter.unusedSimpArgs false
set_option maxRecDepth 100000
set_option maxHeartbeats 4000000
attribute [local irreducible] takeS
def sweepR (r : Rd8) : TSweep × Rd8 :=
  let r1 := (blockR r).2
  let r2 := (takeS 8 r1).2
  (((blockR r).1, numS 8 r1, numS 2 r2), (takeS 2 r2).2)
def sightR (r : Rd8) : TSight × Rd8 :=
  let r1 := (takeS 1 r).2
  let r2 := (takeS 6 r1).2
  ((numS 1 r, macL (takeS 6 r1).1, numS 8 r2), (takeS 8 r2).2)
def readN {α : Type} (part : Rd8 → α × Rd8) : Nat → Rd8 → List α × Rd8
  | 0, r => ([], r)
  | n + 1, r => match r.2 with
    | true => ([], r)
    | false => ((part r).1 :: (readN part n (part r).2).1, (readN part n (part r).2).2)
def readS {α : Type} (part : Rd8 → α × Rd8) (r : Rd8) : List α × Rd8 := readN part (numS 2 r).toNat (takeS 2 r).2
def knownR (r : Rd8) : TKnown × Rd8 :=
  let r1 := (takeS 4 r).2
  ((numS 4 r, (readS sightR r1).1), (readS sightR r1).2)
def probeR (r : Rd8) : TProbe × Rd8 :=
  let r1 := (takeS 4 r).2
  let r2 := (takeS 2 r1).2
  let r3 := (takeS 8 r2).2
  ((numS 4 r, numS 4 r % 65536, numS 2 r1, numS 8 r2, numS 1 r3), (takeS 1 r3).2)
def caseR (r : Rd8) : TCase × Rd8 :=
  let r1 := (takeS 4 r).2
  let r2 := (takeS 8 r1).2
  let r3 := (takeS 8 r2).2
  ((numS 4 r, numS 8 r1, numS 8 r2, numS 1 r3), (takeS 1 r3).2)
theorem num2 {r : Rd8} (hr : by8s r.1) : 0 ≤ numS 2 r ∧ numS 2 r ≤ 65535 := by
  have := de_bd (takeS 2 r).1 (takeS_by8 hr).1 0 (by omega)
  rw [takeS_len] at this
  have h1 : 0 ≤ de (takeS 2 r).1 := this.1
  have h2 : de (takeS 2 r).1 < (0 + 1) * 256 ^ 2 := this.2
  have e : numS 2 r = de (takeS 2 r).1 := w64 (by omega) (by omega)
  rw [e]; exact ⟨h1, by omega⟩
theorem rsweep_eq {r : Rd8} (hr : by8s r.1) : codec_ReadState_1 r.1 r.2 = some ((sweepR r).1, (sweepR r).2.1, (sweepR r).2.2, ()) := by
  unfold codec_ReadState_1
  have h4 := (takeS_by8 (n := 4) hr).2
  have h5 : by8s (blockR r).2.1 := (takeS_by8 (n := 1) h4).2
  rw [rblock_eq (r := (r.1, r.2)) hr]
  simp only [bnd_val]
  rw [rnum_eq h5]
  simp only [bnd_val]
  rw [rsmall_eq (takeS_by8 (n := 8) h5).2]
  rfl
theorem rsight_eq {r : Rd8} (hr : by8s r.1) : codec_reader_sight r = some ((sightR r).1, (sightR r).2, ()) := by
  unfold codec_reader_sight
  have h1 := (takeS_by8 (n := 1) hr).2
  rw [one_eq' hr]
  simp only [bnd_val]
  rw [rmac_eq]
  simp only [bnd_val]
  rw [rnum_eq (takeS_by8 (n := 6) h1).2]
  rfl
theorem rprobe_eq {r : Rd8} (hr : by8s r.1) : codec_ReadState_3 r.1 r.2 = some ((probeR r).1, (probeR r).2.1, (probeR r).2.2, ()) := by
  unfold codec_ReadState_3
  have h1 := (takeS_by8 (n := 4) hr).2
  have h2 := (takeS_by8 (n := 2) h1).2
  have h3 := (takeS_by8 (n := 8) h2).2
  have hn := (num4 hr).1
  have n0 := hn.1
  have n1 := hn.2
  rw [rip_eq (r := (r.1, r.2)) hr]
  simp only [bnd_val, ltO_def]
  have hb : bandI .u32 (numS 4 (r.1, r.2)) 65535 = numS 4 (r.1, r.2) % 65536 := band_mask (k := .u32) 16 n0 rfl (by show 16 ≤ 32; omega)
  rw [hb, wu32 (by omega) (by omega), w64 (by omega) (by omega), rsmall_eq h1]
  simp only [bnd_val]
  rw [rnum_eq h2]
  simp only [bnd_val]
  rw [one_eq' h3]
  rfl
theorem rcase_eq {r : Rd8} (hr : by8s r.1) : codec_ReadState_4 r.1 r.2 = some ((caseR r).1, (caseR r).2.1, (caseR r).2.2, ()) := by
  unfold codec_ReadState_4
  have h1 := (takeS_by8 (n := 4) hr).2
  have h2 := (takeS_by8 (n := 8) h1).2
  have h3 := (takeS_by8 (n := 8) h2).2
  rw [rip_eq (r := (r.1, r.2)) hr]
  simp only [bnd_val]
  rw [rnum_eq h1]
  simp only [bnd_val]
  rw [rnum_eq h2]
  simp only [bnd_val]
  rw [one_eq' h3]
  rfl
theorem read_loop {α : Type} (f : (Int × List α × Rd8 × Unit) → Option ((Int × List α × Rd8 × Unit) ⊕ ((List Int × Bool × List α × Unit) ⊕ (Rd8 × List α × Unit)))) (part : Rd8 → α × Rd8)
    (h1 : ∀ (n : Int) (out : List α) (r : Rd8), by8s r.1 → 0 < n → n ≤ 65535 → r.2 = false → out.length ≤ 65535 → f (n, out, r, ()) = some (.inl (n - 1, out ++ [(part r).1], (part r).2, ())))
    (h2 : ∀ (n : Int) (out : List α) (r : Rd8), (n = 0 ∨ r.2 = true) → f (n, out, r, ()) = some (.inr (.inl (r.1, r.2, out, ()))))
    (h3 : ∀ r : Rd8, by8s r.1 → by8s (part r).2.1) :
    ∀ (k : Nat) (out : List α) (r : Rd8), by8s r.1 → out.length + k ≤ 65535 → loopM f ((k : Int), out, r, ()) = some (.inl ((readN part k r).2.1, (readN part k r).2.2, out ++ (readN part k r).1, ()))
  | 0, out, r, hr, hk => by
    rw [loopM_last (h2 ((0 : Nat) : Int) out r (.inl rfl))]
    simp [readN]
  | k + 1, out, r, hr, hk => by
    cases hb : r.2 with
    | true =>
      rw [loopM_last (h2 _ out r (.inr hb))]
      simp [readN, hb]
    | false =>
      rw [loopM_next (h1 _ out r hr (by omega) (by omega) hb (by omega)), show ((k + 1 : Nat) : Int) - 1 = (k : Int) from by omega, read_loop f part h1 h2 h3 k _ _ (h3 r hr) (by simp; omega)]
      simp [readN, hb]
theorem readN_by8 {α : Type} {part : Rd8 → α × Rd8} (h3 : ∀ r : Rd8, by8s r.1 → by8s (part r).2.1) : ∀ (k : Nat) (r : Rd8), by8s r.1 → by8s (readN part k r).2.1
  | 0, r, hr => hr
  | k + 1, r, hr => by
    cases hb : r.2 with
    | true => simpa [readN, hb] using hr
    | false => simpa [readN, hb] using readN_by8 h3 k _ (h3 r hr)
theorem readN_all {α : Type} {part : Rd8 → α × Rd8} {P : α → Prop} (h3 : ∀ r : Rd8, by8s r.1 → by8s (part r).2.1) (hp : ∀ r : Rd8, by8s r.1 → P (part r).1) : ∀ (k : Nat) (r : Rd8), by8s r.1 → ∀ x ∈ (readN part k r).1, P x
  | 0, r, hr, x, hx => by simp [readN] at hx
  | k + 1, r, hr, x, hx => by
    cases hb : r.2 with
    | true => simp [readN, hb] at hx
    | false =>
      simp only [readN, hb, List.mem_cons] at hx
      rcases hx with rfl | hx
      · exact hp r hr
      · exact readN_all h3 hp k _ (h3 r hr) x hx
theorem readN_len {α : Type} {part : Rd8 → α × Rd8} : ∀ (k : Nat) (r : Rd8), (readN part k r).1.length ≤ k
  | 0, r => by simp [readN]
  | k + 1, r => by
    cases hb : r.2 with
    | true => simp [readN, hb]
    | false => simp only [readN, hb, List.length_cons]; have := readN_len (part := part) k (part r).2; omega
theorem readS_by8 {α : Type} {part : Rd8 → α × Rd8} (h3 : ∀ r : Rd8, by8s r.1 → by8s (part r).2.1) {r : Rd8} (hr : by8s r.1) : by8s (readS part r).2.1 := readN_by8 h3 _ _ (takeS_by8 hr).2
theorem readS_all {α : Type} {part : Rd8 → α × Rd8} {P : α → Prop} (h3 : ∀ r : Rd8, by8s r.1 → by8s (part r).2.1) (hp : ∀ r : Rd8, by8s r.1 → P (part r).1) {r : Rd8} (hr : by8s r.1) : ∀ x ∈ (readS part r).1, P x := readN_all h3 hp _ _ (takeS_by8 hr).2
theorem readS_len {α : Type} {part : Rd8 → α × Rd8} {r : Rd8} (hr : by8s r.1) : (readS part r).1.length ≤ 65535 := by
  have := readN_len (part := part) (numS 2 r).toNat (takeS 2 r).2
  have := num2 hr
  unfold readS; omega
theorem hold_by8 {r : Rd8} (hr : by8s r.1) : by8s (holdR r).2.1 := (takeS_by8 (takeS_by8 (takeS_by8 (takeS_by8 hr).2).2).2).2
theorem sweep_by8 {r : Rd8} (hr : by8s r.1) : by8s (sweepR r).2.1 := (takeS_by8 (takeS_by8 (takeS_by8 (takeS_by8 hr).2).2).2).2
theorem sight_by8 {r : Rd8} (hr : by8s r.1) : by8s (sightR r).2.1 := (takeS_by8 (takeS_by8 (takeS_by8 hr).2).2).2
theorem known_by8 {r : Rd8} (hr : by8s r.1) : by8s (knownR r).2.1 := readS_by8 (fun _ h => sight_by8 h) (takeS_by8 hr).2
theorem probe_by8 {r : Rd8} (hr : by8s r.1) : by8s (probeR r).2.1 := (takeS_by8 (takeS_by8 (takeS_by8 (takeS_by8 hr).2).2).2).2
theorem case_by8 {r : Rd8} (hr : by8s r.1) : by8s (caseR r).2.1 := (takeS_by8 (takeS_by8 (takeS_by8 (takeS_by8 hr).2).2).2).2
theorem read_eq {r : Rd8} (hr : by8s r.1) : codec_read r = some ((readS holdR r).2, (readS holdR r).1, ()) := by
  unfold codec_read
  have hn := num2 hr
  rw [rsmall_eq hr]
  simp only [bnd_val]
  have L := read_loop (fun s : Int × (List THold) × Rd8 × Unit => codec_read_b0 s.1 s.2.1 s.2.2.1) holdR
    (fun n out r hr hn hn2 hb ho => by
      show codec_read_b0 n out r = _
      unfold codec_read_b0
      simp only [chk_same, ltO_def]
      rw [decide_eq_true hn, hb, Bool.not_false, Bool.and_self, cnd_true]
      have he := rholder_eq hr
      rw [show r = r from rfl] at he
      rw [he]
      simp only [bnd_val]
      rw [chk_pos (by show _ * _ ≤ _; simp only [List.length_cons, List.length_nil]; omega), w64 (by omega) (by omega)])
    (fun n out r h => by
      show codec_read_b0 n out r = _
      unfold codec_read_b0
      simp only [chk_same, ltO_def]
      have : (decide (n > 0) && !r.2) = false := by
        rcases h with h | h
        · subst h; rfl
        · rw [h]; simp
      rw [this]; rfl)
    (fun r h => hold_by8 h) (numS 2 r).toNat [] (takeS 2 r).2 (takeS_by8 hr).2 (by simp; omega)
  rw [Int.toNat_of_nonneg hn.1] at L
  have L' : codec_read_l0 (numS 2 r, [], (takeS 2 r).2, ()) = _ := L
  rw [L']
  rfl
theorem read_v1_eq {r : Rd8} (hr : by8s r.1) : codec_read_v1 r = some ((readS sweepR r).2, (readS sweepR r).1, ()) := by
  unfold codec_read_v1
  have hn := num2 hr
  rw [rsmall_eq hr]
  simp only [bnd_val]
  have L := read_loop (fun s : Int × (List TSweep) × Rd8 × Unit => codec_read_v1_b0 s.1 s.2.1 s.2.2.1) sweepR
    (fun n out r hr hn hn2 hb ho => by
      show codec_read_v1_b0 n out r = _
      unfold codec_read_v1_b0
      simp only [chk_same, ltO_def]
      rw [decide_eq_true hn, hb, Bool.not_false, Bool.and_self, cnd_true]
      have he := rsweep_eq hr
      rw [hb] at he
      rw [he]
      simp only [bnd_val]
      rw [chk_pos (by show _ * _ ≤ _; simp only [List.length_cons, List.length_nil]; omega), w64 (by omega) (by omega)])
    (fun n out r h => by
      show codec_read_v1_b0 n out r = _
      unfold codec_read_v1_b0
      simp only [chk_same, ltO_def]
      have : (decide (n > 0) && !r.2) = false := by
        rcases h with h | h
        · subst h; rfl
        · rw [h]; simp
      rw [this]; rfl)
    (fun r h => sweep_by8 h) (numS 2 r).toNat [] (takeS 2 r).2 (takeS_by8 hr).2 (by simp; omega)
  rw [Int.toNat_of_nonneg hn.1] at L
  have L' : codec_read_v1_l0 (numS 2 r, [], (takeS 2 r).2, ()) = _ := L
  rw [L']
  rfl
theorem read_v2_eq {r : Rd8} (hr : by8s r.1) : codec_read_v2 r = some ((readS sightR r).2, (readS sightR r).1, ()) := by
  unfold codec_read_v2
  have hn := num2 hr
  rw [rsmall_eq hr]
  simp only [bnd_val]
  have L := read_loop (fun s : Int × (List TSight) × Rd8 × Unit => codec_read_v2_b0 s.1 s.2.1 s.2.2.1) sightR
    (fun n out r hr hn hn2 hb ho => by
      show codec_read_v2_b0 n out r = _
      unfold codec_read_v2_b0
      simp only [chk_same, ltO_def]
      rw [decide_eq_true hn, hb, Bool.not_false, Bool.and_self, cnd_true]
      have he := rsight_eq hr
      rw [show r = r from rfl] at he
      rw [he]
      simp only [bnd_val]
      rw [chk_pos (by show _ * _ ≤ _; simp only [List.length_cons, List.length_nil]; omega), w64 (by omega) (by omega)])
    (fun n out r h => by
      show codec_read_v2_b0 n out r = _
      unfold codec_read_v2_b0
      simp only [chk_same, ltO_def]
      have : (decide (n > 0) && !r.2) = false := by
        rcases h with h | h
        · subst h; rfl
        · rw [h]; simp
      rw [this]; rfl)
    (fun r h => sight_by8 h) (numS 2 r).toNat [] (takeS 2 r).2 (takeS_by8 hr).2 (by simp; omega)
  rw [Int.toNat_of_nonneg hn.1] at L
  have L' : codec_read_v2_l0 (numS 2 r, [], (takeS 2 r).2, ()) = _ := L
  rw [L']
  rfl
theorem rknown_eq {r : Rd8} (hr : by8s r.1) : codec_ReadState_2 r.1 r.2 = some ((knownR r).1, (knownR r).2.1, (knownR r).2.2, ()) := by
  unfold codec_ReadState_2
  have h1 := (takeS_by8 (n := 4) hr).2
  rw [rip_eq (r := (r.1, r.2)) hr]
  simp only [bnd_val]
  rw [read_v2_eq h1]
  rfl
theorem read_v3_eq {r : Rd8} (hr : by8s r.1) : codec_read_v3 r = some ((readS knownR r).2, (readS knownR r).1, ()) := by
  unfold codec_read_v3
  have hn := num2 hr
  rw [rsmall_eq hr]
  simp only [bnd_val]
  have L := read_loop (fun s : Int × (List TKnown) × Rd8 × Unit => codec_read_v3_b0 s.1 s.2.1 s.2.2.1) knownR
    (fun n out r hr hn hn2 hb ho => by
      show codec_read_v3_b0 n out r = _
      unfold codec_read_v3_b0
      simp only [chk_same, ltO_def]
      rw [decide_eq_true hn, hb, Bool.not_false, Bool.and_self, cnd_true]
      have he := rknown_eq hr
      rw [hb] at he
      rw [he]
      simp only [bnd_val]
      rw [chk_pos (by show _ * _ ≤ _; simp only [List.length_cons, List.length_nil]; omega), w64 (by omega) (by omega)])
    (fun n out r h => by
      show codec_read_v3_b0 n out r = _
      unfold codec_read_v3_b0
      simp only [chk_same, ltO_def]
      have : (decide (n > 0) && !r.2) = false := by
        rcases h with h | h
        · subst h; rfl
        · rw [h]; simp
      rw [this]; rfl)
    (fun r h => known_by8 h) (numS 2 r).toNat [] (takeS 2 r).2 (takeS_by8 hr).2 (by simp; omega)
  rw [Int.toNat_of_nonneg hn.1] at L
  have L' : codec_read_v3_l0 (numS 2 r, [], (takeS 2 r).2, ()) = _ := L
  rw [L']
  rfl
theorem read_v4_eq {r : Rd8} (hr : by8s r.1) : codec_read_v4 r = some ((readS probeR r).2, (readS probeR r).1, ()) := by
  unfold codec_read_v4
  have hn := num2 hr
  rw [rsmall_eq hr]
  simp only [bnd_val]
  have L := read_loop (fun s : Int × (List TProbe) × Rd8 × Unit => codec_read_v4_b0 s.1 s.2.1 s.2.2.1) probeR
    (fun n out r hr hn hn2 hb ho => by
      show codec_read_v4_b0 n out r = _
      unfold codec_read_v4_b0
      simp only [chk_same, ltO_def]
      rw [decide_eq_true hn, hb, Bool.not_false, Bool.and_self, cnd_true]
      have he := rprobe_eq hr
      rw [hb] at he
      rw [he]
      simp only [bnd_val]
      rw [chk_pos (by show _ * _ ≤ _; simp only [List.length_cons, List.length_nil]; omega), w64 (by omega) (by omega)])
    (fun n out r h => by
      show codec_read_v4_b0 n out r = _
      unfold codec_read_v4_b0
      simp only [chk_same, ltO_def]
      have : (decide (n > 0) && !r.2) = false := by
        rcases h with h | h
        · subst h; rfl
        · rw [h]; simp
      rw [this]; rfl)
    (fun r h => probe_by8 h) (numS 2 r).toNat [] (takeS 2 r).2 (takeS_by8 hr).2 (by simp; omega)
  rw [Int.toNat_of_nonneg hn.1] at L
  have L' : codec_read_v4_l0 (numS 2 r, [], (takeS 2 r).2, ()) = _ := L
  rw [L']
  rfl
theorem read_v5_eq {r : Rd8} (hr : by8s r.1) : codec_read_v5 r = some ((readS caseR r).2, (readS caseR r).1, ()) := by
  unfold codec_read_v5
  have hn := num2 hr
  rw [rsmall_eq hr]
  simp only [bnd_val]
  have L := read_loop (fun s : Int × (List TCase) × Rd8 × Unit => codec_read_v5_b0 s.1 s.2.1 s.2.2.1) caseR
    (fun n out r hr hn hn2 hb ho => by
      show codec_read_v5_b0 n out r = _
      unfold codec_read_v5_b0
      simp only [chk_same, ltO_def]
      rw [decide_eq_true hn, hb, Bool.not_false, Bool.and_self, cnd_true]
      have he := rcase_eq hr
      rw [hb] at he
      rw [he]
      simp only [bnd_val]
      rw [chk_pos (by show _ * _ ≤ _; simp only [List.length_cons, List.length_nil]; omega), w64 (by omega) (by omega)])
    (fun n out r h => by
      show codec_read_v5_b0 n out r = _
      unfold codec_read_v5_b0
      simp only [chk_same, ltO_def]
      have : (decide (n > 0) && !r.2) = false := by
        rcases h with h | h
        · subst h; rfl
        · rw [h]; simp
      rw [this]; rfl)
    (fun r h => case_by8 h) (numS 2 r).toNat [] (takeS 2 r).2 (takeS_by8 hr).2 (by simp; omega)
  rw [Int.toNat_of_nonneg hn.1] at L
  have L' : codec_read_v5_l0 (numS 2 r, [], (takeS 2 r).2, ()) = _ := L
  rw [L']
  rfl
def stR (b : List Int) : TState × Rd8 :=
  let r1 := (takeS 8 (b, false)).2
  let hs := readS holdR (takeS 2 r1).2
  let ss := readS sweepR hs.2
  let ks := readS knownR ss.2
  let ps := readS probeR ks.2
  let cs := readS caseR ps.2
  ((numS 8 (b, false), numS 2 r1, hs.1, ss.1, ks.1, ps.1, cs.1), cs.2)
@[reducible] def zSt : TState := (0, 0, [], [], [], [], [])
def rdSt (b : List Int) : TState × Bool := if (stR b).2.2 = false ∧ (stR b).2.1 = [] ∧ rightS (stR b).1 = true then ((stR b).1, true) else (zSt, false)
theorem holdR_wf {r : Rd8} (hr : by8s r.1) : in32 (holdR r).1.1 ∧ (holdR r).1.2.1.length ≤ 140737488355328 ∧ M6ok (holdR r).1.2.2 := by
  have h1 := (takeS_by8 (n := 4) hr).2
  have h2 := (takeS_by8 (n := 1) h1).2
  refine ⟨(num4 hr).1, ?_, ?_⟩
  · show (toBytes (takeS (numS 1 (takeS 4 r).2).toNat _).1).length ≤ _
    have := (num1 h1).1
    have h9 := this.2
    rw [toBytes_len, takeS_len]; omega
  · have h3 := (takeS_by8 (n := 6) (takeS_by8 (n := (numS 1 (takeS 4 r).2).toNat) h2).2).1
    exact ⟨getD_by8 h3 0, getD_by8 h3 1, getD_by8 h3 2, getD_by8 h3 3, getD_by8 h3 4, getD_by8 h3 5⟩
theorem sightR_wf {r : Rd8} (hr : by8s r.1) : M6ok (sightR r).1.2.1 := by
  have h3 := (takeS_by8 (n := 6) (takeS_by8 (n := 1) hr).2).1
  exact ⟨getD_by8 h3 0, getD_by8 h3 1, getD_by8 h3 2, getD_by8 h3 3, getD_by8 h3 4, getD_by8 h3 5⟩
theorem stR_wf {b : List Int} (hb : by8s b) : StWf (stR b).1 := by
  have h1 : by8s (takeS 2 (takeS 8 (b, false)).2).2.1 := (takeS_by8 (takeS_by8 (r := (b, false)) hb).2).2
  have h2 := readS_by8 (part := holdR) (fun _ h => hold_by8 h) h1
  have h3 := readS_by8 (part := sweepR) (fun _ h => sweep_by8 h) h2
  have h4 := readS_by8 (part := knownR) (fun _ h => known_by8 h) h3
  have h5 := readS_by8 (part := probeR) (fun _ h => probe_by8 h) h4
  have le : ∀ n : Nat, n ≤ 65535 → n ≤ 140737488355328 := fun n h => by omega
  exact ⟨readS_all (fun _ h => hold_by8 h) (fun _ h => holdR_wf h) h1, le _ (readS_len h1),
    readS_all (P := fun x : TSweep => in32 x.1.1) (fun _ h => sweep_by8 h) (fun _ h => (num4 h).1) h2, le _ (readS_len h2),
    readS_all (P := fun x : TKnown => in32 x.1 ∧ ∀ y ∈ x.2, M6ok y.2.1) (fun _ h => known_by8 h) (fun _ h => ⟨(num4 h).1, readS_all (P := fun y : TSight => M6ok y.2.1) (fun _ h => sight_by8 h) (fun _ h => sightR_wf h) (takeS_by8 h).2⟩) h3, le _ (readS_len h3),
    readS_all (P := fun x : TProbe => in32 x.1) (fun _ h => probe_by8 h) (fun _ h => (num4 h).1) h4, le _ (readS_len h4),
    readS_all (P := fun x : TCase => in32 x.1) (fun _ h => case_by8 h) (fun _ h => (num4 h).1) h5, le _ (readS_len h5)⟩
theorem ReadState_eq {b : List Int} (hb : by8s b) : codec_ReadState b = some ((rdSt b).1, (rdSt b).2, ()) := by
  unfold codec_ReadState
  have h0 := (takeS_by8 (n := 8) (r := (b, false)) hb).2
  have h1 := (takeS_by8 (n := 2) h0).2
  have h2 := readS_by8 (part := holdR) (fun _ h => hold_by8 h) h1
  have h3 := readS_by8 (part := sweepR) (fun _ h => sweep_by8 h) h2
  have h4 := readS_by8 (part := knownR) (fun _ h => known_by8 h) h3
  have h5 := readS_by8 (part := probeR) (fun _ h => probe_by8 h) h4
  rw [rnum_eq (r := (b, false)) hb]
  simp only [bnd_val]
  rw [rsmall_eq h0]
  simp only [bnd_val]
  rw [read_eq h1]
  simp only [bnd_val]
  rw [read_v1_eq h2]
  simp only [bnd_val]
  rw [read_v3_eq h3]
  simp only [bnd_val]
  rw [read_v4_eq h4]
  simp only [bnd_val]
  rw [read_v5_eq h5]
  simp only [bnd_val]
  have hw := cright_eq (stR_wf hb)
  have hst : codec_Right (numS 8 (b, false), numS 2 (takeS 8 (b, false)).2, (readS holdR (takeS 2 (takeS 8 (b, false)).2).2).1, (readS sweepR (readS holdR (takeS 2 (takeS 8 (b, false)).2).2).2).1,
    (readS knownR (readS sweepR (readS holdR (takeS 2 (takeS 8 (b, false)).2).2).2).2).1, (readS probeR (readS knownR (readS sweepR (readS holdR (takeS 2 (takeS 8 (b, false)).2).2).2).2).2).1,
    (readS caseR (readS probeR (readS knownR (readS sweepR (readS holdR (takeS 2 (takeS 8 (b, false)).2).2).2).2).2).2).1) = some (rightS (stR b).1, ()) := hw
  rw [hst]
  simp only [chk_same, chk_nn, ltO_def, bndG_val]
  have hr : (readS caseR (readS probeR (readS knownR (readS sweepR (readS holdR (takeS 2 (takeS 8 (b, false)).2).2).2).2).2).2).2 = (stR b).2 := rfl
  rw [hr]
  unfold rdSt
  by_cases h : (stR b).2.2 = false ∧ (stR b).2.1 = [] ∧ rightS (stR b).1 = true
  · rw [if_pos h, h.1, h.2.1, h.2.2]; rfl
  · rw [if_neg h]
    have : (((stR b).2.2 || decide (((stR b).2.1.length : Int) > 0)) || !rightS (stR b).1) = true := by
      cases q1 : (stR b).2.2 with
      | true => rfl
      | false =>
        cases q2 : (stR b).2.1 with
        | cons a l => simp
        | nil =>
          cases q3 : rightS (stR b).1 with
          | false => rfl
          | true => exact absurd ⟨q1, q2, q3⟩ h
    rw [this]; rfl
end Go.Tr
namespace Go.Tr
open Go
set_option linter.unusedVariables false
set_option linter.unusedSimpArgs false
set_option maxRecDepth 100000
set_option maxHeartbeats 4000000
theorem all_get {α : Type} {p : Nat → Bool} {l : List α} (h : (List.range' 0 l.length).all p = true) {x : α} (hx : x ∈ l) : ∃ i, ∃ hi : i < l.length, l[i] = x ∧ p i = true := by
  obtain ⟨i, hi, rfl⟩ := List.mem_iff_getElem.1 hx
  exact ⟨i, hi, rfl, List.all_eq_true.1 h i (by simp [List.mem_range']; exact hi)⟩
theorem getD_at {α : Type} {l : List α} {i : Nat} (hi : i < l.length) (z : α) : l.getD i z = l[i] := by
  rw [List.getD_eq_getElem?_getD, List.getElem?_eq_getElem hi]; rfl
structure StBd (s : TState) : Prop where
  k : ∀ x ∈ s.2.2.2.2.1, ∀ y ∈ x.2, -9223372036854775808 ≤ y.2.2 ∧ y.2.2 ≤ 9223372036854775807
theorem stB_by8 {s : TState} (h : StOk s) : by8s (stB s) := by
  have one : ∀ n : Int, by8s [n % 256] := fun n c hc => by
    simp only [List.mem_cons, List.not_mem_nil, or_false] at hc
    subst hc; exact ⟨by omega, by omega⟩
  have si : ∀ x : TSight, SiOk x → by8s (siB x) := fun x hx => by8s_app (by8s_app (one _) (m6l_by8 hx)) (be_by8 _ 8)
  unfold stB rowB
  refine by8s_app (be_by8 _ 8) (by8s_app (be_by8 _ 2) (by8s_app (by8s_app (be_by8 _ 2) (flat_by8 fun x hx => ?_)) (by8s_app (by8s_app (be_by8 _ 2) (flat_by8 fun x hx => ?_)) (by8s_app (by8s_app (be_by8 _ 2) (flat_by8 fun x hx => ?_))
    (by8s_app (by8s_app (be_by8 _ 2) (flat_by8 fun x hx => ?_)) (by8s_app (be_by8 _ 2) (flat_by8 fun x hx => ?_)))))))
  · exact by8s_app (by8s_app (by8s_app (be_by8 _ 4) (one _)) (ofBytes_by8 _)) (m6l_by8 (h.h x hx).2.2)
  · exact by8s_app (by8s_app (by8s_app (be_by8 _ 4) (one _)) (be_by8 _ 8)) (be_by8 _ 2)
  · exact by8s_app (be_by8 _ 4) (by8s_app (be_by8 _ 2) (flat_by8 fun y hy => si y ((h.k x hx).2.2 y hy)))
  · exact by8s_app (by8s_app (by8s_app (be_by8 _ 4) (be_by8 _ 2)) (be_by8 _ 8)) (one _)
  · exact by8s_app (by8s_app (by8s_app (be_by8 _ 4) (be_by8 _ 8)) (be_by8 _ 8)) (one _)
theorem StOk.wf {s : TState} (h : StOk s) : StWf s := by
  have le : ∀ n : Nat, n ≤ 1000 → n ≤ 140737488355328 := fun n h => by omega
  exact ⟨fun x hx => ⟨(h.h x hx).1, le _ (h.h x hx).2.1, (h.h x hx).2.2⟩, le _ h.hn, h.w, le _ h.wn, fun x hx => ⟨(h.k x hx).1, (h.k x hx).2.2⟩, le _ h.kn, h.p, le _ h.pn, h.c, le _ h.cn⟩
end Go.Tr
namespace Go.Tr
open Go
set_option linter.unusedVariables false
set_option linter.unusedSimpArgs false
set_option maxRecDepth 100000
set_option maxHeartbeats 4000000
section
variable {t : TState} (ht : StWf t)
include ht
end
end Go.Tr
