/- A state's bytes: what the printed functions come to. A state's bytes, as the law's own text says them. What is read of bytes as a state. What is read of a state's own bytes; the law of any state's bytes. The law of any state's bytes. Conditions: none but those that each theorem states. -/
import Derived.Test.YtklmhllelgjglaaGreatRightS
namespace Go.Tr
open Go
set_option linter.unusedVariables false
set_option linter.unusedSimpArgs false
set_option maxRecDepth 100000
set_option maxHeartbeats 4000000
theorem fold_loop {S Y : Type} (f : S → Option (S ⊕ Y)) (n : Nat) (St : Nat → S) (y : Y) (h : ∀ i, i < n → f (St i) = some (.inl (St (i + 1)))) (he : f (St n) = some (.inr y)) : loopM f (St 0) = some y := by
  rw [loopM_steps (f := f) St (a := 0) (n := n) (by omega) (fun i _ hi => h i hi), loopM_last he]
def swB (s : TSweep) : List Int := be s.1.1 4 ++ [s.1.2 % 256] ++ be s.2.1 8 ++ be s.2.2 2
def siB (x : TSight) : List Int := [x.1 % 256] ++ m6l x.2.1 ++ be x.2.2 8
def knB (x : TKnown) : List Int := be x.1 4 ++ (be (x.2.length : Int) 2 ++ x.2.flatMap siB)
def prB (x : TProbe) : List Int := be x.1 4 ++ be x.2.2.1 2 ++ be x.2.2.2.1 8 ++ [x.2.2.2.2 % 256]
def caB (c : TCase) : List Int := be c.1 4 ++ be c.2.1 8 ++ be c.2.2.1 8 ++ [c.2.2.2 % 256]
def HoOk (h : THold) : Prop := in32 h.1 ∧ h.2.1.length ≤ 1000 ∧ M6ok h.2.2
def SwOk (s : TSweep) : Prop := in32 s.1.1
def SiOk (x : TSight) : Prop := M6ok x.2.1
def KnOk (x : TKnown) : Prop := in32 x.1 ∧ x.2.length ≤ 1000 ∧ ∀ y ∈ x.2, SiOk y
def PrOk (x : TProbe) : Prop := in32 x.1
def CaOk (c : TCase) : Prop := in32 c.1
theorem flat_len {α : Type} {g : α → List Int} {K : Nat} : ∀ {l : List α}, (∀ x ∈ l, (g x).length ≤ K) → (l.flatMap g).length ≤ l.length * K
  | [], _ => by simp
  | x :: l, h => by
    have h1 := h x (by simp)
    have h2 := flat_len (l := l) fun y hy => h y (by simp [hy])
    simp only [List.flatMap_cons, List.length_append, List.length_cons]
    rw [Nat.add_mul]; omega
theorem flat_take {α : Type} {g : α → List Int} {l : List α} {i : Nat} (hi : i < l.length) : (l.take (i + 1)).flatMap g = (l.take i).flatMap g ++ g l[i] := by
  rw [← List.take_append_getElem hi, List.flatMap_append]; simp
theorem flat_by8 {α : Type} {g : α → List Int} {l : List α} (h : ∀ x ∈ l, by8s (g x)) : by8s (l.flatMap g) := by
  intro c hc
  obtain ⟨x, hx, hc⟩ := List.mem_flatMap.1 hc
  exact h x hx c hc
theorem m6l_len (m : TMac) : (m6l m).length = 6 := rfl
theorem hoB_len {h : THold} (hh : HoOk h) : (hoB h).length ≤ 20000 := by
  unfold hoB; simp only [List.length_append, be_len, ofBytes_len, List.length_cons, List.length_nil, m6l_len]; have := hh.2.1; omega
theorem swB_len {s : TSweep} (hh : SwOk s) : (swB s).length ≤ 20000 := by
  unfold swB; simp only [List.length_append, be_len, List.length_cons, List.length_nil]; omega
theorem siB_len {s : TSight} (hh : SiOk s) : (siB s).length ≤ 15 := by
  unfold siB; simp only [List.length_append, be_len, List.length_cons, List.length_nil, m6l_len]; omega
theorem knB_len {s : TKnown} (hh : KnOk s) : (knB s).length ≤ 20000 := by
  have := flat_len (g := siB) (K := 15) (l := s.2) fun x hx => siB_len (hh.2.2 x hx)
  unfold knB; simp only [List.length_append, be_len]; have := hh.2.1; omega
theorem prB_len {s : TProbe} (hh : PrOk s) : (prB s).length ≤ 20000 := by
  unfold prB; simp only [List.length_append, be_len, List.length_cons, List.length_nil]; omega
theorem caB_len {s : TCase} (hh : CaOk s) : (caB s).length ≤ 20000 := by
  unfold caB; simp only [List.length_append, be_len, List.length_cons, List.length_nil]; omega
theorem part_ {h : THold} (hh : HoOk h) (b : List Int) (hb : b.length ≤ 70000000000000) : codec_holder h b = some (b ++ hoB h, ()) :=
  holder_eq hh.1 (by have := hh.2.1; omega) b (by omega)
theorem part_v1 {s : TSweep} (hh : SwOk s) (b : List Int) (hb : b.length ≤ 70000000000000) : codec_State_1 s b = some (b ++ swB s, ()) := by
  unfold codec_State_1
  have l4 := be_len s.1.1 4
  have l8 := be_len s.2.1 8
  rw [block_eq hh b (by omega)]
  simp only [bnd_val]
  rw [num_eq _ _ (by simp only [List.length_append, l4, List.length_cons, List.length_nil]; omega)]
  simp only [bnd_val]
  rw [small_eq _ _ (by simp only [List.length_append, l4, l8, List.length_cons, List.length_nil]; omega)]
  simp [swB]
theorem part_v2 {s : TSight} (hh : SiOk s) (b : List Int) (hb : b.length ≤ 70000000000000) : codec_sight s b = some (b ++ siB s, ()) := by
  unfold codec_sight
  rw [ltO_def, u8_wrap, chk_pos (by simp only [room1, List.length_cons, List.length_nil]; omega), chk_pos (by decide), chk_pos (by simp only [room1, List.length_append, List.length_cons, List.length_nil]; omega),
    num_eq _ _ (by simp only [List.length_append, List.length_cons, List.length_nil]; omega)]
  simp [siB, m6l]
theorem part_v4 {s : TProbe} (hh : PrOk s) (b : List Int) (hb : b.length ≤ 70000000000000) : codec_State_3 s b = some (b ++ prB s, ()) := by
  unfold codec_State_3
  have l4 := be_len s.1 4
  have l2 := be_len s.2.2.1 2
  have l8 := be_len s.2.2.2.1 8
  rw [ip_eq hh b (by omega)]
  simp only [bnd_val]
  rw [small_eq _ _ (by simp only [List.length_append, l4]; omega)]
  simp only [bnd_val]
  rw [num_eq _ _ (by simp only [List.length_append, l4, l2]; omega)]
  simp only [bnd_val, ltO_def]
  rw [chk_pos (by simp only [room1, List.length_append, List.length_cons, List.length_nil, l4, l2, l8]; omega), u8_wrap]
  simp [prB]
theorem part_v5 {s : TCase} (hh : CaOk s) (b : List Int) (hb : b.length ≤ 70000000000000) : codec_State_4 s b = some (b ++ caB s, ()) := by
  unfold codec_State_4
  have l4 := be_len s.1 4
  have l8 := be_len s.2.1 8
  have l9 := be_len s.2.2.1 8
  rw [ip_eq hh b (by omega)]
  simp only [bnd_val]
  rw [num_eq _ _ (by simp only [List.length_append, l4]; omega)]
  simp only [bnd_val]
  rw [num_eq _ _ (by simp only [List.length_append, l4, l8]; omega)]
  simp only [bnd_val, ltO_def]
  rw [chk_pos (by simp only [room1, List.length_append, List.length_cons, List.length_nil, l4, l8, l9]; omega), u8_wrap]
  simp [caB]
theorem rows_eq {l : List THold} (hl : ∀ x ∈ l, HoOk x) (hn : l.length ≤ 1000) (b : List Int) (hb : b.length ≤ 60000000000000) : codec_rows l b = some (b ++ (be (l.length : Int) 2 ++ l.flatMap hoB), ()) := by
  unfold codec_rows
  rw [small_eq _ b (by omega)]
  simp only [bnd_val]
  have l2 := be_len (l.length : Int) 2
  have L : codec_rows_l0 (l, (l.length : Int), 0, b ++ be (l.length : Int) 2, ()) = some (.inl (b ++ be (l.length : Int) 2 ++ l.flatMap hoB, ())) := by
    unfold codec_rows_l0
    have := fold_loop (fun s : (List THold) × Int × Int × (List Int) × Unit => codec_rows_b0 s.1 s.2.1 s.2.2.1 s.2.2.2.1) l.length (fun i => (l, (l.length : Int), (i : Int), b ++ be (l.length : Int) 2 ++ (l.take i).flatMap hoB, ())) (.inl (b ++ be (l.length : Int) 2 ++ l.flatMap hoB, ()))
      (fun i hi => by
        show codec_rows_b0 l (l.length : Int) (i : Int) (b ++ be (l.length : Int) 2 ++ (l.take i).flatMap hoB) = _
        unfold codec_rows_b0
        have hx : HoOk l[i] := hl _ (List.getElem_mem hi)
        have hf := flat_len (g := hoB) (K := 20000) (l := l.take i) fun x hx => hoB_len (hl x (List.mem_of_mem_take hx))
        have hf2 : (l.take i).length ≤ 1000 := by rw [List.length_take]; omega
        rw [decide_eq_true (by omega), cnd_true, chk_pos (by omega)]
        simp only [ltO_def, recD, getD_toNat]
        have hg : l.getD i zHold = l[i] := by rw [List.getD_eq_getElem?_getD, List.getElem?_eq_getElem hi]; rfl
        rw [hg, part_ hx _ (by simp only [List.length_append, l2]; omega), w64 (by omega) (by omega), flat_take hi]
        simp only [bnd_val, List.append_assoc]; rfl)
      (by
        show codec_rows_b0 l (l.length : Int) (l.length : Int) (b ++ be (l.length : Int) 2 ++ (l.take l.length).flatMap hoB) = _
        unfold codec_rows_b0
        rw [decide_eq_false (by omega), List.take_length]; rfl)
    simpa using this
  rw [L]
  simp
theorem rows_v1_eq {l : List TSweep} (hl : ∀ x ∈ l, SwOk x) (hn : l.length ≤ 1000) (b : List Int) (hb : b.length ≤ 60000000000000) : codec_rows_v1 l b = some (b ++ (be (l.length : Int) 2 ++ l.flatMap swB), ()) := by
  unfold codec_rows_v1
  rw [small_eq _ b (by omega)]
  simp only [bnd_val]
  have l2 := be_len (l.length : Int) 2
  have L : codec_rows_v1_l0 (l, (l.length : Int), 0, b ++ be (l.length : Int) 2, ()) = some (.inl (b ++ be (l.length : Int) 2 ++ l.flatMap swB, ())) := by
    unfold codec_rows_v1_l0
    have := fold_loop (fun s : (List TSweep) × Int × Int × (List Int) × Unit => codec_rows_v1_b0 s.1 s.2.1 s.2.2.1 s.2.2.2.1) l.length (fun i => (l, (l.length : Int), (i : Int), b ++ be (l.length : Int) 2 ++ (l.take i).flatMap swB, ())) (.inl (b ++ be (l.length : Int) 2 ++ l.flatMap swB, ()))
      (fun i hi => by
        show codec_rows_v1_b0 l (l.length : Int) (i : Int) (b ++ be (l.length : Int) 2 ++ (l.take i).flatMap swB) = _
        unfold codec_rows_v1_b0
        have hx : SwOk l[i] := hl _ (List.getElem_mem hi)
        have hf := flat_len (g := swB) (K := 20000) (l := l.take i) fun x hx => swB_len (hl x (List.mem_of_mem_take hx))
        have hf2 : (l.take i).length ≤ 1000 := by rw [List.length_take]; omega
        rw [decide_eq_true (by omega), cnd_true, chk_pos (by omega)]
        simp only [ltO_def, recD, getD_toNat]
        have hg : l.getD i zSweep = l[i] := by rw [List.getD_eq_getElem?_getD, List.getElem?_eq_getElem hi]; rfl
        rw [hg, part_v1 hx _ (by simp only [List.length_append, l2]; omega), w64 (by omega) (by omega), flat_take hi]
        simp only [bnd_val, List.append_assoc]; rfl)
      (by
        show codec_rows_v1_b0 l (l.length : Int) (l.length : Int) (b ++ be (l.length : Int) 2 ++ (l.take l.length).flatMap swB) = _
        unfold codec_rows_v1_b0
        rw [decide_eq_false (by omega), List.take_length]; rfl)
    simpa using this
  rw [L]
  simp
theorem rows_v2_eq {l : List TSight} (hl : ∀ x ∈ l, SiOk x) (hn : l.length ≤ 1000) (b : List Int) (hb : b.length ≤ 60000000000000) : codec_rows_v2 l b = some (b ++ (be (l.length : Int) 2 ++ l.flatMap siB), ()) := by
  unfold codec_rows_v2
  rw [small_eq _ b (by omega)]
  simp only [bnd_val]
  have l2 := be_len (l.length : Int) 2
  have L : codec_rows_v2_l0 (l, (l.length : Int), 0, b ++ be (l.length : Int) 2, ()) = some (.inl (b ++ be (l.length : Int) 2 ++ l.flatMap siB, ())) := by
    unfold codec_rows_v2_l0
    have := fold_loop (fun s : (List TSight) × Int × Int × (List Int) × Unit => codec_rows_v2_b0 s.1 s.2.1 s.2.2.1 s.2.2.2.1) l.length (fun i => (l, (l.length : Int), (i : Int), b ++ be (l.length : Int) 2 ++ (l.take i).flatMap siB, ())) (.inl (b ++ be (l.length : Int) 2 ++ l.flatMap siB, ()))
      (fun i hi => by
        show codec_rows_v2_b0 l (l.length : Int) (i : Int) (b ++ be (l.length : Int) 2 ++ (l.take i).flatMap siB) = _
        unfold codec_rows_v2_b0
        have hx : SiOk l[i] := hl _ (List.getElem_mem hi)
        have hf := flat_len (g := siB) (K := 15) (l := l.take i) fun x hx => siB_len (hl x (List.mem_of_mem_take hx))
        have hf2 : (l.take i).length ≤ 1000 := by rw [List.length_take]; omega
        rw [decide_eq_true (by omega), cnd_true, chk_pos (by omega)]
        simp only [ltO_def, recD, getD_toNat]
        have hg : l.getD i zSight = l[i] := by rw [List.getD_eq_getElem?_getD, List.getElem?_eq_getElem hi]; rfl
        rw [hg, part_v2 hx _ (by simp only [List.length_append, l2]; omega), w64 (by omega) (by omega), flat_take hi]
        simp only [bnd_val, List.append_assoc]; rfl)
      (by
        show codec_rows_v2_b0 l (l.length : Int) (l.length : Int) (b ++ be (l.length : Int) 2 ++ (l.take l.length).flatMap siB) = _
        unfold codec_rows_v2_b0
        rw [decide_eq_false (by omega), List.take_length]; rfl)
    simpa using this
  rw [L]
  simp
theorem part_v3 {s : TKnown} (hh : KnOk s) (b : List Int) (hb : b.length ≤ 50000000000000) : codec_State_2 s b = some (b ++ knB s, ()) := by
  unfold codec_State_2
  have l4 := be_len s.1 4
  rw [ip_eq hh.1 b (by omega)]
  simp only [bnd_val]
  rw [rows_v2_eq hh.2.2 hh.2.1 _ (by simp only [List.length_append, l4]; omega)]
  simp [knB]
theorem rows_v3_eq {l : List TKnown} (hl : ∀ x ∈ l, KnOk x) (hn : l.length ≤ 1000) (b : List Int) (hb : b.length ≤ 40000000000000) : codec_rows_v3 l b = some (b ++ (be (l.length : Int) 2 ++ l.flatMap knB), ()) := by
  unfold codec_rows_v3
  rw [small_eq _ b (by omega)]
  simp only [bnd_val]
  have l2 := be_len (l.length : Int) 2
  have L : codec_rows_v3_l0 (l, (l.length : Int), 0, b ++ be (l.length : Int) 2, ()) = some (.inl (b ++ be (l.length : Int) 2 ++ l.flatMap knB, ())) := by
    unfold codec_rows_v3_l0
    have := fold_loop (fun s : (List TKnown) × Int × Int × (List Int) × Unit => codec_rows_v3_b0 s.1 s.2.1 s.2.2.1 s.2.2.2.1) l.length (fun i => (l, (l.length : Int), (i : Int), b ++ be (l.length : Int) 2 ++ (l.take i).flatMap knB, ())) (.inl (b ++ be (l.length : Int) 2 ++ l.flatMap knB, ()))
      (fun i hi => by
        show codec_rows_v3_b0 l (l.length : Int) (i : Int) (b ++ be (l.length : Int) 2 ++ (l.take i).flatMap knB) = _
        unfold codec_rows_v3_b0
        have hx : KnOk l[i] := hl _ (List.getElem_mem hi)
        have hf := flat_len (g := knB) (K := 20000) (l := l.take i) fun x hx => knB_len (hl x (List.mem_of_mem_take hx))
        have hf2 : (l.take i).length ≤ 1000 := by rw [List.length_take]; omega
        rw [decide_eq_true (by omega), cnd_true, chk_pos (by omega)]
        simp only [ltO_def, recD, getD_toNat]
        have hg : l.getD i ((0 : Int), []) = l[i] := by rw [List.getD_eq_getElem?_getD, List.getElem?_eq_getElem hi]; rfl
        rw [hg, part_v3 hx _ (by simp only [List.length_append, l2]; omega), w64 (by omega) (by omega), flat_take hi]
        simp only [bnd_val, List.append_assoc]; rfl)
      (by
        show codec_rows_v3_b0 l (l.length : Int) (l.length : Int) (b ++ be (l.length : Int) 2 ++ (l.take l.length).flatMap knB) = _
        unfold codec_rows_v3_b0
        rw [decide_eq_false (by omega), List.take_length]; rfl)
    simpa using this
  rw [L]
  simp
theorem rows_v4_eq {l : List TProbe} (hl : ∀ x ∈ l, PrOk x) (hn : l.length ≤ 1000) (b : List Int) (hb : b.length ≤ 60000000000000) : codec_rows_v4 l b = some (b ++ (be (l.length : Int) 2 ++ l.flatMap prB), ()) := by
  unfold codec_rows_v4
  rw [small_eq _ b (by omega)]
  simp only [bnd_val]
  have l2 := be_len (l.length : Int) 2
  have L : codec_rows_v4_l0 (l, (l.length : Int), 0, b ++ be (l.length : Int) 2, ()) = some (.inl (b ++ be (l.length : Int) 2 ++ l.flatMap prB, ())) := by
    unfold codec_rows_v4_l0
    have := fold_loop (fun s : (List TProbe) × Int × Int × (List Int) × Unit => codec_rows_v4_b0 s.1 s.2.1 s.2.2.1 s.2.2.2.1) l.length (fun i => (l, (l.length : Int), (i : Int), b ++ be (l.length : Int) 2 ++ (l.take i).flatMap prB, ())) (.inl (b ++ be (l.length : Int) 2 ++ l.flatMap prB, ()))
      (fun i hi => by
        show codec_rows_v4_b0 l (l.length : Int) (i : Int) (b ++ be (l.length : Int) 2 ++ (l.take i).flatMap prB) = _
        unfold codec_rows_v4_b0
        have hx : PrOk l[i] := hl _ (List.getElem_mem hi)
        have hf := flat_len (g := prB) (K := 20000) (l := l.take i) fun x hx => prB_len (hl x (List.mem_of_mem_take hx))
        have hf2 : (l.take i).length ≤ 1000 := by rw [List.length_take]; omega
        rw [decide_eq_true (by omega), cnd_true, chk_pos (by omega)]
        simp only [ltO_def, recD, getD_toNat]
        have hg : l.getD i ((0 : Int), (0 : Int), (0 : Int), (0 : Int), (0 : Int)) = l[i] := by rw [List.getD_eq_getElem?_getD, List.getElem?_eq_getElem hi]; rfl
        rw [hg, part_v4 hx _ (by simp only [List.length_append, l2]; omega), w64 (by omega) (by omega), flat_take hi]
        simp only [bnd_val, List.append_assoc]; rfl)
      (by
        show codec_rows_v4_b0 l (l.length : Int) (l.length : Int) (b ++ be (l.length : Int) 2 ++ (l.take l.length).flatMap prB) = _
        unfold codec_rows_v4_b0
        rw [decide_eq_false (by omega), List.take_length]; rfl)
    simpa using this
  rw [L]
  simp
theorem rows_v5_eq {l : List TCase} (hl : ∀ x ∈ l, CaOk x) (hn : l.length ≤ 1000) (b : List Int) (hb : b.length ≤ 60000000000000) : codec_rows_v5 l b = some (b ++ (be (l.length : Int) 2 ++ l.flatMap caB), ()) := by
  unfold codec_rows_v5
  rw [small_eq _ b (by omega)]
  simp only [bnd_val]
  have l2 := be_len (l.length : Int) 2
  have L : codec_rows_v5_l0 (l, (l.length : Int), 0, b ++ be (l.length : Int) 2, ()) = some (.inl (b ++ be (l.length : Int) 2 ++ l.flatMap caB, ())) := by
    unfold codec_rows_v5_l0
    have := fold_loop (fun s : (List TCase) × Int × Int × (List Int) × Unit => codec_rows_v5_b0 s.1 s.2.1 s.2.2.1 s.2.2.2.1) l.length (fun i => (l, (l.length : Int), (i : Int), b ++ be (l.length : Int) 2 ++ (l.take i).flatMap caB, ())) (.inl (b ++ be (l.length : Int) 2 ++ l.flatMap caB, ()))
      (fun i hi => by
        show codec_rows_v5_b0 l (l.length : Int) (i : Int) (b ++ be (l.length : Int) 2 ++ (l.take i).flatMap caB) = _
        unfold codec_rows_v5_b0
        have hx : CaOk l[i] := hl _ (List.getElem_mem hi)
        have hf := flat_len (g := caB) (K := 20000) (l := l.take i) fun x hx => caB_len (hl x (List.mem_of_mem_take hx))
        have hf2 : (l.take i).length ≤ 1000 := by rw [List.length_take]; omega
        rw [decide_eq_true (by omega), cnd_true, chk_pos (by omega)]
        simp only [ltO_def, recD, getD_toNat]
        have hg : l.getD i ((0 : Int), (0 : Int), (0 : Int), (0 : Int)) = l[i] := by rw [List.getD_eq_getElem?_getD, List.getElem?_eq_getElem hi]; rfl
        rw [hg, part_v5 hx _ (by simp only [List.length_append, l2]; omega), w64 (by omega) (by omega), flat_take hi]
        simp only [bnd_val, List.append_assoc]; rfl)
      (by
        show codec_rows_v5_b0 l (l.length : Int) (l.length : Int) (b ++ be (l.length : Int) 2 ++ (l.take l.length).flatMap caB) = _
        unfold codec_rows_v5_b0
        rw [decide_eq_false (by omega), List.take_length]; rfl)
    simpa using this
  rw [L]
  simp
structure StOk (s : TState) : Prop where
  h : ∀ x ∈ s.2.2.1, HoOk x
  hn : s.2.2.1.length ≤ 1000
  w : ∀ x ∈ s.2.2.2.1, SwOk x
  wn : s.2.2.2.1.length ≤ 1000
  k : ∀ x ∈ s.2.2.2.2.1, KnOk x
  kn : s.2.2.2.2.1.length ≤ 1000
  p : ∀ x ∈ s.2.2.2.2.2.1, PrOk x
  pn : s.2.2.2.2.2.1.length ≤ 1000
  c : ∀ x ∈ s.2.2.2.2.2.2, CaOk x
  cn : s.2.2.2.2.2.2.length ≤ 1000
def rowB {α : Type} (g : α → List Int) (l : List α) : List Int := be (l.length : Int) 2 ++ l.flatMap g
def stB (s : TState) : List Int := be s.1 8 ++ (be s.2.1 2 ++ (rowB hoB s.2.2.1 ++ (rowB swB s.2.2.2.1 ++ (rowB knB s.2.2.2.2.1 ++ (rowB prB s.2.2.2.2.2.1 ++ rowB caB s.2.2.2.2.2.2)))))
theorem rowB_len {α : Type} {g : α → List Int} {l : List α} (h : ∀ x ∈ l, (g x).length ≤ 20000) (hn : l.length ≤ 1000) : (rowB g l).length ≤ 20000002 := by
  have := flat_len h
  unfold rowB; rw [List.length_append, be_len]; omega
theorem State_eq {s : TState} (h : StOk s) : codec_State s = some (stB s, ()) := by
  unfold codec_State
  have a1 := rowB_len (g := hoB) (fun x hx => hoB_len (h.h x hx)) h.hn
  have a2 := rowB_len (g := swB) (fun x hx => swB_len (h.w x hx)) h.wn
  have a3 := rowB_len (g := knB) (fun x hx => knB_len (h.k x hx)) h.kn
  have a4 := rowB_len (g := prB) (fun x hx => prB_len (h.p x hx)) h.pn
  have l8 := be_len s.1 8
  have l2 := be_len s.2.1 2
  rw [num_eq _ _ (by simp)]
  simp only [bnd_val, List.nil_append]
  rw [small_eq _ _ (by omega)]
  simp only [bnd_val]
  rw [rows_eq h.h h.hn _ (by simp only [List.length_append]; omega)]
  simp only [bnd_val]
  rw [show be (s.2.2.1.length : Int) 2 ++ s.2.2.1.flatMap hoB = rowB hoB s.2.2.1 from rfl, rows_v1_eq h.w h.wn _ (by simp only [List.length_append]; omega)]
  simp only [bnd_val]
  rw [show be (s.2.2.2.1.length : Int) 2 ++ s.2.2.2.1.flatMap swB = rowB swB s.2.2.2.1 from rfl, rows_v3_eq h.k h.kn _ (by simp only [List.length_append]; omega)]
  simp only [bnd_val]
  rw [show be (s.2.2.2.2.1.length : Int) 2 ++ s.2.2.2.2.1.flatMap knB = rowB knB s.2.2.2.2.1 from rfl, rows_v4_eq h.p h.pn _ (by simp only [List.length_append]; omega)]
  simp only [bnd_val]
  rw [show be (s.2.2.2.2.2.1.length : Int) 2 ++ s.2.2.2.2.2.1.flatMap prB = rowB prB s.2.2.2.2.2.1 from rfl, rows_v5_eq h.c h.cn _ (by simp only [List.length_append]; omega)]
  simp only [bnd_val, List.append_assoc]
  rfl
end Go.Tr
namespace Go.Tr
open Go
set_option linter.unusedVariables false
set_option linter.unusedSimpArgs false
set_option maxRecDepth 100000
set_option maxHeartbeats 4000000
end Go.Tr
namespace Go.Tr
open Go
set_option linter.unusedVariables false
set_option linter.unusedSimpArgs false
set_option maxRecDepth 100000
set_option maxHeartbeats 4000000
attribute [local irreducible] takeS
def sweepR (r : Rd8) : TSweep × Rd8 :=
  let r1 := (blockR r).2
  let r2 := (takeS 8 r1).2
  (((blockR r).1, numS 8 r1, numS 2 r2), (takeS 2 r2).2)
def sightR (r : Rd8) : TSight × Rd8 :=
  let r1 := (takeS 1 r).2
  let r2 := (takeS 6 r1).2
  ((numS 1 r, macL (takeS 6 r1).1, numS 8 r2), (takeS 8 r2).2)
def readN {α : Type} (part : Rd8 → α × Rd8) : Nat → Rd8 → List α × Rd8
  | 0, r => ([], r)
  | n + 1, r => match r.2 with
    | true => ([], r)
    | false => ((part r).1 :: (readN part n (part r).2).1, (readN part n (part r).2).2)
def readS {α : Type} (part : Rd8 → α × Rd8) (r : Rd8) : List α × Rd8 := readN part (numS 2 r).toNat (takeS 2 r).2
def knownR (r : Rd8) : TKnown × Rd8 :=
  let r1 := (takeS 4 r).2
  ((numS 4 r, (readS sightR r1).1), (readS sightR r1).2)
def probeR (r : Rd8) : TProbe × Rd8 :=
  let r1 := (takeS 4 r).2
  let r2 := (takeS 2 r1).2
  let r3 := (takeS 8 r2).2
  ((numS 4 r, numS 4 r % 65536, numS 2 r1, numS 8 r2, numS 1 r3), (takeS 1 r3).2)
def caseR (r : Rd8) : TCase × Rd8 :=
  let r1 := (takeS 4 r).2
  let r2 := (takeS 8 r1).2
  let r3 := (takeS 8 r2).2
  ((numS 4 r, numS 8 r1, numS 8 r2, numS 1 r3), (takeS 1 r3).2)
def stR (b : List Int) : TState × Rd8 :=
  let r1 := (takeS 8 (b, false)).2
  let hs := readS holdR (takeS 2 r1).2
  let ss := readS sweepR hs.2
  let ks := readS knownR ss.2
  let ps := readS probeR ks.2
  let cs := readS caseR ps.2
  ((numS 8 (b, false), numS 2 r1, hs.1, ss.1, ks.1, ps.1, cs.1), cs.2)
@[reducible] def zSt : TState := (0, 0, [], [], [], [], [])
def rdSt (b : List Int) : TState × Bool := if (stR b).2.2 = false ∧ (stR b).2.1 = [] ∧ rightS (stR b).1 = true then ((stR b).1, true) else (zSt, false)
end Go.Tr
namespace Go.Tr
open Go
set_option linter.unusedVariables false
set_option linter.unusedSimpArgs false
set_option maxRecDepth 100000
set_option maxHeartbeats 4000000
theorem readN_back {α : Type} {part : Rd8 → α × Rd8} {g : α → List Int} : ∀ {l : List α} (y : List Int), (∀ x ∈ l, ∀ y, part (g x ++ y, false) = (x, (y, false))) → readN part l.length (l.flatMap g ++ y, false) = (l, (y, false))
  | [], y, _ => rfl
  | x :: l, y, h => by
    have ih := readN_back (part := part) (g := g) (l := l) y fun z hz => h z (by simp [hz])
    have hx := h x (by simp) (l.flatMap g ++ y)
    simp only [List.flatMap_cons, List.length_cons, readN, List.append_assoc]
    rw [hx]
    simp only
    rw [ih]
theorem readS_back {α : Type} {part : Rd8 → α × Rd8} {g : α → List Int} {l : List α} (hn : l.length ≤ 65535) (h : ∀ x ∈ l, ∀ y, part (g x ++ y, false) = (x, (y, false))) (y : List Int) : readS part (rowB g l ++ y, false) = (l, (y, false)) := by
  unfold readS rowB
  rw [List.append_assoc, num2_app ⟨by omega, by omega⟩, take_app (be_len _ 2), Int.toNat_natCast]
  exact readN_back y h
theorem cons_take (c : Int) (y : List Int) : takeS 1 (c :: y, false) = ([c], (y, false)) := by
  rw [show (c :: y) = [c] ++ y from rfl, take_app (by rfl)]
theorem hold_back {h : THold} (ha : in32 h.1) (ho : h.2.1.length ≤ 255) (y : List Int) : holdR (hoB h ++ y, false) = (h, (y, false)) := by
  unfold holdR hoB
  have hl8 : by8 ((h.2.1.length : Int) % 256) := ⟨by omega, by omega⟩
  simp only [List.append_assoc]
  rw [num_app4 ha, take_app (be_len _ 4)]
  simp only
  rw [List.singleton_append, num_app1 hl8, cons_take]
  simp only
  rw [take_app (by rw [ofBytes_len]; omega)]
  simp only
  rw [take_app (by rfl), toBytes_of, macL_m6l]
theorem sweep_back {s : TSweep} (ha : in32 s.1.1) (hb : 0 ≤ s.1.2 ∧ s.1.2 ≤ 255) (hd : 0 ≤ s.2.1 ∧ s.2.1 ≤ 1099511627776) (hx : 0 ≤ s.2.2 ∧ s.2.2 ≤ 65535) (y : List Int) : sweepR (swB s ++ y, false) = (s, (y, false)) := by
  unfold sweepR blockR swB
  simp only [List.append_assoc]
  rw [num_app4 ha, take_app (be_len _ 4)]
  simp only
  rw [List.singleton_append, num_app1 ⟨by omega, by omega⟩, cons_take]
  simp only
  rw [num8_app ⟨by omega, by omega⟩, take_app (be_len _ 8)]
  simp only
  rw [num2_app ⟨by omega, by omega⟩, take_app (be_len _ 2)]
  have e : s.1.2 % 256 = s.1.2 := by omega
  rw [e]
theorem sight_back {s : TSight} (hf : 0 ≤ s.1 ∧ s.1 ≤ 255) (ht : -9223372036854775808 ≤ s.2.2 ∧ s.2.2 ≤ 9223372036854775807) (y : List Int) : sightR (siB s ++ y, false) = (s, (y, false)) := by
  unfold sightR siB
  simp only [List.append_assoc]
  rw [List.singleton_append, num_app1 ⟨by omega, by omega⟩, cons_take]
  simp only
  rw [take_app (by rfl)]
  simp only
  rw [macL_m6l, num8_app ht, take_app (be_len _ 8)]
  have e : s.1 % 256 = s.1 := by omega
  rw [e]
theorem known_back {s : TKnown} (ha : in32 s.1) (hn : s.2.length ≤ 65535) (h : ∀ x ∈ s.2, (0 ≤ x.1 ∧ x.1 ≤ 255) ∧ (-9223372036854775808 ≤ x.2.2 ∧ x.2.2 ≤ 9223372036854775807)) (y : List Int) : knownR (knB s ++ y, false) = (s, (y, false)) := by
  unfold knownR knB
  rw [List.append_assoc, num_app4 ha, take_app (be_len _ 4)]
  simp only
  have := readS_back (part := sightR) (g := siB) hn (fun x hx y => sight_back (h x hx).1 (h x hx).2 y) y
  unfold rowB at this
  rw [this]
theorem probe_back {s : TProbe} (ha : in32 s.1) (hi : s.2.1 = s.1 % 65536) (hq : 0 ≤ s.2.2.1 ∧ s.2.2.1 ≤ 65535) (hs : 0 ≤ s.2.2.2.1 ∧ s.2.2.2.1 ≤ 1099511627776) (ht : 0 ≤ s.2.2.2.2 ∧ s.2.2.2.2 ≤ 255) (y : List Int) : probeR (prB s ++ y, false) = (s, (y, false)) := by
  unfold probeR prB
  simp only [List.append_assoc]
  rw [num_app4 ha, take_app (be_len _ 4)]
  simp only
  rw [num2_app ⟨by omega, by omega⟩, take_app (be_len _ 2)]
  simp only
  rw [num8_app ⟨by omega, by omega⟩, take_app (be_len _ 8)]
  simp only
  rw [List.singleton_append, num_app1 ⟨by omega, by omega⟩, cons_take]
  have e : s.2.2.2.2 % 256 = s.2.2.2.2 := by omega
  rw [e, ← hi]
theorem case_back {s : TCase} (ha : in32 s.1) (hr : 0 ≤ s.2.1 ∧ s.2.1 ≤ 1099511627776) (he : 0 ≤ s.2.2.1 ∧ s.2.2.1 ≤ 1099511627776) (ht : 0 ≤ s.2.2.2 ∧ s.2.2.2 ≤ 255) (y : List Int) : caseR (caB s ++ y, false) = (s, (y, false)) := by
  unfold caseR caB
  simp only [List.append_assoc]
  rw [num_app4 ha, take_app (be_len _ 4)]
  simp only
  rw [num8_app ⟨by omega, by omega⟩, take_app (be_len _ 8)]
  simp only
  rw [num8_app ⟨by omega, by omega⟩, take_app (be_len _ 8)]
  simp only
  rw [List.singleton_append, num_app1 ⟨by omega, by omega⟩, cons_take]
  have e : s.2.2.2 % 256 = s.2.2.2 := by omega
  rw [e]
theorem all_get {α : Type} {p : Nat → Bool} {l : List α} (h : (List.range' 0 l.length).all p = true) {x : α} (hx : x ∈ l) : ∃ i, ∃ hi : i < l.length, l[i] = x ∧ p i = true := by
  obtain ⟨i, hi, rfl⟩ := List.mem_iff_getElem.1 hx
  exact ⟨i, hi, rfl, List.all_eq_true.1 h i (by simp [List.mem_range']; exact hi)⟩
theorem getD_at {α : Type} {l : List α} {i : Nat} (hi : i < l.length) (z : α) : l.getD i z = l[i] := by
  rw [List.getD_eq_getElem?_getD, List.getElem?_eq_getElem hi]; rfl
theorem clampS_bd {n : Int} (h : n = clampS n) : 0 ≤ n ∧ n ≤ 1099511627776 := by
  unfold clampS at h
  split at h
  · omega
  · split at h <;> omega
structure StBd (s : TState) : Prop where
  k : ∀ x ∈ s.2.2.2.2.1, ∀ y ∈ x.2, -9223372036854775808 ≤ y.2.2 ∧ y.2.2 ≤ 9223372036854775807
theorem stR_back {s : TState} (h : StOk s) (hb : StBd s) (hr : rightS s = true) : stR (stB s) = (s, ([], false)) := by
  unfold rightS at hr
  simp only [Bool.and_eq_true, decide_eq_true_eq] at hr
  obtain ⟨n0, n1, q0, q1, rh, rw', rk, rp, rc⟩ := hr
  unfold heldS at rh
  unfold sweepsS at rw'
  unfold knownS at rk
  unfold probesS at rp
  unfold casesS at rc
  simp only [Bool.and_eq_true, decide_eq_true_eq] at rh rw' rk rp rc
  have bh : ∀ x ∈ s.2.2.1, ∀ y, holdR (hoB x ++ y, false) = (x, (y, false)) := by
    intro x hx y
    obtain ⟨i, hi, rfl, hp⟩ := all_get rh.1 hx
    refine hold_back (h.h _ hx).1 ?_ y
    unfold heldP mayS at hp
    rw [getD_at hi] at hp
    simp only [Bool.and_eq_true, decide_eq_true_eq] at hp
    have := hp.1.2.2
    omega
  have bw : ∀ x ∈ s.2.2.2.1, ∀ y, sweepR (swB x ++ y, false) = (x, (y, false)) := by
    intro x hx y
    obtain ⟨i, hi, rfl, hp⟩ := all_get rw'.1 hx
    unfold sweepP sweep1 at hp
    rw [getD_at hi] at hp
    simp only [Bool.and_eq_true, decide_eq_true_eq] at hp
    obtain ⟨⟨g1, g2, g3, g4, g5⟩, _⟩ := hp
    have hbo := (rB_bo g1).1
    unfold bo at hbo
    exact sweep_back (h.w _ hx) ⟨hbo.1, by omega⟩ (clampS_bd g3) ⟨g4, by omega⟩ y
  have bk : ∀ x ∈ s.2.2.2.2.1, ∀ y, knownR (knB x ++ y, false) = (x, (y, false)) := by
    intro x hx y
    obtain ⟨i, hi, hxi, hp⟩ := all_get rk.1 hx
    unfold knownP at hp
    rw [getD_at hi, hxi] at hp
    simp only [Bool.and_eq_true, decide_eq_true_eq] at hp
    obtain ⟨_, g1, g2, g3⟩ := hp
    refine known_back (h.k _ hx).1 (by omega) (fun z hz => ?_) y
    obtain ⟨j, hj, rfl, hq⟩ := all_get g3 hz
    unfold sight1 at hq
    rw [getD_at hj] at hq
    simp only [Bool.and_eq_true, decide_eq_true_eq] at hq
    exact ⟨⟨hq.1, by omega⟩, hb.k x hx _ hz⟩
  have bp : ∀ x ∈ s.2.2.2.2.2.1, ∀ y, probeR (prB x ++ y, false) = (x, (y, false)) := by
    intro x hx y
    obtain ⟨i, hi, rfl, hp⟩ := all_get rp.1 hx
    unfold probeP at hp
    rw [getD_at hi] at hp
    simp only [Bool.and_eq_true, decide_eq_true_eq] at hp
    obtain ⟨⟨g1, ⟨g2, g3⟩, g4, g5, g6⟩, _⟩ := hp
    exact probe_back (h.p _ hx) g1 ⟨g2, g3⟩ (clampS_bd g4) ⟨g5, by omega⟩ y
  have bc : ∀ x ∈ s.2.2.2.2.2.2, ∀ y, caseR (caB x ++ y, false) = (x, (y, false)) := by
    intro x hx y
    obtain ⟨i, hi, rfl, hp⟩ := all_get rc.1 hx
    unfold caseP case1 at hp
    rw [getD_at hi] at hp
    simp only [Bool.and_eq_true, decide_eq_true_eq] at hp
    obtain ⟨g1, g2, g3, g4, _⟩ := hp
    exact case_back (h.c _ hx) (clampS_bd g3) (clampS_bd g4) ⟨g1, by omega⟩ y
  unfold stR stB
  rw [num8_app ⟨by omega, by omega⟩, take_app (be_len _ 8)]
  simp only
  rw [num2_app ⟨by omega, by omega⟩, take_app (be_len _ 2)]
  simp only
  rw [readS_back (by have := h.hn; omega) bh]
  simp only
  rw [readS_back (by have := h.wn; omega) bw]
  simp only
  rw [readS_back (by have := h.kn; omega) bk]
  simp only
  rw [readS_back (by have := h.pn; omega) bp]
  simp only
  have := readS_back (l := s.2.2.2.2.2.2) (by have := h.cn; omega) bc []
  rw [List.append_nil] at this
  rw [this]
theorem stB_by8 {s : TState} (h : StOk s) : by8s (stB s) := by
  have one : ∀ n : Int, by8s [n % 256] := fun n c hc => by
    simp only [List.mem_cons, List.not_mem_nil, or_false] at hc
    subst hc; exact ⟨by omega, by omega⟩
  have si : ∀ x : TSight, SiOk x → by8s (siB x) := fun x hx => by8s_app (by8s_app (one _) (m6l_by8 hx)) (be_by8 _ 8)
  unfold stB rowB
  refine by8s_app (be_by8 _ 8) (by8s_app (be_by8 _ 2) (by8s_app (by8s_app (be_by8 _ 2) (flat_by8 fun x hx => ?_)) (by8s_app (by8s_app (be_by8 _ 2) (flat_by8 fun x hx => ?_)) (by8s_app (by8s_app (be_by8 _ 2) (flat_by8 fun x hx => ?_))
    (by8s_app (by8s_app (be_by8 _ 2) (flat_by8 fun x hx => ?_)) (by8s_app (be_by8 _ 2) (flat_by8 fun x hx => ?_)))))))
  · exact by8s_app (by8s_app (by8s_app (be_by8 _ 4) (one _)) (ofBytes_by8 _)) (m6l_by8 (h.h x hx).2.2)
  · exact by8s_app (by8s_app (by8s_app (be_by8 _ 4) (one _)) (be_by8 _ 8)) (be_by8 _ 2)
  · exact by8s_app (be_by8 _ 4) (by8s_app (be_by8 _ 2) (flat_by8 fun y hy => si y ((h.k x hx).2.2 y hy)))
  · exact by8s_app (by8s_app (by8s_app (be_by8 _ 4) (be_by8 _ 2)) (be_by8 _ 8)) (one _)
  · exact by8s_app (by8s_app (by8s_app (be_by8 _ 4) (be_by8 _ 8)) (be_by8 _ 8)) (one _)
theorem rdSt_back {s : TState} (h : StOk s) (hb : StBd s) (hr : rightS s = true) : rdSt (stB s) = (s, true) := by
  unfold rdSt
  rw [stR_back h hb hr, if_pos ⟨rfl, rfl, hr⟩]
theorem StOk.wf {s : TState} (h : StOk s) : StWf s := by
  have le : ∀ n : Nat, n ≤ 1000 → n ≤ 140737488355328 := fun n h => by omega
  exact ⟨fun x hx => ⟨(h.h x hx).1, le _ (h.h x hx).2.1, (h.h x hx).2.2⟩, le _ h.hn, h.w, le _ h.wn, fun x hx => ⟨(h.k x hx).1, (h.k x hx).2.2⟩, le _ h.kn, h.p, le _ h.pn, h.c, le _ h.cn⟩
end Go.Tr
namespace Go.Tr
open Go
set_option linter.unusedVariables false
set_option linter.unusedSimpArgs false
set_option maxRecDepth 100000
set_option maxHeartbeats 4000000
section
variable {t : TState} (ht : StWf t)
include ht
end
end Go.Tr
