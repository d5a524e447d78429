/- A state's bytes, as the law's own text says them, the state held whole. Conditions: none but the numbers' bounds. -/
import Derived.Test.YtklmhllelgjglaaGreatCodecT
import Derived.Test.YtklmhllelgjglaaGreatCodec3D
namespace Go.Tr
open Go
set_option linter.unusedVariables false
set_option linter.unusedSimpArgs false
set_option maxRecDepth 100000
set_option maxHeartbeats 4000000
theorem lT0 {st : TState} {l : List THold} (hl : ∀ x ∈ l, HoOk x) (hn : l.length ≤ 1000) (b : List Int) (hb : b.length ≤ 60000000000000) : terrierlaw19_State_w1_l0 (toBytes b, l, (l.length : Int), 0, st, ()) = some (.inl (toBytes (b ++ l.flatMap hoB), st, ())) := by
  unfold terrierlaw19_State_w1_l0
  have := fold_loop (fun s : (List UInt8) × (List THold) × Int × Int × TState × Unit => terrierlaw19_State_w1_b0 s.1 s.2.1 s.2.2.1 s.2.2.2.1 s.2.2.2.2.1) l.length (fun i => (toBytes (b ++ (l.take i).flatMap hoB), l, (l.length : Int), (i : Int), st, ())) (.inl (toBytes (b ++ l.flatMap hoB), st, ()))
    (fun i hi => by
      show terrierlaw19_State_w1_b0 (toBytes (b ++ (l.take i).flatMap hoB)) l (l.length : Int) (i : Int) st = _
      unfold terrierlaw19_State_w1_b0
      have hx : HoOk l[i] := hl _ (List.getElem_mem hi)
      have hf := flat_len (g := hoB) (K := 20000) (l := l.take i) fun x hx => hoB_len (hl x (List.mem_of_mem_take hx))
      have hf2 : (l.take i).length ≤ 1000 := by rw [List.length_take]; omega
      have hf3 : (toBytes (b ++ (l.take i).flatMap hoB)).length ≤ 70000000000000 := by rw [toBytes_len, List.length_append]; omega
      rw [decide_eq_true (by omega), cnd_true, chk_pos (by omega)]
      simp only [ltO_def, recD, getD_toNat]
      have hg : l.getD i zHold = l[i] := by rw [List.getD_eq_getElem?_getD, List.getElem?_eq_getElem hi]; rfl
      rw [hg, w64 (n := (i : Int) + 1) (by omega) (by omega), flat_take hi, ← List.append_assoc, toBytes_app (b ++ (l.take i).flatMap hoB)]
      generalize toBytes (b ++ (l.take i).flatMap hoB) = o at hf3
      generalize l[i] = x at hx
      rw [lhold_eq hx]
      have hlen := hoB_len hx
      simp only [bnd_val]
      rw [chk_pos (by rw [toBytes_len]; omega)]
      rfl)
    (by
      show terrierlaw19_State_w1_b0 (toBytes (b ++ (l.take l.length).flatMap hoB)) l (l.length : Int) (l.length : Int) st = _
      unfold terrierlaw19_State_w1_b0
      rw [decide_eq_false (by omega), List.take_length]; rfl)
  simpa using this
theorem lT1 {st : TState} {l : List TSweep} (hl : ∀ x ∈ l, SwOk x) (hn : l.length ≤ 1000) (b : List Int) (hb : b.length ≤ 60000000000000) : terrierlaw19_State_w1_l1 (toBytes b, l, (l.length : Int), 0, st, ()) = some (.inl (toBytes (b ++ l.flatMap swB), st, ())) := by
  unfold terrierlaw19_State_w1_l1
  have := fold_loop (fun s : (List UInt8) × (List TSweep) × Int × Int × TState × Unit => terrierlaw19_State_w1_b1 s.1 s.2.1 s.2.2.1 s.2.2.2.1 s.2.2.2.2.1) l.length (fun i => (toBytes (b ++ (l.take i).flatMap swB), l, (l.length : Int), (i : Int), st, ())) (.inl (toBytes (b ++ l.flatMap swB), st, ()))
    (fun i hi => by
      show terrierlaw19_State_w1_b1 (toBytes (b ++ (l.take i).flatMap swB)) l (l.length : Int) (i : Int) st = _
      unfold terrierlaw19_State_w1_b1
      have hx : SwOk l[i] := hl _ (List.getElem_mem hi)
      have hf := flat_len (g := swB) (K := 20000) (l := l.take i) fun x hx => swB_len (hl x (List.mem_of_mem_take hx))
      have hf2 : (l.take i).length ≤ 1000 := by rw [List.length_take]; omega
      have hf3 : (toBytes (b ++ (l.take i).flatMap swB)).length ≤ 70000000000000 := by rw [toBytes_len, List.length_append]; omega
      rw [decide_eq_true (by omega), cnd_true, chk_pos (by omega)]
      simp only [ltO_def, recD, getD_toNat]
      have hg : l.getD i zSweep = l[i] := by rw [List.getD_eq_getElem?_getD, List.getElem?_eq_getElem hi]; rfl
      rw [hg, w64 (n := (i : Int) + 1) (by omega) (by omega), flat_take hi, ← List.append_assoc, toBytes_app (b ++ (l.take i).flatMap swB)]
      generalize toBytes (b ++ (l.take i).flatMap swB) = o at hf3
      generalize l[i] = x at hx
      have h0 := hx.1
      have h1 := hx.2
      have q0 : (toBytes (be (x.1.1) 4)).length = 4 := by rw [toBytes_len, be_len]
      have q1 : (toBytes (be (x.1.2) 1)).length = 1 := by rw [toBytes_len, be_len]
      have q2 : (toBytes (be (x.2.1) 8)).length = 8 := by rw [toBytes_len, be_len]
      have q3 : (toBytes (be (x.2.2) 2)).length = 2 := by rw [toBytes_len, be_len]
      rw [w64 (n := x.1.1) (by omega) (by omega)]
      simp only [bnd_val, put1_eq, put2_eq, put4_eq, put8_eq]
      rw [chk_pos (by simp only [List.length_append, q0, q1, q2, q3]; omega), chk_pos (by simp only [List.length_append, q0, q1, q2, q3]; omega), chk_pos (by simp only [List.length_append, q0, q1, q2, q3]; omega), chk_pos (by simp only [List.length_append, q0, q1, q2, q3]; omega)]
      unfold swB
      simp only [toBytes_app, be1, List.append_assoc]
      rfl)
    (by
      show terrierlaw19_State_w1_b1 (toBytes (b ++ (l.take l.length).flatMap swB)) l (l.length : Int) (l.length : Int) st = _
      unfold terrierlaw19_State_w1_b1
      rw [decide_eq_false (by omega), List.take_length]; rfl)
  simpa using this
theorem lT3 {st : TState} {kl : List TKnown} {t82 t83 : Int} {l : List TSight} (hl : ∀ x ∈ l, SiOk x) (hn : l.length ≤ 1000) (b : List Int) (hb : b.length ≤ 60000000000000) : terrierlaw19_State_w1_l3 (toBytes b, kl, t82, t83, l, (l.length : Int), 0, st, ()) = some (.inl (toBytes (b ++ l.flatMap siB), kl, t82, t83, st, ())) := by
  unfold terrierlaw19_State_w1_l3
  have := fold_loop (fun s : (List UInt8) × (List TKnown) × Int × Int × (List TSight) × Int × Int × TState × Unit => terrierlaw19_State_w1_b3 s.1 s.2.1 s.2.2.1 s.2.2.2.1 s.2.2.2.2.1 s.2.2.2.2.2.1 s.2.2.2.2.2.2.1 s.2.2.2.2.2.2.2.1) l.length (fun i => (toBytes (b ++ (l.take i).flatMap siB), kl, t82, t83, l, (l.length : Int), (i : Int), st, ())) (.inl (toBytes (b ++ l.flatMap siB), kl, t82, t83, st, ()))
    (fun i hi => by
      show terrierlaw19_State_w1_b3 (toBytes (b ++ (l.take i).flatMap siB)) kl t82 t83 l (l.length : Int) (i : Int) st = _
      unfold terrierlaw19_State_w1_b3
      have hx : SiOk l[i] := hl _ (List.getElem_mem hi)
      have hf := flat_len (g := siB) (K := 15) (l := l.take i) fun x hx => siB_len (hl x (List.mem_of_mem_take hx))
      have hf2 : (l.take i).length ≤ 1000 := by rw [List.length_take]; omega
      have hf3 : (toBytes (b ++ (l.take i).flatMap siB)).length ≤ 70000000000000 := by rw [toBytes_len, List.length_append]; omega
      rw [decide_eq_true (by omega), cnd_true, chk_pos (by omega)]
      simp only [ltO_def, recD, getD_toNat]
      have hg : l.getD i zSight = l[i] := by rw [List.getD_eq_getElem?_getD, List.getElem?_eq_getElem hi]; rfl
      rw [hg, w64 (n := (i : Int) + 1) (by omega) (by omega), flat_take hi, ← List.append_assoc, toBytes_app (b ++ (l.take i).flatMap siB)]
      generalize toBytes (b ++ (l.take i).flatMap siB) = o at hf3
      generalize l[i] = x at hx
      rw [lsight_eq hx]
      have hlen := siB_len hx
      simp only [bnd_val]
      rw [chk_pos (by rw [toBytes_len]; omega)]
      rfl)
    (by
      show terrierlaw19_State_w1_b3 (toBytes (b ++ (l.take l.length).flatMap siB)) kl t82 t83 l (l.length : Int) (l.length : Int) st = _
      unfold terrierlaw19_State_w1_b3
      rw [decide_eq_false (by omega), List.take_length]; rfl)
  simpa using this
theorem lT2 {st : TState} {l : List TKnown} (hl : ∀ x ∈ l, KnOk x) (hn : l.length ≤ 1000) (b : List Int) (hb : b.length ≤ 40000000000000) : terrierlaw19_State_w1_l2 (toBytes b, l, (l.length : Int), 0, st, ()) = some (.inl (toBytes (b ++ l.flatMap knB), st, ())) := by
  unfold terrierlaw19_State_w1_l2
  have := fold_loop (fun s : (List UInt8) × (List TKnown) × Int × Int × TState × Unit => terrierlaw19_State_w1_b2 s.1 s.2.1 s.2.2.1 s.2.2.2.1 s.2.2.2.2.1) l.length (fun i => (toBytes (b ++ (l.take i).flatMap knB), l, (l.length : Int), (i : Int), st, ())) (.inl (toBytes (b ++ l.flatMap knB), st, ()))
    (fun i hi => by
      show terrierlaw19_State_w1_b2 (toBytes (b ++ (l.take i).flatMap knB)) l (l.length : Int) (i : Int) st = _
      unfold terrierlaw19_State_w1_b2
      have hx : KnOk l[i] := hl _ (List.getElem_mem hi)
      have hf := flat_len (g := knB) (K := 20000) (l := l.take i) fun x hx => knB_len (hl x (List.mem_of_mem_take hx))
      have hf2 : (l.take i).length ≤ 1000 := by rw [List.length_take]; omega
      have hf3 : (toBytes (b ++ (l.take i).flatMap knB)).length ≤ 50000000000000 := by rw [toBytes_len, List.length_append]; omega
      rw [decide_eq_true (by omega), cnd_true, chk_pos (by omega)]
      simp only [ltO_def, recD, getD_toNat]
      have hg : l.getD i ((0 : Int), []) = l[i] := by rw [List.getD_eq_getElem?_getD, List.getElem?_eq_getElem hi]; rfl
      rw [hg, flat_take hi, ← List.append_assoc, toBytes_app (b ++ (l.take i).flatMap knB)]
      generalize toBytes (b ++ (l.take i).flatMap knB) = o at hf3
      generalize l[i] = x at hx
      have h0 := hx.1.1
      have h1 := hx.1.2
      have q0 : (toBytes (be x.1 4)).length = 4 := by rw [toBytes_len, be_len]
      have q1 : (toBytes (be (x.2.length : Int) 2)).length = 2 := by rw [toBytes_len, be_len]
      have ho : o = toBytes (ofBytes o) := (toBytes_of o).symm
      rw [w64 (n := x.1) (by omega) (by omega)]
      simp only [bnd_val, put2_eq, put4_eq]
      rw [chk_pos (by omega), chk_pos (by simp only [List.length_append, q0]; omega)]
      have hoo := ofBytes_len o
      rw [ho, tb_app, tb_app, lT3 hx.2.2 hx.2.1 _ (by simp only [List.length_append, be_len]; omega)]
      simp only [bnd_val, sumO_inl]
      rw [w64 (by omega) (by omega)]
      unfold knB
      simp only [toBytes_app, List.append_assoc]
      rfl)
    (by
      show terrierlaw19_State_w1_b2 (toBytes (b ++ (l.take l.length).flatMap knB)) l (l.length : Int) (l.length : Int) st = _
      unfold terrierlaw19_State_w1_b2
      rw [decide_eq_false (by omega), List.take_length]; rfl)
  simpa using this
theorem lT4 {st : TState} {l : List TProbe} (hl : ∀ x ∈ l, PrOk x) (hn : l.length ≤ 1000) (b : List Int) (hb : b.length ≤ 60000000000000) : terrierlaw19_State_w1_l4 (toBytes b, l, (l.length : Int), 0, st, ()) = some (.inl (toBytes (b ++ l.flatMap prB), st, ())) := by
  unfold terrierlaw19_State_w1_l4
  have := fold_loop (fun s : (List UInt8) × (List TProbe) × Int × Int × TState × Unit => terrierlaw19_State_w1_b4 s.1 s.2.1 s.2.2.1 s.2.2.2.1 s.2.2.2.2.1) l.length (fun i => (toBytes (b ++ (l.take i).flatMap prB), l, (l.length : Int), (i : Int), st, ())) (.inl (toBytes (b ++ l.flatMap prB), st, ()))
    (fun i hi => by
      show terrierlaw19_State_w1_b4 (toBytes (b ++ (l.take i).flatMap prB)) l (l.length : Int) (i : Int) st = _
      unfold terrierlaw19_State_w1_b4
      have hx : PrOk l[i] := hl _ (List.getElem_mem hi)
      have hf := flat_len (g := prB) (K := 20000) (l := l.take i) fun x hx => prB_len (hl x (List.mem_of_mem_take hx))
      have hf2 : (l.take i).length ≤ 1000 := by rw [List.length_take]; omega
      have hf3 : (toBytes (b ++ (l.take i).flatMap prB)).length ≤ 70000000000000 := by rw [toBytes_len, List.length_append]; omega
      rw [decide_eq_true (by omega), cnd_true, chk_pos (by omega)]
      simp only [ltO_def, recD, getD_toNat]
      have hg : l.getD i ((0 : Int), (0 : Int), (0 : Int), (0 : Int), (0 : Int)) = l[i] := by rw [List.getD_eq_getElem?_getD, List.getElem?_eq_getElem hi]; rfl
      rw [hg, w64 (n := (i : Int) + 1) (by omega) (by omega), flat_take hi, ← List.append_assoc, toBytes_app (b ++ (l.take i).flatMap prB)]
      generalize toBytes (b ++ (l.take i).flatMap prB) = o at hf3
      generalize l[i] = x at hx
      have h0 := hx.1
      have h1 := hx.2
      have q0 : (toBytes (be (x.1) 4)).length = 4 := by rw [toBytes_len, be_len]
      have q1 : (toBytes (be (x.2.2.1) 2)).length = 2 := by rw [toBytes_len, be_len]
      have q2 : (toBytes (be (x.2.2.2.1) 8)).length = 8 := by rw [toBytes_len, be_len]
      have q3 : (toBytes (be (x.2.2.2.2) 1)).length = 1 := by rw [toBytes_len, be_len]
      rw [w64 (n := x.1) (by omega) (by omega)]
      simp only [bnd_val, put1_eq, put2_eq, put4_eq, put8_eq]
      rw [chk_pos (by simp only [List.length_append, q0, q1, q2, q3]; omega), chk_pos (by simp only [List.length_append, q0, q1, q2, q3]; omega), chk_pos (by simp only [List.length_append, q0, q1, q2, q3]; omega), chk_pos (by simp only [List.length_append, q0, q1, q2, q3]; omega)]
      unfold prB
      simp only [toBytes_app, be1, List.append_assoc]
      rfl)
    (by
      show terrierlaw19_State_w1_b4 (toBytes (b ++ (l.take l.length).flatMap prB)) l (l.length : Int) (l.length : Int) st = _
      unfold terrierlaw19_State_w1_b4
      rw [decide_eq_false (by omega), List.take_length]; rfl)
  simpa using this
theorem lT5  {l : List TCase} (hl : ∀ x ∈ l, CaOk x) (hn : l.length ≤ 1000) (b : List Int) (hb : b.length ≤ 60000000000000) : terrierlaw19_State_w1_l5 (toBytes b, l, (l.length : Int), 0, ()) = some (.inl (toBytes (b ++ l.flatMap caB), ())) := by
  unfold terrierlaw19_State_w1_l5
  have := fold_loop (fun s : (List UInt8) × (List TCase) × Int × Int × Unit => terrierlaw19_State_w1_b5 s.1 s.2.1 s.2.2.1 s.2.2.2.1) l.length (fun i => (toBytes (b ++ (l.take i).flatMap caB), l, (l.length : Int), (i : Int), ())) (.inl (toBytes (b ++ l.flatMap caB), ()))
    (fun i hi => by
      show terrierlaw19_State_w1_b5 (toBytes (b ++ (l.take i).flatMap caB)) l (l.length : Int) (i : Int) = _
      unfold terrierlaw19_State_w1_b5
      have hx : CaOk l[i] := hl _ (List.getElem_mem hi)
      have hf := flat_len (g := caB) (K := 20000) (l := l.take i) fun x hx => caB_len (hl x (List.mem_of_mem_take hx))
      have hf2 : (l.take i).length ≤ 1000 := by rw [List.length_take]; omega
      have hf3 : (toBytes (b ++ (l.take i).flatMap caB)).length ≤ 70000000000000 := by rw [toBytes_len, List.length_append]; omega
      rw [decide_eq_true (by omega), cnd_true, chk_pos (by omega)]
      simp only [ltO_def, recD, getD_toNat]
      have hg : l.getD i ((0 : Int), (0 : Int), (0 : Int), (0 : Int)) = l[i] := by rw [List.getD_eq_getElem?_getD, List.getElem?_eq_getElem hi]; rfl
      rw [hg, w64 (n := (i : Int) + 1) (by omega) (by omega), flat_take hi, ← List.append_assoc, toBytes_app (b ++ (l.take i).flatMap caB)]
      generalize toBytes (b ++ (l.take i).flatMap caB) = o at hf3
      generalize l[i] = x at hx
      have h0 := hx.1
      have h1 := hx.2
      have q0 : (toBytes (be (x.1) 4)).length = 4 := by rw [toBytes_len, be_len]
      have q1 : (toBytes (be (x.2.1) 8)).length = 8 := by rw [toBytes_len, be_len]
      have q2 : (toBytes (be (x.2.2.1) 8)).length = 8 := by rw [toBytes_len, be_len]
      have q3 : (toBytes (be (x.2.2.2) 1)).length = 1 := by rw [toBytes_len, be_len]
      rw [w64 (n := x.1) (by omega) (by omega)]
      simp only [bnd_val, put1_eq, put2_eq, put4_eq, put8_eq]
      rw [chk_pos (by simp only [List.length_append, q0, q1, q2, q3]; omega), chk_pos (by simp only [List.length_append, q0, q1, q2, q3]; omega), chk_pos (by simp only [List.length_append, q0, q1, q2, q3]; omega), chk_pos (by simp only [List.length_append, q0, q1, q2, q3]; omega)]
      unfold caB
      simp only [toBytes_app, be1, List.append_assoc]
      rfl)
    (by
      show terrierlaw19_State_w1_b5 (toBytes (b ++ (l.take l.length).flatMap caB)) l (l.length : Int) (l.length : Int) = _
      unfold terrierlaw19_State_w1_b5
      rw [decide_eq_false (by omega), List.take_length]; rfl)
  simpa using this
theorem lState1_eq {s : TState} (h : StOk s) : terrierlaw19_State_w1 s = some (toBytes (stB s), ()) := by
  unfold terrierlaw19_State_w1
  have a1 := rowB_len (g := hoB) (fun x hx => hoB_len (h.h x hx)) h.hn
  have a2 := rowB_len (g := swB) (fun x hx => swB_len (h.w x hx)) h.wn
  have a3 := rowB_len (g := knB) (fun x hx => knB_len (h.k x hx)) h.kn
  have a4 := rowB_len (g := prB) (fun x hx => prB_len (h.p x hx)) h.pn
  have l8 := be_len s.1 8
  have l2 := be_len s.2.1 2
  have lr : ∀ n, (be n 2).length = 2 := fun n => be_len n 2
  simp only [bnd_val, put2_eq, put8_eq, ltO_def, tb_app]
  rw [chk_pos (by simp only [toBytes_len, l8, l2]; omega), chk_pos (by simp only [toBytes_len, List.length_append, l8, l2, lr]; omega), lT0 h.h h.hn _ (by simp only [List.length_append, l8, l2, lr]; omega)]
  have e1 : be s.1 8 ++ be s.2.1 2 ++ be (s.2.2.1.length : Int) 2 ++ s.2.2.1.flatMap hoB = be s.1 8 ++ be s.2.1 2 ++ rowB hoB s.2.2.1 := by simp [rowB]
  rw [e1]
  simp only [bnd_val, sumO_inl, put2_eq, tb_app]
  rw [chk_pos (by simp only [toBytes_len, List.length_append, l8, l2, lr]; omega), lT1 h.w h.wn _ (by simp only [List.length_append, l8, l2, lr]; omega)]
  have e2 : be s.1 8 ++ be s.2.1 2 ++ rowB hoB s.2.2.1 ++ be (s.2.2.2.1.length : Int) 2 ++ s.2.2.2.1.flatMap swB = be s.1 8 ++ be s.2.1 2 ++ rowB hoB s.2.2.1 ++ rowB swB s.2.2.2.1 := by simp [rowB]
  rw [e2]
  simp only [bnd_val, sumO_inl, put2_eq, tb_app]
  rw [chk_pos (by simp only [toBytes_len, List.length_append, l8, l2, lr]; omega), lT2 h.k h.kn _ (by simp only [List.length_append, l8, l2, lr]; omega)]
  have e3 : be s.1 8 ++ be s.2.1 2 ++ rowB hoB s.2.2.1 ++ rowB swB s.2.2.2.1 ++ be (s.2.2.2.2.1.length : Int) 2 ++ s.2.2.2.2.1.flatMap knB = be s.1 8 ++ be s.2.1 2 ++ rowB hoB s.2.2.1 ++ rowB swB s.2.2.2.1 ++ rowB knB s.2.2.2.2.1 := by simp [rowB]
  rw [e3]
  simp only [bnd_val, sumO_inl, put2_eq, tb_app]
  rw [chk_pos (by simp only [toBytes_len, List.length_append, l8, l2, lr]; omega), lT4 h.p h.pn _ (by simp only [List.length_append, l8, l2, lr]; omega)]
  have e4 : be s.1 8 ++ be s.2.1 2 ++ rowB hoB s.2.2.1 ++ rowB swB s.2.2.2.1 ++ rowB knB s.2.2.2.2.1 ++ be (s.2.2.2.2.2.1.length : Int) 2 ++ s.2.2.2.2.2.1.flatMap prB = be s.1 8 ++ be s.2.1 2 ++ rowB hoB s.2.2.1 ++ rowB swB s.2.2.2.1 ++ rowB knB s.2.2.2.2.1 ++ rowB prB s.2.2.2.2.2.1 := by simp [rowB]
  rw [e4]
  simp only [bnd_val, sumO_inl, put2_eq, tb_app]
  rw [chk_pos (by simp only [toBytes_len, List.length_append, l8, l2, lr]; omega), lT5 h.c h.cn _ (by simp only [List.length_append, l8, l2, lr]; omega)]
  have e5 : be s.1 8 ++ be s.2.1 2 ++ rowB hoB s.2.2.1 ++ rowB swB s.2.2.2.1 ++ rowB knB s.2.2.2.2.1 ++ rowB prB s.2.2.2.2.2.1 ++ be (s.2.2.2.2.2.2.length : Int) 2 ++ s.2.2.2.2.2.2.flatMap caB = stB s := by simp [rowB, stB]
  rw [e5]
  rfl
end Go.Tr
