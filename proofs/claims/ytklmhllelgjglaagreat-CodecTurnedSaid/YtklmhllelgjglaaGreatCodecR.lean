/- What is read of bytes has these bytes. Conditions: none but that bytes are bytes. -/
import Derived.Test.YtklmhllelgjglaaGreatCodecT
namespace Go.Tr
open Go
set_option linter.unusedVariables false
set_option linter.unusedSimpArgs false
set_option maxRecDepth 100000
set_option maxHeartbeats 4000000
structure Forth {α : Type} (part : Rd8 → α × Rd8) (g : α → List Int) : Prop where
  keep : ∀ r, by8s r.1 → by8s (part r).2.1
  flag : ∀ r, r.2 = true → (part r).2.2 = true
  eq : ∀ r, by8s r.1 → (part r).2.2 = false → r.1 = g (part r).1 ++ (part r).2.1
theorem takeS_flag (n : Nat) {r : Rd8} (h : r.2 = true) : (takeS n r).2.2 = true := by
  unfold takeS
  rw [if_pos (.inl h)]
theorem takeS_ok {n : Nat} {r : Rd8} (h : (takeS n r).2.2 = false) : r.2 = false ∧ r.1 = (takeS n r).1 ++ (takeS n r).2.1 := by
  unfold takeS at h ⊢
  split at h
  · simp at h
  · rename_i hn
    rw [if_neg hn]
    refine ⟨?_, (List.take_append_drop n r.1).symm⟩
    cases hr : r.2 with
    | false => rfl
    | true => exact absurd (.inl hr) hn
theorem be_1 {l : List Int} (hl : l.length = 1) (hb : by8s l) : [IntKind.i64.wrap (de l) % 256] = l := by
  rcases l with _ | ⟨a, _ | ⟨b, l⟩⟩
  · simp at hl
  · have ha := hb a (by simp)
    obtain ⟨a0, a1⟩ := ha
    simp only [de, List.foldl_cons, List.foldl_nil, i64_wrap, List.cons.injEq, and_true]
    omega
  · simp at hl
theorem be_2 {l : List Int} (hl : l.length = 2) (hb : by8s l) : be (IntKind.i64.wrap (de l)) 2 = l := by
  rcases l with _ | ⟨a, _ | ⟨b, _ | ⟨c, l⟩⟩⟩
  · simp at hl
  · simp at hl
  · obtain ⟨a0, a1⟩ := hb a (by simp)
    obtain ⟨b0, b1⟩ := hb b (by simp)
    simp only [be, de, List.foldl_cons, List.foldl_nil, i64_wrap, List.cons.injEq, and_true]
    refine ⟨?_, ?_⟩ <;> omega
  · simp at hl
theorem be_4 {l : List Int} (hl : l.length = 4) (hb : by8s l) : be (IntKind.i64.wrap (de l)) 4 = l := by
  rcases l with _ | ⟨a, _ | ⟨b, _ | ⟨c, _ | ⟨d, _ | ⟨e, l⟩⟩⟩⟩⟩
  iterate 4 (exact absurd hl (by simp))
  · obtain ⟨a0, a1⟩ := hb a (by simp)
    obtain ⟨b0, b1⟩ := hb b (by simp)
    obtain ⟨c0, c1⟩ := hb c (by simp)
    obtain ⟨d0, d1⟩ := hb d (by simp)
    simp only [be, de, List.foldl_cons, List.foldl_nil, i64_wrap, List.cons.injEq, and_true]
    refine ⟨?_, ?_, ?_, ?_⟩ <;> omega
  · simp at hl
theorem be_8 {l : List Int} (hl : l.length = 8) (hb : by8s l) : be (IntKind.i64.wrap (de l)) 8 = l := by
  rcases l with _ | ⟨a, _ | ⟨b, _ | ⟨c, _ | ⟨d, _ | ⟨e, _ | ⟨f, _ | ⟨g, _ | ⟨h, _ | ⟨i, l⟩⟩⟩⟩⟩⟩⟩⟩⟩
  iterate 8 (exact absurd hl (by simp))
  · obtain ⟨a0, a1⟩ := hb a (by simp)
    obtain ⟨b0, b1⟩ := hb b (by simp)
    obtain ⟨c0, c1⟩ := hb c (by simp)
    obtain ⟨d0, d1⟩ := hb d (by simp)
    obtain ⟨e0, e1⟩ := hb e (by simp)
    obtain ⟨f0, f1⟩ := hb f (by simp)
    obtain ⟨g0, g1⟩ := hb g (by simp)
    obtain ⟨h0, h1⟩ := hb h (by simp)
    simp only [be, de, List.foldl_cons, List.foldl_nil, i64_wrap, List.cons.injEq, and_true]
    refine ⟨?_, ?_, ?_, ?_, ?_, ?_, ?_, ?_⟩ <;> omega
  · simp at hl
theorem m6l_macL {l : List Int} (hl : l.length = 6) : m6l (macL l) = l := by
  rcases l with _ | ⟨a, _ | ⟨b, _ | ⟨c, _ | ⟨d, _ | ⟨e, _ | ⟨f, _ | ⟨g, l⟩⟩⟩⟩⟩⟩⟩
  iterate 6 (exact absurd hl (by simp))
  · rfl
  · simp at hl
theorem num_1 {r : Rd8} (h : by8s r.1) : [numS 1 r % 256] = (takeS 1 r).1 := be_1 (takeS_len 1 r) (takeS_by8 h).1
theorem num_2 {r : Rd8} (h : by8s r.1) : be (numS 2 r) 2 = (takeS 2 r).1 := be_2 (takeS_len 2 r) (takeS_by8 h).1
theorem num_4 {r : Rd8} (h : by8s r.1) : be (numS 4 r) 4 = (takeS 4 r).1 := be_4 (takeS_len 4 r) (takeS_by8 h).1
theorem num_8 {r : Rd8} (h : by8s r.1) : be (numS 8 r) 8 = (takeS 8 r).1 := be_8 (takeS_len 8 r) (takeS_by8 h).1
theorem kp (n : Nat) {r : Rd8} (h : by8s r.1) : by8s (takeS n r).2.1 := (takeS_by8 h).2
theorem hold_forth : Forth holdR hoB := by
  refine ⟨fun r h => hold_by8 h, fun r h => ?_, fun r h hf => ?_⟩
  · exact takeS_flag 6 (takeS_flag _ (takeS_flag 1 (takeS_flag 4 h)))
  · have h1 := kp 4 h
    have h2 := kp 1 h1
    have hn := (num1 h1).1
    unfold holdR at hf ⊢
    simp only at hf ⊢
    have h3 := kp (numS 1 (takeS 4 r).2).toNat h2
    have hb3 := (takeS_by8 (n := (numS 1 (takeS 4 r).2).toNat) h2).1
    have l3 := takeS_len (numS 1 (takeS 4 r).2).toNat (takeS 1 (takeS 4 r).2).2
    have k1 := takeS_ok hf
    have k2 := takeS_ok k1.1
    have k3 := takeS_ok k2.1
    have k4 := takeS_ok k3.1
    have e1 := num_1 h1
    have e4 := num_4 h
    have e6 := m6l_macL (takeS_len 6 (takeS (numS 1 (takeS 4 r).2).toNat (takeS 1 (takeS 4 r).2).2).2)
    unfold hoB
    simp only
    rw [ofBytes_to hb3, toBytes_len, l3, e4, e6]
    have hn0 := hn.1
    have hn1 := hn.2
    rw [show (((numS 1 (takeS 4 r).2).toNat : Nat) : Int) % 256 = numS 1 (takeS 4 r).2 % 256 from by omega, e1]
    simp only [List.append_assoc]
    rw [← k1.2, ← k2.2, ← k3.2, ← k4.2]
theorem block_ok {r : Rd8} (h : by8s r.1) (hf : (blockR r).2.2 = false) : r.2 = false ∧ r.1 = be (blockR r).1.1 4 ++ [(blockR r).1.2 % 256] ++ (blockR r).2.1 := by
  unfold blockR at hf ⊢
  simp only at hf ⊢
  have k1 := takeS_ok hf
  have k2 := takeS_ok k1.1
  rw [num_4 h, num_1 (kp 4 h), List.append_assoc, ← k1.2, ← k2.2]
  exact ⟨k2.1, rfl⟩
theorem sweep_forth : Forth sweepR swB := by
  refine ⟨fun r h => sweep_by8 h, fun r h => ?_, fun r h hf => ?_⟩
  · exact takeS_flag 2 (takeS_flag 8 (takeS_flag 1 (takeS_flag 4 h)))
  · unfold sweepR at hf ⊢
    simp only at hf ⊢
    have hb : by8s (blockR r).2.1 := kp 1 (kp 4 h)
    have k1 := takeS_ok hf
    have k2 := takeS_ok k1.1
    have k3 := block_ok h k2.1
    unfold swB
    simp only
    rw [num_8 hb, num_2 (kp 8 hb), List.append_assoc, ← k1.2, List.append_assoc, ← k2.2, ← k3.2]
theorem sight_forth : Forth sightR siB := by
  refine ⟨fun r h => sight_by8 h, fun r h => ?_, fun r h hf => ?_⟩
  · exact takeS_flag 8 (takeS_flag 6 (takeS_flag 1 h))
  · unfold sightR at hf ⊢
    simp only at hf ⊢
    have k1 := takeS_ok hf
    have k2 := takeS_ok k1.1
    have k3 := takeS_ok k2.1
    unfold siB
    simp only
    rw [num_1 h, m6l_macL (takeS_len 6 _), num_8 (kp 6 (kp 1 h)), List.append_assoc, ← k1.2, List.append_assoc, ← k2.2, ← k3.2]
theorem readN_forth {α : Type} {part : Rd8 → α × Rd8} {g : α → List Int} (hp : Forth part g) : ∀ (n : Nat) (r : Rd8), by8s r.1 → by8s (readN part n r).2.1 ∧ (r.2 = true → (readN part n r).2.2 = true) ∧ ((readN part n r).2.2 = false → (readN part n r).1.length = n ∧ r.1 = (readN part n r).1.flatMap g ++ (readN part n r).2.1)
  | 0, r, h => ⟨h, fun h => h, fun _ => ⟨rfl, rfl⟩⟩
  | n + 1, r, h => by
    unfold readN
    cases hr : r.2 with
    | true =>
      simp only
      exact ⟨h, fun _ => hr, fun h' => by rw [hr] at h'; simp at h'⟩
    | false =>
      simp only
      obtain ⟨a1, a2, a3⟩ := readN_forth hp n (part r).2 (hp.keep r h)
      refine ⟨a1, fun h => by simp at h, fun hf => ?_⟩
      obtain ⟨b1, b2⟩ := a3 hf
      have hpf : (part r).2.2 = false := by
        cases hq : (part r).2.2 with
        | false => rfl
        | true => rw [a2 hq] at hf; simp at hf
      refine ⟨by simp [b1], ?_⟩
      rw [List.flatMap_cons, List.append_assoc, ← b2]
      exact hp.eq r h hpf
theorem readN_flag {α : Type} {part : Rd8 → α × Rd8} : ∀ (n : Nat) (r : Rd8), r.2 = true → (readN part n r).2.2 = true
  | 0, r, h => h
  | n + 1, r, h => by unfold readN; rw [h]; exact h
theorem readS_forth {α : Type} {part : Rd8 → α × Rd8} {g : α → List Int} (hp : Forth part g) : Forth (readS part) (rowB g) := by
  refine ⟨fun r h => (readN_forth hp _ _ (kp 2 h)).1, fun r h => readN_flag _ _ (takeS_flag 2 h), fun r h hf => ?_⟩
  unfold readS at hf ⊢
  obtain ⟨a1, a2, a3⟩ := readN_forth hp (numS 2 r).toNat _ (kp 2 h)
  obtain ⟨b1, b2⟩ := a3 hf
  have hpf : (takeS 2 r).2.2 = false := by
    cases hq : (takeS 2 r).2.2 with
    | false => rfl
    | true => rw [a2 hq] at hf; simp at hf
  have k := takeS_ok hpf
  have hn := num2 h
  unfold rowB
  rw [b1, show (((numS 2 r).toNat : Nat) : Int) = numS 2 r from by omega, num_2 h, List.append_assoc, ← b2, ← k.2]
theorem known_forth : Forth knownR knB := by
  refine ⟨fun r h => known_by8 h, fun r h => ?_, fun r h hf => ?_⟩
  · exact (readS_forth sight_forth).flag _ (takeS_flag 4 h)
  · unfold knownR at hf ⊢
    simp only at hf ⊢
    have hs := readS_forth sight_forth
    have k1 := hs.eq _ (kp 4 h) hf
    have hpf : (takeS 4 r).2.2 = false := by
      cases hq : (takeS 4 r).2.2 with
      | false => rfl
      | true => rw [hs.flag _ hq] at hf; simp at hf
    have k2 := takeS_ok hpf
    unfold rowB at k1
    unfold knB
    simp only
    rw [num_4 h, List.append_assoc, ← k1, ← k2.2]
theorem probe_forth : Forth probeR prB := by
  refine ⟨fun r h => probe_by8 h, fun r h => ?_, fun r h hf => ?_⟩
  · exact takeS_flag 1 (takeS_flag 8 (takeS_flag 2 (takeS_flag 4 h)))
  · unfold probeR at hf ⊢
    simp only at hf ⊢
    have k1 := takeS_ok hf
    have k2 := takeS_ok k1.1
    have k3 := takeS_ok k2.1
    have k4 := takeS_ok k3.1
    unfold prB
    simp only
    rw [num_4 h, num_2 (kp 4 h), num_8 (kp 2 (kp 4 h)), num_1 (kp 8 (kp 2 (kp 4 h)))]
    simp only [List.append_assoc]
    rw [← k1.2, ← k2.2, ← k3.2, ← k4.2]
theorem case_forth : Forth caseR caB := by
  refine ⟨fun r h => case_by8 h, fun r h => ?_, fun r h hf => ?_⟩
  · exact takeS_flag 1 (takeS_flag 8 (takeS_flag 8 (takeS_flag 4 h)))
  · unfold caseR at hf ⊢
    simp only at hf ⊢
    have k1 := takeS_ok hf
    have k2 := takeS_ok k1.1
    have k3 := takeS_ok k2.1
    have k4 := takeS_ok k3.1
    unfold caB
    simp only
    rw [num_4 h, num_8 (kp 4 h), num_8 (kp 8 (kp 4 h)), num_1 (kp 8 (kp 8 (kp 4 h)))]
    simp only [List.append_assoc]
    rw [← k1.2, ← k2.2, ← k3.2, ← k4.2]
theorem Forth.ok {α : Type} {part : Rd8 → α × Rd8} {g : α → List Int} (hp : Forth part g) {r : Rd8} (hf : (part r).2.2 = false) : r.2 = false := by
  cases hq : r.2 with
  | false => rfl
  | true => rw [hp.flag _ hq] at hf; simp at hf
theorem rdSt_forth {b : List Int} (hb : by8s b) (h : (rdSt b).2 = true) : stB (rdSt b).1 = b ∧ rightS (rdSt b).1 = true ∧ (rdSt b).1 = (stR b).1 := by
  unfold rdSt at h ⊢
  split at h
  · rename_i hc
    rw [if_pos hc]
    refine ⟨?_, hc.2.2, rfl⟩
    obtain ⟨c1, c2, _⟩ := hc
    have h0 := kp 8 (r := (b, false)) hb
    have h1 := kp 2 h0
    have fh := readS_forth hold_forth
    have fs := readS_forth sweep_forth
    have fk := readS_forth known_forth
    have fp := readS_forth probe_forth
    have fc := readS_forth case_forth
    unfold stR at c1 c2 ⊢
    simp only at c1 c2 ⊢
    have h2 := fh.keep _ h1
    have h3 := fs.keep _ h2
    have h4 := fk.keep _ h3
    have h5 := fp.keep _ h4
    have k5 := fc.eq _ h5 c1
    have f5 := fc.ok c1
    have k4 := fp.eq _ h4 f5
    have f4 := fp.ok f5
    have k3 := fk.eq _ h3 f4
    have f3 := fk.ok f4
    have k2 := fs.eq _ h2 f3
    have f2 := fs.ok f3
    have k1 := fh.eq _ h1 f2
    have f1 := fh.ok f2
    have t1 := takeS_ok f1
    have t0 := takeS_ok t1.1
    rw [c2, List.append_nil] at k5
    unfold stB
    simp only
    rw [← k5, ← k4, ← k3, ← k2, ← k1, num_8 (r := (b, false)) hb, num_2 h0, ← t1.2, ← t0.2]
  · simp at h
end Go.Tr
