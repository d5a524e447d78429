/- What is read of bytes has these bytes. Conditions: none but that bytes are bytes. -/
import Derived.Test.YtphocpikombblaaCodecT
namespace Go.Tr
open Go
set_option linter.unusedVariables false
set_option linter.unusedSimpArgs false
set_option maxRecDepth 100000
set_option maxHeartbeats 4000000
structure Forth {α : Type} (part : Rd8 → α × Rd8) (g : α → List Int) : Prop where
  keep : ∀ r, by8s r.1 → by8s (part r).2.1
  flag : ∀ r, r.2 = true → (part r).2.2 = true
  eq : ∀ r, by8s r.1 → (part r).2.2 = false → r.1 = g (part r).1 ++ (part r).2.1
theorem takeS_flag (n : Nat) {r : Rd8} (h : r.2 = true) : (takeS n r).2.2 = true := by
  unfold takeS
  rw [if_pos (.inl h)]
theorem takeS_ok {n : Nat} {r : Rd8} (h : (takeS n r).2.2 = false) : r.2 = false ∧ r.1 = (takeS n r).1 ++ (takeS n r).2.1 := by
  unfold takeS at h ⊢
  split at h
  · simp at h
  · rename_i hn
    rw [if_neg hn]
    refine ⟨?_, (List.take_append_drop n r.1).symm⟩
    cases hr : r.2 with
    | false => rfl
    | true => exact absurd (.inl hr) hn
theorem be_1 {l : List Int} (hl : l.length = 1) (hb : by8s l) : [IntKind.i64.wrap (de l) % 256] = l := by
  rcases l with _ | ⟨a, _ | ⟨b, l⟩⟩
  · simp at hl
  · have ha := hb a (by simp)
    obtain ⟨a0, a1⟩ := ha
    simp only [de, List.foldl_cons, List.foldl_nil, i64_wrap, List.cons.injEq, and_true]
    omega
  · simp at hl
theorem be_4 {l : List Int} (hl : l.length = 4) (hb : by8s l) : be (IntKind.i64.wrap (de l)) 4 = l := by
  rcases l with _ | ⟨a, _ | ⟨b, _ | ⟨c, _ | ⟨d, _ | ⟨e, l⟩⟩⟩⟩⟩
  iterate 4 (exact absurd hl (by simp))
  · obtain ⟨a0, a1⟩ := hb a (by simp)
    obtain ⟨b0, b1⟩ := hb b (by simp)
    obtain ⟨c0, c1⟩ := hb c (by simp)
    obtain ⟨d0, d1⟩ := hb d (by simp)
    simp only [be, de, List.foldl_cons, List.foldl_nil, i64_wrap, List.cons.injEq, and_true]
    refine ⟨?_, ?_, ?_, ?_⟩ <;> omega
  · simp at hl
theorem m6l_macL {l : List Int} (hl : l.length = 6) : m6l (macL l) = l := by
  rcases l with _ | ⟨a, _ | ⟨b, _ | ⟨c, _ | ⟨d, _ | ⟨e, _ | ⟨f, _ | ⟨g, l⟩⟩⟩⟩⟩⟩⟩
  iterate 6 (exact absurd hl (by simp))
  · rfl
  · simp at hl
theorem num_1 {r : Rd8} (h : by8s r.1) : [numS 1 r % 256] = (takeS 1 r).1 := be_1 (takeS_len 1 r) (takeS_by8 h).1
theorem num_4 {r : Rd8} (h : by8s r.1) : be (numS 4 r) 4 = (takeS 4 r).1 := be_4 (takeS_len 4 r) (takeS_by8 h).1
theorem kp (n : Nat) {r : Rd8} (h : by8s r.1) : by8s (takeS n r).2.1 := (takeS_by8 h).2
theorem hold_forth : Forth holdR hoB := by
  refine ⟨fun r h => hold_by8 h, fun r h => ?_, fun r h hf => ?_⟩
  · exact takeS_flag 6 (takeS_flag _ (takeS_flag 1 (takeS_flag 4 h)))
  · have h1 := kp 4 h
    have h2 := kp 1 h1
    have hn := (num1 h1).1
    unfold holdR at hf ⊢
    simp only at hf ⊢
    have h3 := kp (numS 1 (takeS 4 r).2).toNat h2
    have hb3 := (takeS_by8 (n := (numS 1 (takeS 4 r).2).toNat) h2).1
    have l3 := takeS_len (numS 1 (takeS 4 r).2).toNat (takeS 1 (takeS 4 r).2).2
    have k1 := takeS_ok hf
    have k2 := takeS_ok k1.1
    have k3 := takeS_ok k2.1
    have k4 := takeS_ok k3.1
    have e1 := num_1 h1
    have e4 := num_4 h
    have e6 := m6l_macL (takeS_len 6 (takeS (numS 1 (takeS 4 r).2).toNat (takeS 1 (takeS 4 r).2).2).2)
    unfold hoB
    simp only
    rw [ofBytes_to hb3, toBytes_len, l3, e4, e6]
    have hn0 := hn.1
    have hn1 := hn.2
    rw [show (((numS 1 (takeS 4 r).2).toNat : Nat) : Int) % 256 = numS 1 (takeS 4 r).2 % 256 from by omega, e1]
    simp only [List.append_assoc]
    rw [← k1.2, ← k2.2, ← k3.2, ← k4.2]
theorem block_ok {r : Rd8} (h : by8s r.1) (hf : (blockR r).2.2 = false) : r.2 = false ∧ r.1 = be (blockR r).1.1 4 ++ [(blockR r).1.2 % 256] ++ (blockR r).2.1 := by
  unfold blockR at hf ⊢
  simp only at hf ⊢
  have k1 := takeS_ok hf
  have k2 := takeS_ok k1.1
  rw [num_4 h, num_1 (kp 4 h), List.append_assoc, ← k1.2, ← k2.2]
  exact ⟨k2.1, rfl⟩
theorem Forth.ok {α : Type} {part : Rd8 → α × Rd8} {g : α → List Int} (hp : Forth part g) {r : Rd8} (hf : (part r).2.2 = false) : r.2 = false := by
  cases hq : r.2 with
  | false => rfl
  | true => rw [hp.flag _ hq] at hf; simp at hf
end Go.Tr
