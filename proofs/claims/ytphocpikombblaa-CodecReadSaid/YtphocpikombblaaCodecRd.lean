/- What is read of bytes as an event has these bytes. Conditions: none but the rows' bounds. -/
import Derived.Test.YtphocpikombblaaCodecR
import Derived.Test.YtphocpikombblaaCodecS
import Derived.Test.YtphocpikombblaaOpsKc
import Derived.Test.YtphocpikombblaaCodec4D
namespace Go.Tr
open Go
set_option linter.unusedVariables false
set_option linter.unusedSimpArgs false
set_option maxRecDepth 100000
set_option maxHeartbeats 4000000
theorem fin_yes {e : TEv} {r : Rd8} (h : (finR e r).2 = true) : finR e r = (e, true) ∧ r.2 = false ∧ r.1 = [] ∧ fitS e = true := by
  unfold finR at h ⊢
  split at h
  · rename_i hc; rw [if_pos hc]; exact ⟨rfl, hc⟩
  · simp at h
theorem fin_no {e : TEv} {r : Rd8} (h : (finR e r).2 = false) : (finR e r).1 = zEv := by
  unfold finR at h ⊢
  split at h
  · simp at h
  · rename_i hc; rw [if_neg hc]
theorem rdE_no {b : List Int} (h : (rdE b).2 = false) : (rdE b).1 = zEv := by
  unfold rdE at h ⊢
  simp only at h ⊢
  repeat' (split at h)
  all_goals first
    | (rename_i h1; rw [if_pos h1]; exact fin_no h)
    | skip
  · rename_i h1 h2; rw [if_neg h1, if_pos h2]; exact fin_no h
  · rename_i h1 h2 h3; rw [if_neg h1, if_neg h2, if_pos h3]; exact fin_no h
  · rename_i h1 h2 h3 h4; rw [if_neg h1, if_neg h2, if_neg h3, if_pos h4]; exact fin_no h
  · rename_i h1 h2 h3 h4; rw [if_neg h1, if_neg h2, if_neg h3, if_neg h4]; exact fin_no h
theorem by8_in (n : Int) (h : by8 n) : -9223372036854775808 ≤ n ∧ n ≤ 9223372036854775807 := by
  obtain ⟨h1, h2⟩ := h; omega
theorem mac_ok {l : List Int} (h : by8s l) : M6ok (macL l) := ⟨getD_by8 h 0, getD_by8 h 1, getD_by8 h 2, getD_by8 h 3, getD_by8 h 4, getD_by8 h 5⟩
theorem z32 : in32 0 := by unfold in32; decide
theorem rdE_yes {b : List Int} (hb : by8s b) (h : (rdE b).2 = true) : EvWf (rdE b).1 ∧ evB (rdE b).1 = b ∧ fitS (rdE b).1 = true := by
  have hw8 := (num1 (r := (b, false)) hb).1
  have hr := kp 1 (r := (b, false)) hb
  have e1 := num_1 (r := (b, false)) hb
  have i64 := by8_in _ hw8
  unfold rdE at h ⊢
  simp only at h ⊢
  generalize hw : numS 1 (b, false) = w at h hw8 e1 i64 ⊢
  have fin : ∀ {r : Rd8}, (takeS 1 (b, false)).2.2 = false → b = [w % 256] ++ (takeS 1 (b, false)).2.1 := fun {r} hf => by
    have := (takeS_ok hf).2
    rw [e1]; exact this
  generalize hq : (takeS 1 (b, false)).2 = q at h hr fin ⊢
  by_cases h1 : w = 1
  · rw [if_pos h1] at h ⊢
    obtain ⟨g1, g2, g3, g4⟩ := fin_yes h
    rw [g1]
    have hf := hold_forth.eq q hr g2
    have hh := holdR_wf hr
    have hlen : (holdR q).1.2.1.length ≤ 255 := by
      show (toBytes (takeS (numS 1 (takeS 4 q).2).toNat _).1).length ≤ _
      have := (num1 (kp 4 hr)).1
      obtain ⟨t1, t2⟩ := this
      rw [toBytes_len, takeS_len]; omega
    have hq2 := hold_forth.ok g2
    refine ⟨⟨hh.1, by show (holdR q).1.2.1.length ≤ _; omega, hh.2.2, z32, M6z, i64⟩, ?_, g4⟩
    rw [fin (r := q) hq2]
    unfold evB
    simp only
    rw [if_pos h1, hf, g3, List.append_nil]
  · rw [if_neg h1] at h ⊢
    by_cases h3 : w = 3 ∨ w = 4
    · rw [if_pos h3] at h ⊢
      obtain ⟨g1, g2, g3, g4⟩ := fin_yes h
      rw [g1]
      have hf := block_ok hr g2
      refine ⟨⟨z32, by show (0 : Nat) ≤ _; omega, M6z, (num4 hr).1, M6z, i64⟩, ?_, g4⟩
      rw [fin (r := q) hf.1]
      unfold evB
      simp only
      rw [if_neg h1, if_pos h3, hf.2, g3, List.append_nil]
    · rw [if_neg h3] at h ⊢
      by_cases h5 : w = 5
      · rw [if_pos h5] at h ⊢
        obtain ⟨g1, g2, g3, g4⟩ := fin_yes h
        rw [g1]
        have k1 := takeS_ok g2
        have k2 := takeS_ok k1.1
        have k3 := takeS_ok k2.1
        refine ⟨⟨(num4 hr).1, by show (0 : Nat) ≤ _; omega, M6z, z32, mac_ok (takeS_by8 (kp 1 (kp 4 hr))).1, i64⟩, ?_, g4⟩
        rw [fin (r := q) k3.1]
        unfold evB
        simp only
        rw [if_neg h1, if_neg h3, if_pos h5, num_4 hr, num_1 (kp 4 hr), m6l_macL (takeS_len 6 _)]
        congr 1
        rw [k3.2, k2.2, k1.2, g3, List.append_nil, List.append_assoc]
      · rw [if_neg h5] at h ⊢
        by_cases h2 : w = 2 ∨ w = 6 ∨ w = 7
        · rw [if_pos h2] at h ⊢
          obtain ⟨g1, g2, g3, g4⟩ := fin_yes h
          rw [g1]
          have k1 := takeS_ok g2
          refine ⟨⟨(num4 hr).1, by show (0 : Nat) ≤ _; omega, M6z, z32, M6z, i64⟩, ?_, g4⟩
          rw [fin (r := q) k1.1]
          unfold evB
          simp only
          rw [if_neg h1, if_neg h3, if_neg h5, if_pos h2, num_4 hr, k1.2, g3, List.append_nil]
        · rw [if_neg h2] at h ⊢
          obtain ⟨g1, g2, g3, g4⟩ := fin_yes h
          rw [g1]
          refine ⟨⟨z32, by show (0 : Nat) ≤ _; omega, M6z, z32, M6z, i64⟩, ?_, g4⟩
          rw [fin (r := q) g2]
          unfold evB
          simp only
          rw [if_neg h1, if_neg h3, if_neg h5, if_neg h2, g3]
theorem EvA.wf {e : TEv} (h : EvA e) : EvWf e := ⟨by have := h.addr; unfold in32; omega, by have := h.ow; omega, h.hm, h.block, h.sm, by have := h.wh; omega⟩
theorem evB_len {e : TEv} (h : e.2.1.2.1.length ≤ 9) : 1 ≤ (evB e).length ∧ (evB e).length ≤ 30 := by
  have l6 : ∀ m : TMac, (m6l m).length = 6 := fun m => rfl
  unfold evB
  rw [List.length_append, List.length_singleton]
  refine ⟨by omega, ?_⟩
  split
  · unfold hoB
    simp only [List.length_append, be_len, l6, List.length_singleton, ofBytes_len]; omega
  · split
    · simp only [List.length_append, be_len, List.length_singleton]; omega
    · split
      · simp only [List.length_append, be_len, List.length_singleton, l6]; omega
      · split
        · rw [be_len]; omega
        · simp
theorem evB_by8 {e : TEv} (h : EvWf e) : by8s (evB e) := by
  have one : ∀ n : Int, by8s [n % 256] := fun n c hc => by
    simp only [List.mem_cons, List.not_mem_nil, or_false] at hc
    subst hc; exact ⟨by omega, by omega⟩
  unfold evB
  refine by8s_app (one _) ?_
  split
  · exact by8s_app (by8s_app (by8s_app (be_by8 _ 4) (one _)) (ofBytes_by8 _)) (m6l_by8 h.m)
  split
  · exact by8s_app (be_by8 _ 4) (one _)
  split
  · exact by8s_app (by8s_app (be_by8 _ 4) (one _)) (m6l_by8 h.s)
  split
  · exact be_by8 _ 4
  · exact by8s_nil
theorem by8s_set {l : List Int} (h : by8s l) (i : Nat) {c : Int} (hc : by8 c) : by8s (l.set i c) := fun x hx => by
  rcases List.mem_or_eq_of_mem_set hx with hx | rfl
  · exact h x hx
  · exact hc
theorem by8s_slice {l : List Int} (h : by8s l) (i j : Nat) : by8s (sliceA i j l) := fun x hx => h x (List.drop_subset _ _ (List.take_subset _ _ hx))
theorem wu8_by8 (n : Int) : by8 (IntKind.u8.wrap n) := by have := wu8_in n; exact ⟨this.1, by omega⟩
theorem readAll {es : List TEv} (hes : ∀ e ∈ es, EvA e) (hl : es.length ≤ 1000) {at' by' : Int} (ha : u8B at') (hb : u8B by') : ∀ (m k : Nat) (all : List (List Int)), k + m = es.length → all.length ≤ 1 + 3 * k → (∀ x ∈ all, by8s x) →
    ∃ all', terrierlaw19_CodecRead_l0 (at', by', (es.length : Int), (k : Int), all, es, ()) = some (.inl (all', ())) ∧ all'.length ≤ 1 + 3 * es.length ∧ ∀ x ∈ all', by8s x := by
  intro m
  induction m with
  | zero =>
    intro k all hk hlen hall
    refine ⟨all, ?_, by omega, hall⟩
    unfold terrierlaw19_CodecRead_l0
    refine loopM_last ?_
    show terrierlaw19_CodecRead_b0 at' by' (es.length : Int) (k : Int) all es = _
    unfold terrierlaw19_CodecRead_b0
    rw [decide_eq_false (by omega)]; rfl
  | succ m ih =>
    intro k all hk hlen hall
    have hkl : k < es.length := by omega
    have he := hes _ (List.getElem_mem hkl)
    have hev := Event_eq he.wf
    obtain ⟨l1, l2⟩ := evB_len he.ow
    have h8 := evB_by8 he.wf
    obtain ⟨a0, a1⟩ := ha
    have hby := hb
    have hm0 : at' % ((evB es[k]).length : Int) ≥ 0 := Int.emod_nonneg _ (by omega)
    have hm1 : at' % ((evB es[k]).length : Int) < ((evB es[k]).length : Int) := Int.emod_lt_of_pos _ (by omega)
    have hb : terrierlaw19_CodecRead_b0 at' by' (es.length : Int) (k : Int) all es = some (.inl (at', by', (es.length : Int), ((k + 1 : Nat) : Int), all ++ [(evB es[k]).set (at' % ((evB es[k]).length : Int)).toNat (IntKind.u8.wrap (bxorI IntKind.u8 ((evB es[k]).getD (at' % ((evB es[k]).length : Int)).toNat 0) by')), sliceA 0 (at' % ((evB es[k]).length : Int)).toNat (evB es[k]), evB es[k] ++ [by']], es, ())) := by
      unfold terrierlaw19_CodecRead_b0
      rw [decide_eq_true (by omega), cnd_true, chk_pos (by omega), chk_pos (by omega)]
      simp only [Int.toNat_natCast, getD_hit es k _ hkl]
      erw [hev]
      simp only [bnd_val, ltO_def]
      generalize evB es[k] = B at l1 l2 h8 hm0 hm1 ⊢
      have hz : (((B.length : Nat) : Int) == 0) = false := beq_eq_false_iff_ne.2 (by omega)
      rw [hz, cnd_false, w64 (n := at') (by omega) (by omega), Int.tmod_eq_emod_of_nonneg a0]
      have c1 : room 1 B.length := by show B.length * 1 ≤ _; omega
      have c2 : ¬ ((B.length : Nat) : Int) = 0 := by omega
      have c3 : 0 ≤ at' % (B.length : Int) ∧ at' % (B.length : Int) < (B.length : Int) := ⟨hm0, hm1⟩
      have c4 : (at' % (B.length : Int)).toNat < B.length := by omega
      have c5 : (0 : Int) ≤ 0 ∧ 0 ≤ at' % (B.length : Int) ∧ at' % (B.length : Int) ≤ (B.length : Int) := by omega
      have c6 : room 1 (B.length + [by'].length) := by show _ * _ ≤ _; simp; omega
      rw [chk_pos c1, chk_pos c2, chk_pos c3, chk_pos c4, chk_pos c3, chk_pos c4, chk_pos c2, chk_pos c5, chk_pos c1, chk_pos c6, chk_pos (by show _ * _ ≤ _; simp; omega), w64 (by omega) (by omega)]
      rfl
    have hall' : ∀ x ∈ all ++ [(evB es[k]).set (at' % ((evB es[k]).length : Int)).toNat (IntKind.u8.wrap (bxorI IntKind.u8 ((evB es[k]).getD (at' % ((evB es[k]).length : Int)).toNat 0) by')), sliceA 0 (at' % ((evB es[k]).length : Int)).toNat (evB es[k]), evB es[k] ++ [by']], by8s x := by
      intro x hx
      rcases List.mem_append.1 hx with hx | hx
      · exact hall x hx
      · simp only [List.mem_cons, List.not_mem_nil, or_false] at hx
        rcases hx with rfl | rfl | rfl
        · exact by8s_set h8 _ (wu8_by8 _)
        · exact by8s_slice h8 _ _
        · exact by8s_app h8 fun c hc => by
            simp only [List.mem_cons, List.not_mem_nil, or_false] at hc
            subst hc
            exact ⟨hby.1, hby.2⟩
    obtain ⟨all2, g1, g2⟩ := ih (k + 1) _ (by omega) (by simp; omega) hall'
    refine ⟨all2, ?_, g2⟩
    unfold terrierlaw19_CodecRead_l0 at g1 ⊢
    rw [loopM_next (s' := (at', by', (es.length : Int), ((k + 1 : Nat) : Int), _, es, ())) hb]
    exact g1
theorem readOne {all : List (List Int)} (hl : all.length ≤ 100000) (hall : ∀ x ∈ all, by8s x) : terrierlaw19_CodecRead_l1 ((all.length : Int), 0, all, ()) = some (.inl ()) := by
  unfold terrierlaw19_CodecRead_l1
  refine (loopM_steps (n := all.length) (fun k : Nat => ((all.length : Int), (k : Int), all, ())) (Nat.zero_le _) fun k _ hk => ?_).trans ?_
  · show terrierlaw19_CodecRead_b1 (all.length : Int) (k : Int) all = _
    have h8 := hall _ (List.getElem_mem hk)
    unfold terrierlaw19_CodecRead_b1
    rw [decide_eq_true (by omega), cnd_true, chk_pos (by omega), chk_pos (by omega)]
    simp only [Int.toNat_natCast, getD_hit all k _ hk, ltO_def, chk_same, chk_and, chk_nn]
    rw [ReadEvent_eq h8, bnd_val]
    simp only
    rw [w64 (by omega) (by omega)]
    cases hok : (rdE all[k]).2 with
    | true =>
      obtain ⟨g1, g2, g3⟩ := rdE_yes h8 hok
      rw [levent19_eq g1, may_law (by have := g1.o; omega) g1.m.h0, g2, g3]
      simp [chk]
    | false =>
      rw [rdE_no hok]
      simp [chk, bndG_false, zEv]
  · refine loopM_last ?_
    show terrierlaw19_CodecRead_b1 (all.length : Int) (all.length : Int) all = _
    unfold terrierlaw19_CodecRead_b1
    rw [decide_eq_false (by omega)]; rfl
theorem codecRead_law {b : List Int} (h8 : by8s b) {acts : List TMac} (hx : ∀ a ∈ acts, A6 a) {at' by' : Int} (ha : u8B at') (hb : u8B by') : terrierlaw19_CodecRead b acts at' by' = some (true, ()) := by
  unfold terrierlaw19_CodecRead
  rw [awakeC_eq]
  simp only [bnd_val, Bool.not_true, cnd_false]
  obtain ⟨es, e1, e2, e3⟩ := events_R hx
  rw [e1]
  simp only [bnd_val]
  obtain ⟨all, g1, g2, g3⟩ := readAll e3 e2 ha hb es.length 0 [b] (by omega) (by simp) (fun x hx => by
    have : x = b := by simpa using hx
    rw [this]; exact h8)
  have g1' : terrierlaw19_CodecRead_l0 (at', by', (es.length : Int), 0, [b], es, ()) = _ := g1
  rw [g1', bnd_val, sumO_inl]
  simp only
  rw [readOne (by omega) g3, bnd_val, sumO_inl]
end Go.Tr
