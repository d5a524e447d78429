/- A prefix that is none, or too great, or in the way, is told so first. Conditions: none but the numbers' bounds. -/
import Derived.Test.YtdbpknejbpiebaaSweepT
namespace Go.Tr
open Go
set_option linter.unusedVariables false
set_option linter.unusedSimpArgs false
set_option maxRecDepth 100000
set_option maxHeartbeats 4000000

theorem put_over (now e : Int) (b : Int × Int) (hb : in32 b.1) (ss l : List TSweep) (hs : ∀ s ∈ ss, in32 s.1.1) (hl : ss.length ≤ 1000) :
    terrierlaw14_SweepPut_l0 (now, e, 0, false, (ss.length : Int), 0, b.1, b.2, ss, l, ()) = some (.inl (now, e, 0, ss.any (fun y => ovl y.1 b), b.1, b.2, ss, l, ())) := by
  unfold terrierlaw14_SweepPut_l0
  have h0 : ((now, e, 0, false, (ss.length : Int), 0, b.1, b.2, ss, l, ()) : Int × Int × Int × Bool × Int × Int × Int × Int × (List TSweep) × (List TSweep) × Unit) = (fun k : Nat => (now, e, (0 : Int), (ss.take k).any (fun y => ovl y.1 b), (ss.length : Int), (k : Int), b.1, b.2, ss, l, ())) 0 := by simp
  rw [h0, loopM_steps (n := ss.length) (fun k : Nat => (now, e, (0 : Int), (ss.take k).any (fun y => ovl y.1 b), (ss.length : Int), (k : Int), b.1, b.2, ss, l, ())) (Nat.zero_le _) fun k _ hk => ?_]
  · refine loopM_last ?_
    show terrierlaw14_SweepPut_b0 now e 0 ((ss.take ss.length).any (fun y => ovl y.1 b)) (ss.length : Int) (ss.length : Int) b.1 b.2 ss l = _
    unfold terrierlaw14_SweepPut_b0
    rw [decide_eq_false (by omega), cnd_false, List.take_length]
  · show terrierlaw14_SweepPut_b0 now e 0 ((ss.take k).any (fun y => ovl y.1 b)) (ss.length : Int) (k : Int) b.1 b.2 ss l = _
    unfold terrierlaw14_SweepPut_b0
    have hg : ss.getD ((k : Int)).toNat zSweep = ss[k] := by rw [Int.toNat_natCast, List.getD_eq_getElem?_getD, List.getElem?_eq_getElem hk]; rfl
    rw [decide_eq_true (by omega), cnd_true, chk_pos (by omega), chk_pos (by omega), hg, Overlap_eq (x := (ss[k].1.1, ss[k].1.2)) (y := (b.1, b.2)) (hs _ (List.getElem_mem hk)) hb]
    simp only [chk_same, bndG_val, ltO_def, chk_nn]
    rw [w64 (by omega) (by omega)]
    have e1 : ((ss.take (k + 1)).any fun y => ovl y.1 b) = (((ss.take k).any fun y => ovl y.1 b) || ovl ss[k].1 b) := by
      rw [List.take_succ_eq_append_getElem hk, List.any_append]; simp
    rw [e1]
    rfl

def hasB (b : Int × Int) (s : TSweep) : Bool := s.1.1 == b.1 && s.1.2 == b.2
theorem clamp_if (now : Int) : (if (if (1099511627776 : Int) < now then (1099511627776 : Int) else now) > (0 : Int) then if (1099511627776 : Int) < now then (1099511627776 : Int) else now else (0 : Int)) = clampS now := by
  unfold clampS
  split <;> split <;> (try split) <;> (try split) <;> omega

theorem put_count (now : Int) (b : Int × Int) (ss l : List TSweep) (hl : l.length ≤ 1000) (hb : ∀ s ∈ l, hasB b s = true → s.2.2 = 0 ∧ s.2.1 = clampS now) :
    terrierlaw14_SweepPut_l1 (now, 0, (l.length : Int), 0, b.1, b.2, ss, l, ()) = some (.inl (((l.filter (hasB b)).length : Int), ss, l, ())) := by
  unfold terrierlaw14_SweepPut_l1
  have h0 : ((now, 0, (l.length : Int), 0, b.1, b.2, ss, l, ()) : Int × Int × Int × Int × Int × Int × (List TSweep) × (List TSweep) × Unit) = (fun k : Nat => (now, (((l.take k).filter (hasB b)).length : Int), (l.length : Int), (k : Int), b.1, b.2, ss, l, ())) 0 := by simp
  rw [h0, loopM_steps (n := l.length) (fun k : Nat => (now, (((l.take k).filter (hasB b)).length : Int), (l.length : Int), (k : Int), b.1, b.2, ss, l, ())) (Nat.zero_le _) fun k _ hk => ?_]
  · refine loopM_last ?_
    show terrierlaw14_SweepPut_b1 now (((l.take l.length).filter (hasB b)).length : Int) (l.length : Int) (l.length : Int) b.1 b.2 ss l = _
    unfold terrierlaw14_SweepPut_b1
    rw [decide_eq_false (by omega), cnd_false, List.take_length]
  · show terrierlaw14_SweepPut_b1 now (((l.take k).filter (hasB b)).length : Int) (l.length : Int) (k : Int) b.1 b.2 ss l = _
    unfold terrierlaw14_SweepPut_b1
    have hg : l.getD ((k : Int)).toNat zSweep = l[k] := by rw [Int.toNat_natCast, List.getD_eq_getElem?_getD, List.getElem?_eq_getElem hk]; rfl
    have hle : ((l.take k).filter (hasB b)).length ≤ 1000 := by
      have := List.length_filter_le (hasB b) (l.take k)
      rw [List.length_take] at this
      omega
    rw [decide_eq_true (by omega), cnd_true, chk_pos (by omega), chk_pos (by omega), hg]
    simp only [chk_same, ltO_def, chk_nn, clamp_if]
    rw [w64 (n := (k : Int) + 1) (by omega) (by omega), w64 (n := _ + 1) (by omega) (by omega), List.take_succ_eq_append_getElem hk, List.filter_append]
    have e : (l[k].1.1 == b.1 && l[k].1.2 == b.2) = hasB b l[k] := rfl
    rw [e]
    cases hc : hasB b l[k] with
    | false => simp [hc]
    | true =>
      obtain ⟨h1, h2⟩ := hb _ (List.getElem_mem hk) hc
      rw [h1, h2]
      simp [hc]

theorem ovl_self {s : TSweep} (h : swR s) : ovl s.1 s.1 = true := by
  have hb := blk_of h.1 h.2.1 h.2.2.1
  rw [ovl_iff hb hb]
  have := hb.w
  omega

theorem sweepPut_law {x : Int × Int × Int × Int × Int × Int × Int × Int × Int} {acts : List (Int × Int × Int)} {b : Int × Int} {now : Int} (hb : in32 b.1) : terrierlaw14_SweepPut x acts b now = some (true, ()) := by
  unfold terrierlaw14_SweepPut
  rw [sawake_eq]
  simp only [bnd_val, Bool.not_true, cnd_false]
  obtain ⟨c, hc⟩ := sconfig_eq x
  obtain ⟨t, ss, s1, s2, _⟩ := Some_R c acts
  have hl := s2.len
  rw [hc]
  simp only [bnd_val]
  rw [s1]
  simp only [bnd_val]
  rcases Put_eq s2 hb now with ⟨p1, p2⟩ | ⟨p1, l, p2, p3, p4, p5, p6, p7⟩
  · rw [p2]
    simp only [bnd_val]
    rw [put_over now _ b hb ss [] s2.in32 (by omega)]
    simp only [bnd_val, sumO_inl]
    rw [Right_eq (b := (b.1, b.2)) hb]
    simp only [bnd_val]
    unfold putE at p1 ⊢
    cases hr : rB b with
    | false =>
      have hr' : rB (b.1, b.2) = false := hr
      simp [hr', ltO_def]
    | true =>
      have hr' : rB (b.1, b.2) = true := hr
      have hz : szB b = Wd b.2 := by unfold szB; rw [if_pos hr]
      have h24 := Wd_24 (rB_bo hr).1
      rw [hr] at p1
      simp only [hr', Bool.not_true, cnd_false, Bool.true_eq_false, if_false] at p1 ⊢
      by_cases hs : szB b > 256
      · rw [if_pos hs, decide_eq_true (show b.2 < 24 by rw [hz] at hs; omega)]
        simp [ltO_def]
      · rw [if_neg hs] at p1 ⊢
        rw [decide_eq_false (show ¬ b.2 < 24 by rw [hz] at hs; omega), cnd_false]
        cases ho : ss.any (fun y => ovl y.1 b) with
        | true => simp [ltO_def]
        | false =>
          rw [ho] at p1
          simp only [Bool.false_eq_true, if_false, cnd_false] at p1 ⊢
          by_cases h16 : ss.length ≥ 16
          · rw [if_pos h16, decide_eq_true (by omega)]
            simp [ltO_def]
          · rw [if_neg h16] at p1
            exact absurd rfl p1
  · rw [p2]
    simp only [bnd_val]
    rw [put_over now 0 b hb ss l s2.in32 (by omega)]
    simp only [bnd_val, sumO_inl]
    rw [Right_eq (b := (b.1, b.2)) hb, p6]
    have hr : rB (b.1, b.2) = true := p5.2.1
    have hrb : rB b = true := p5.2.1
    have hz : szB b = Wd b.2 := by unfold szB; rw [if_pos hrb]
    have h24 := Wd_24 (rB_bo hrb).1
    have hs : szB b ≤ 256 := p5.2.2.1
    simp only [bnd_val, hr, Bool.not_true, cnd_false]
    rw [decide_eq_false (show ¬ b.2 < 24 by rw [hz] at hs; omega), cnd_false, decide_eq_false (by omega), cnd_false]
    have hno : ∀ s ∈ ss, hasB b s = false := fun s hsm => by
      have h1 := List.any_eq_false.1 p6 s hsm
      cases hh : hasB b s with
      | false => rfl
      | true =>
        exfalso
        unfold hasB at hh
        simp only [Bool.and_eq_true, beq_iff_eq] at hh
        have : s.1 = b := Prod.ext hh.1 hh.2
        rw [← this] at h1
        exact h1 (ovl_self (s2.all s hsm))
    have hll : l.length = ss.length + 1 := by rw [p3.length_eq]; simp
    rw [put_count now b ss l (by omega) (fun s hsm hh => by
      rcases List.mem_append.1 (p3.mem_iff.1 hsm) with h1 | h1
      · rw [hno s h1] at hh; simp at hh
      · have : s = newS b now := by simpa using h1
        rw [this]; exact ⟨rfl, rfl⟩)]
    have hcnt : (l.filter (hasB b)).length = 1 := by
      rw [(p3.filter (hasB b)).length_eq, List.filter_append, List.filter_eq_nil_iff.2 (fun s hsm => by rw [hno s hsm]; simp)]
      simp [hasB, newS]
    rw [hcnt]
    simp only [bnd_val, sumO_inl, ltO_def, chk_same]
    rw [w64 (by omega) (by omega), lawRight_eq p4.in32 (by omega), RowR_right p4, hll]
    simp [chk]

end Go.Tr
