/- A block that is put to those that are swept. What is put, and what a tick does: rows stay right. Rows behind some acts. Rows are right as the document says. The document's examples; rows that are turned. Conditions: none but those that each theorem states. -/
import Derived.Test.YtklmhllelgjglaaGreatSweepS
import Derived.Test.YtklmhllelgjglaaGreatAddrT
namespace Go.Tr
open Go
set_option linter.unusedVariables false
set_option linter.unusedSimpArgs false
set_option maxRecDepth 100000
set_option maxHeartbeats 4000000
theorem Wd_256 {n : Int} (h : bo n) (hw : Wd n ≤ 256) : 24 ≤ n := by
  obtain ⟨j, hj, rfl, e⟩ := Wd_nat h
  rw [e] at hw
  have hp : (2 : Int) ^ j ≤ 2 ^ 8 := hw
  have hj8 : j ≤ 8 := by
    have : (2 : Nat) ^ j ≤ 2 ^ 8 := by exact_mod_cast hp
    exact (Nat.pow_le_pow_iff_right (by omega)).1 this
  omega
theorem blk_of {b : Int × Int} (h : in32 b.1) (hr : rB b = true) (hs : szB b ≤ 256) : BlkOK b := by
  have h1 := rB_bo hr
  have h2 := szB_le h
  unfold szB at h2 hs
  rw [if_pos hr] at h2 hs
  have h3 := Wd_256 h1.1 hs
  have h4 := Wd_bd h1.1
  have h5 := h1.1
  unfold bo at h5
  exact ⟨hr, h, ⟨by omega, by omega⟩, ⟨by omega, by omega⟩, h1.2, by omega⟩
def ovl (x y : Int × Int) : Bool := wiB x y || wiB y x
theorem ovl_comm (x y : Int × Int) : ovl x y = ovl y x := by unfold ovl; rw [Bool.or_comm]
theorem ovl_iff {x y : Int × Int} (hx : BlkOK x) (hy : BlkOK y) : ovl x y = true ↔ x.1 < y.1 + Wd y.2 ∧ y.1 < x.1 + Wd x.2 := by
  unfold ovl
  by_cases h : y.2 ≤ x.2
  · have n1 := (nest_ge hx hy h).2
    rw [wi_ge hx hy h]
    by_cases h2 : x.2 ≤ y.2
    · have n2 := (nest_ge hy hx h2).2
      rw [wi_ge hy hx h2]
      simp only [Bool.or_eq_true, Bool.and_eq_true, decide_eq_true_eq]
      rw [n1, n2]
      constructor
      · rintro (h | h)
        · exact h
        · exact ⟨h.2, h.1⟩
      · exact Or.inl
    · rw [wi_lt (by omega), Bool.or_false]
      simp only [Bool.and_eq_true, decide_eq_true_eq]
      exact n1
  · have h2 : x.2 ≤ y.2 := by omega
    have n2 := (nest_ge hy hx h2).2
    rw [wi_lt (by omega), Bool.false_or, wi_ge hy hx h2]
    simp only [Bool.and_eq_true, decide_eq_true_eq]
    rw [n2]
    exact And.comm
theorem indexW_loop (l : List TSweep) (b : Int × Int) (hl : ∀ s ∈ l, in32 s.1.1) (hb32 : in32 b.1) (hn : l.length ≤ 140737488355328) : ∀ (m k : Nat), k + m = l.length →
    slices_IndexFunc_w1_l0 (l, b, (l.length : Int), (k : Int), ()) = some (idxR (idxS (fun y : TSweep => ovl y.1 b) (l.drop k) k))
  | 0, k, hk => by
    unfold slices_IndexFunc_w1_l0
    rw [List.drop_of_length_le (by omega)]
    rw [loopM_last (y := .inl ())]
    · rfl
    · show slices_IndexFunc_w1_b0 l b (l.length : Int) (k : Int) = _
      unfold slices_IndexFunc_w1_b0
      rw [decide_eq_false (by omega)]; rfl
  | m + 1, k, hk => by
    have hkl : k < l.length := by omega
    have ih := indexW_loop l b hl hb32 hn m (k + 1) (by omega)
    rw [List.drop_eq_getElem_cons hkl]
    unfold slices_IndexFunc_w1_l0 at ih ⊢
    have hb : slices_IndexFunc_w1_b0 l b (l.length : Int) (k : Int) = if (ovl l[k].1 b) = true then some (.inr (.inr ((k : Int), ()))) else some (.inl (l, b, (l.length : Int), ((k + 1 : Nat) : Int), ())) := by
      unfold slices_IndexFunc_w1_b0
      rw [decide_eq_true (by omega), cnd_true, chk_pos (by omega)]
      simp only [ltO_def, recD, getD_toNat]
      have : l.getD k zSweep = l[k] := by rw [List.getD_eq_getElem?_getD, List.getElem?_eq_getElem hkl]; rfl
      rw [this]
      unfold sweep_Put_1
      rw [Overlap_eq (hl _ (List.getElem_mem hkl)) hb32]
      simp only [ltO_def, bnd_val, cnd_ite]
      rw [w64 (by omega) (by omega)]; rfl
    by_cases h : (ovl l[k].1 b) = true
    · rw [if_pos h] at hb
      rw [loopM_last (y := .inr ((k : Int), ())) hb, idxS_pos (p := fun y : TSweep => ovl y.1 b) h]
      unfold idxR; rw [if_neg (by omega)]
    · rw [if_neg h] at hb
      rw [loopM_next (s' := (l, b, (l.length : Int), ((k + 1 : Nat) : Int), ())) hb, ih, idxS_next (p := fun y : TSweep => ovl y.1 b) h]
theorem containsW_eq (l : List TSweep) (b : Int × Int) (hl : ∀ s ∈ l, in32 s.1.1) (hb32 : in32 b.1) (hn : l.length ≤ 140737488355328) : slices_ContainsFunc_w1 l b = some (l.any fun y => ovl y.1 b, ()) := by
  unfold slices_ContainsFunc_w1 slices_IndexFunc_w1
  have L := indexW_loop l b hl hb32 hn l.length 0 (by omega)
  have L' : slices_IndexFunc_w1_l0 (l, b, (l.length : Int), 0, ()) = _ := L
  rw [L', List.drop_zero]
  have hi := idxS_neg (p := fun y : TSweep => ovl y.1 b) (l := l) (k := 0)
  rw [← hi]
  generalize idxS (fun y : TSweep => ovl y.1 b) l 0 = v
  unfold idxR
  by_cases h : v = -1
  · subst h; rfl
  · rw [if_neg h]; rfl
def swR (s : TSweep) : Prop := in32 s.1.1 ∧ rB s.1 = true ∧ szB s.1 ≤ 256 ∧ (0 ≤ s.2.1 ∧ s.2.1 ≤ 1099511627776) ∧ (0 ≤ s.2.2 ∧ s.2.2 < szB s.1)
def apart (x y : TSweep) : Prop := x.1.1 < y.1.1 ∧ ovl x.1 y.1 = false
structure RowR (ss : List TSweep) : Prop where
  len : ss.length ≤ 16
  all : ∀ s ∈ ss, swR s
  ap : ss.Pairwise apart
theorem swR_I {s : TSweep} (h : swR s) : swI s := by
  obtain ⟨h1, h2, h3, h4, h5, h6⟩ := h
  exact ⟨h1, h5, by omega, h3⟩
theorem RowR.due {ss : List TSweep} (h : RowR ss) : DueOk ss := fun s hs => by
  obtain ⟨h1, h2, h3, h4, h5, h6⟩ := h.all s hs
  exact ⟨h4.1, by omega⟩
def baseLt (x y : TSweep) : Bool := decide (x.1.1 < y.1.1)
theorem sput2_eq {x y : TSweep} (hx : in32 x.1.1) (hy : in32 y.1.1) : sweep_Put_2 x y = some (x.1.1 - y.1.1, ()) := by
  unfold sweep_Put_2
  obtain ⟨a1, a2⟩ := hx
  obtain ⟨b1, b2⟩ := hy
  simp only [ltO_def]
  rw [w64 (n := x.1.1) (by omega) (by omega), w64 (n := y.1.1) (by omega) (by omega), w64 (by omega) (by omega)]
theorem sortLt_eq {x y : TSweep} (hx : in32 x.1.1) (hy : in32 y.1.1) : sortLt sweep_Put_2 x y = baseLt x y := by
  unfold sortLt baseLt
  rw [sput2_eq hx hy]
  by_cases h : x.1.1 < y.1.1
  · rw [decide_eq_true h]; exact decide_eq_true (by omega)
  · rw [decide_eq_false h]; exact decide_eq_false (by omega)
theorem sort_R {ss : List TSweep} (h : RowR ss) (hl : ss.length < 16) {n : TSweep} (hn : swR n) (ho : ss.any (fun y => ovl y.1 n.1) = false) :
    ∃ l, slices_SortFunc_sweep_Put_2 (ss ++ [n]) = some (l, ()) ∧ l.Perm (ss ++ [n]) ∧ RowR l := by
  have hno : ∀ s ∈ ss, ovl s.1 n.1 = false := fun s hs => by
    have := List.any_eq_false.1 ho s hs
    simpa using this
  have hall : ∀ s ∈ ss ++ [n], swR s := fun s hs => by
    rcases List.mem_append.1 hs with h1 | h1
    · exact h.all s h1
    · have : s = n := by simpa using h1
      rw [this]; exact hn
  have h32 : ∀ s ∈ ss ++ [n], in32 s.1.1 := fun s hs => (hall s hs).1
  have hov : ∀ x ∈ ss ++ [n], ∀ y ∈ ss ++ [n], x.1.1 = y.1.1 → ovl x.1 y.1 = true := fun x hx y hy he => by
    have bx := blk_of (hall x hx).1 (hall x hx).2.1 (hall x hx).2.2.1
    have by' := blk_of (hall y hy).1 (hall y hy).2.1 (hall y hy).2.2.1
    rw [ovl_iff bx by']
    have := bx.w.1
    have := by'.w.1
    omega
  have hap : ∀ x ∈ ss ++ [n], ∀ y ∈ ss ++ [n], ovl x.1 y.1 = true → x = y := fun x hx y hy ho => by
    have key : ∀ x ∈ ss, ∀ y ∈ ss, ovl x.1 y.1 = true → x = y := by
      intro x hx y hy ho
      obtain ⟨i, hi, rfl⟩ := List.getElem_of_mem hx
      obtain ⟨j, hj, rfl⟩ := List.getElem_of_mem hy
      have hp := List.pairwise_iff_getElem.1 h.ap
      rcases Nat.lt_trichotomy i j with hlt | heq | hgt
      · have := (hp i j hi hj hlt).2
        rw [this] at ho; simp at ho
      · subst heq; rfl
      · have := (hp j i hj hi hgt).2
        rw [ovl_comm, this] at ho; simp at ho
    rcases List.mem_append.1 hx with h1 | h1 <;> rcases List.mem_append.1 hy with h2 | h2
    · exact key x h1 y h2 ho
    · have : y = n := by simpa using h2
      rw [this, hno x h1] at ho; simp at ho
    · have : x = n := by simpa using h1
      rw [this, ovl_comm, hno y h2] at ho; simp at ho
    · have e1 : x = n := by simpa using h1
      have e2 : y = n := by simpa using h2
      rw [e1, e2]
  unfold slices_SortFunc_sweep_Put_2 sortF
  rw [chk_pos]
  · refine ⟨_, rfl, List.mergeSort_perm _ _, ?_⟩
    have hperm := List.mergeSort_perm (ss ++ [n]) (fun x y => !sortLt sweep_Put_2 y x)
    refine ⟨by rw [List.length_mergeSort]; simp; omega, fun s hs => hall s (hperm.mem_iff.1 hs), ?_⟩
    have hs : ((ss ++ [n]).mergeSort (fun x y => !sortLt sweep_Put_2 y x)).Pairwise (fun x y => x.1.1 ≤ y.1.1) := by
      have e : (ss ++ [n]).mergeSort (fun x y => !sortLt sweep_Put_2 y x) = (ss ++ [n]).mergeSort (fun x y => decide (x.1.1 ≤ y.1.1)) := by
        have hm := List.map_mergeSort (r := fun x y => !sortLt sweep_Put_2 y x) (s := fun x y : TSweep => decide (x.1.1 ≤ y.1.1)) (f := id) (l := ss ++ [n]) (fun a ha b hb => by
          rw [sortLt_eq (h32 b hb) (h32 a ha)]
          unfold baseLt
          by_cases h : b.1.1 < a.1.1
          · rw [decide_eq_true h]; exact (decide_eq_false (by simp; omega)).symm
          · rw [decide_eq_false h]; exact (decide_eq_true (by simp; omega)).symm)
        simpa using hm
      rw [e]
      have := List.pairwise_mergeSort (le := fun x y : TSweep => decide (x.1.1 ≤ y.1.1)) (fun a b c h1 h2 => by
        have := of_decide_eq_true h1
        have := of_decide_eq_true h2
        exact decide_eq_true (by omega)) (fun a b => by
        by_cases h : a.1.1 ≤ b.1.1
        · simp [h]
        · simp [h]; omega) (ss ++ [n])
      exact this.imp fun h => of_decide_eq_true h
    have hnd : ((ss ++ [n]).mergeSort (fun x y => !sortLt sweep_Put_2 y x)).Nodup := by
      rw [hperm.nodup_iff]
      refine List.nodup_append.2 ⟨h.ap.imp fun hxy he => ?_, by simp, fun a ha b hb he => ?_⟩
      · rw [he] at hxy; exact Int.lt_irrefl _ hxy.1
      · have : b = n := by simpa using hb
        rw [he, this] at ha
        have := hno n ha
        rw [hov n (by simp) n (by simp) rfl] at this
        simp at this
    rw [List.pairwise_iff_getElem] at hs ⊢
    intro i j hi hj hij
    have hle := hs i j hi hj hij
    have hne : ((ss ++ [n]).mergeSort (fun x y => !sortLt sweep_Put_2 y x))[i] ≠ ((ss ++ [n]).mergeSort (fun x y => !sortLt sweep_Put_2 y x))[j] := by
      intro he
      have := (List.getElem_inj hnd).1 he
      omega
    have mi := hperm.mem_iff.1 (List.getElem_mem hi)
    have mj := hperm.mem_iff.1 (List.getElem_mem hj)
    have ho2 : ovl (((ss ++ [n]).mergeSort (fun x y => !sortLt sweep_Put_2 y x))[i]).1 (((ss ++ [n]).mergeSort (fun x y => !sortLt sweep_Put_2 y x))[j]).1 = false := by
      rw [← Bool.not_eq_true]
      exact fun h => hne (hap _ mi _ mj h)
    refine ⟨?_, ho2⟩
    rcases Int.lt_or_eq_of_le hle with h | h
    · exact h
    · rw [hov _ mi _ mj h] at ho2; simp at ho2
  · refine ⟨by simp, by simp; omega, fun x hx => ?_, fun x hx y hy z hz h1 h2 => ?_, fun x hx y hy z hz h1 h2 => ?_, fun x hx y hy h1 h2 => ?_⟩
    · rw [sortLt_eq (h32 x hx) (h32 x hx)]; exact decide_eq_false (by omega)
    · rw [sortLt_eq (h32 _ ‹_›) (h32 _ ‹_›)] at *
      exact decide_eq_true (by have := of_decide_eq_true h1; have := of_decide_eq_true h2; omega)
    · rw [sortLt_eq (h32 _ ‹_›) (h32 _ ‹_›)] at *
      exact decide_eq_false (by have := of_decide_eq_false h1; have := of_decide_eq_false h2; omega)
    · rw [sortLt_eq (h32 _ ‹_›) (h32 _ ‹_›)] at *
      refine hap x hx y hy (hov x hx y hy ?_)
      have := of_decide_eq_false h1
      have := of_decide_eq_false h2
      omega
end Go.Tr
namespace Go.Tr
open Go
set_option linter.unusedVariables false
set_option linter.unusedSimpArgs false
set_option maxRecDepth 100000
set_option maxHeartbeats 4000000
def putE (ss : List TSweep) (b : Int × Int) : Int := if rB b = false then 12 else if szB b > 256 then 3 else if ss.any (fun y => ovl y.1 b) = true then 5 else if ss.length ≥ 16 then 4 else 0
def newS (b : Int × Int) (now : Int) : TSweep := (b, clampS now, 0)
theorem newS_R {b : Int × Int} (h32 : in32 b.1) (hr : rB b = true) (hs : szB b ≤ 256) (now : Int) : swR (newS b now) := by
  refine ⟨h32, hr, hs, clampS_in now, Int.le_refl 0, ?_⟩
  show 0 < szB b
  have := (blk_of h32 hr hs).w.1
  unfold szB
  rw [if_pos hr]; omega
theorem Put_eq {ss : List TSweep} (h : RowR ss) {b : Int × Int} (h32 : in32 b.1) (now : Int) :
    (putE ss b ≠ 0 ∧ sweep_Put ss b now = some (putE ss b, [], ())) ∨
    (putE ss b = 0 ∧ ∃ l, sweep_Put ss b now = some (0, l, ()) ∧ l.Perm (ss ++ [newS b now]) ∧ RowR l ∧ swR (newS b now) ∧ ss.any (fun y => ovl y.1 b) = false ∧ ss.length < 16) := by
  have hl := h.len
  unfold sweep_Put putE
  rw [Right_eq h32, Size_eq h32, containsW_eq ss b (fun s hs => (h.all s hs).1) h32 (by omega)]
  simp only [bnd_val]
  cases hr : rB b with
  | false => left; simp
  | true =>
    simp only [Bool.not_true, cnd_false, Bool.true_eq_false, if_false]
    by_cases hs : szB b > 256
    · left; rw [decide_eq_true hs, cnd_true, if_pos hs]; simp
    · rw [decide_eq_false hs, cnd_false, if_neg hs]
      cases ho : ss.any (fun y => ovl y.1 b) with
      | true => left; simp
      | false =>
        simp only [cnd_false, Bool.false_eq_true, if_false]
        by_cases h16 : ss.length ≥ 16
        · left; rw [decide_eq_true (by omega), cnd_true, if_pos h16]; simp
        · right
          rw [decide_eq_false (by omega), cnd_false, if_neg h16]
          have hn := newS_R h32 hr (by omega) now
          obtain ⟨l, l1, l2, l3⟩ := sort_R h (by omega) hn ho
          refine ⟨by simp, l, ?_, l2, l3, hn, by simp, by omega⟩
          unfold slices_Clone_Sweep clone
          rw [chk_pos (by omega), clamp_eq']
          simp only [bnd_val]
          rw [chk_pos (by show _ * _ ≤ _; simp; omega)]
          have e : (b, clampS now, (0 : Int)) = newS b now := rfl
          rw [e, l1]
          simp
theorem nextS_R {every : Int} {s : TSweep} {room : Int} {asks : List Int} (h : swR s) : swR (nextS every s (askN room s asks)) ∧ (nextS every s (askN room s asks)).1 = s.1 := by
  have hn := askN_le (room := room) (asks := asks) (swR_I h)
  obtain ⟨h1, h2, h3, h4, h5, h6⟩ := h
  unfold nextS
  split
  · exact ⟨⟨h1, h2, h3, clampS_in _, Int.le_refl 0, by show 0 < szB s.1; omega⟩, rfl⟩
  · exact ⟨⟨h1, h2, h3, h4, by show 0 ≤ s.2.2 + (askN room s asks : Int); omega, by show s.2.2 + (askN room s asks : Int) < szB s.1; omega⟩, rfl⟩
theorem step_R {room every : Int} {p : List TSweep × List Int} {k : Int} (h : RowR p.1) (hk : inD p.1 k) : RowR (stepS room every p k).1 ∧ (stepS room every p k).1.map (·.1) = p.1.map (·.1) := by
  have hkl : k.toNat < p.1.length := by have := hk.1; have := hk.2; omega
  have hg : p.1.getD k.toNat zSweep = p.1[k.toNat] := by rw [List.getD_eq_getElem?_getD, List.getElem?_eq_getElem hkl]; rfl
  have hsm : p.1.getD k.toNat zSweep ∈ p.1 := by rw [hg]; exact List.getElem_mem hkl
  have hn := nextS_R (every := every) (room := room) (asks := p.2) (h.all _ hsm)
  have hm : (stepS room every p k).1.map (·.1) = p.1.map (·.1) := by
    unfold stepS
    simp only [List.map_set]
    rw [hn.2, hg]
    have : (p.1.map (·.1))[k.toNat]'(by simpa using hkl) = p.1[k.toNat].1 := by simp
    rw [← this, List.set_getElem_self]
  refine ⟨⟨by rw [step_len]; exact h.len, set_all h.all hn.1, ?_⟩, hm⟩
  have hp : (p.1.map (·.1)).Pairwise (fun x y : Int × Int => x.1 < y.1 ∧ ovl x y = false) := List.pairwise_map.2 h.ap
  rw [← hm] at hp
  exact (List.pairwise_map (f := fun s : TSweep => s.1) (R := fun x y : Int × Int => x.1 < y.1 ∧ ovl x y = false)).1 hp
theorem fold_R {room every : Int} : ∀ (D : List Int) (p : List TSweep × List Int), RowR p.1 → (∀ k ∈ D, inD p.1 k) →
    RowR (D.foldl (stepS room every) p).1 ∧ (D.foldl (stepS room every) p).1.map (·.1) = p.1.map (·.1)
  | [], p, h, _ => ⟨h, rfl⟩
  | k :: D, p, h, hk => by
    have h1 := step_R (room := room) (every := every) h (hk k (by simp))
    have h2 := fold_R (room := room) (every := every) D (stepS room every p k) h1.1 (fun j hj => by
      have := hk j (by simp [hj])
      unfold inD at this ⊢
      rw [step_len]; exact this)
    exact ⟨h2.1, h2.2.trans h1.2⟩
end Go.Tr
namespace Go.Tr
open Go
set_option linter.unusedVariables false
set_option linter.unusedSimpArgs false
set_option maxRecDepth 100000
set_option maxHeartbeats 4000000
theorem RowR_nil : RowR [] := ⟨by simp, by simp, by simp⟩
end Go.Tr
namespace Go.Tr
open Go
set_option linter.unusedVariables false
set_option linter.unusedSimpArgs false
set_option maxRecDepth 100000
set_option maxHeartbeats 4000000
theorem RowR_right {l : List TSweep} (h : RowR l) : sweepsS l = true := by
  unfold sweepsS
  have hlen := h.len
  rw [decide_eq_true h.len, Bool.and_true, List.all_eq_true]
  intro i hi
  have hi' : i < l.length := by
    have := List.mem_range'_1.1 hi
    omega
  have h1 : ∀ s ∈ l, sweep1 s = true := fun s hs => by
    obtain ⟨a1, a2, a3, a4, a5, a6⟩ := h.all s hs
    unfold sweep1
    have hc : s.2.1 = clampS s.2.1 := by unfold clampS; split <;> (try split) <;> omega
    simp only [Bool.and_eq_true, decide_eq_true_eq]
    exact ⟨a2, a3, hc, a5, a6⟩
  unfold sweepP
  have hg : l.getD i zSweep = l[i] := by rw [List.getD_eq_getElem?_getD, List.getElem?_eq_getElem hi']; rfl
  rw [hg, h1 _ (List.getElem_mem hi'), Bool.true_and]
  by_cases h0 : i = 0
  · simp [h0]
  · have hg2 : l.getD (i - 1) zSweep = l[i - 1] := by rw [List.getD_eq_getElem?_getD, List.getElem?_eq_getElem (by omega)]; rfl
    have := List.pairwise_iff_getElem.1 h.ap (i - 1) i (by omega) hi' (by omega)
    rw [hg2, decide_eq_false h0, Bool.false_or]
    unfold sweep2
    have e : (wiB l[i - 1].1 l[i].1 || wiB l[i].1 l[i - 1].1) = false := this.2
    rw [e, decide_eq_true this.1]; rfl
end Go.Tr
namespace Go.Tr
open Go
set_option linter.unusedVariables false
set_option linter.unusedSimpArgs false
set_option maxRecDepth 100000
set_option maxHeartbeats 4000000
theorem RowR.in32 {l : List TSweep} (h : RowR l) : ∀ s ∈ l, Go.Tr.in32 s.1.1 := fun s hs => (h.all s hs).1
end Go.Tr
