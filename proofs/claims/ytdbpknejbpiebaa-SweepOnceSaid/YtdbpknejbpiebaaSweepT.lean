/- A block that is put to those that are swept. What is put, and what a tick does: rows stay right. Rows behind some acts. Rows are right as the document says. The document's examples; rows that are turned. Conditions: none but those that each theorem states. -/
import Derived.Test.YtdbpknejbpiebaaSweepS
import Derived.Test.YtdbpknejbpiebaaAddrT
namespace Go.Tr
open Go
set_option linter.unusedVariables false
set_option linter.unusedSimpArgs false
set_option maxRecDepth 100000
set_option maxHeartbeats 4000000
theorem Wd_256 {n : Int} (h : bo n) (hw : Wd n ≤ 256) : 24 ≤ n := by
  obtain ⟨j, hj, rfl, e⟩ := Wd_nat h
  rw [e] at hw
  have hp : (2 : Int) ^ j ≤ 2 ^ 8 := hw
  have hj8 : j ≤ 8 := by
    have : (2 : Nat) ^ j ≤ 2 ^ 8 := by exact_mod_cast hp
    exact (Nat.pow_le_pow_iff_right (by omega)).1 this
  omega
theorem blk_of {b : Int × Int} (h : in32 b.1) (hr : rB b = true) (hs : szB b ≤ 256) : BlkOK b := by
  have h1 := rB_bo hr
  have h2 := szB_le h
  unfold szB at h2 hs
  rw [if_pos hr] at h2 hs
  have h3 := Wd_256 h1.1 hs
  have h4 := Wd_bd h1.1
  have h5 := h1.1
  unfold bo at h5
  exact ⟨hr, h, ⟨by omega, by omega⟩, ⟨by omega, by omega⟩, h1.2, by omega⟩
def ovl (x y : Int × Int) : Bool := wiB x y || wiB y x
theorem ovl_comm (x y : Int × Int) : ovl x y = ovl y x := by unfold ovl; rw [Bool.or_comm]
theorem ovl_iff {x y : Int × Int} (hx : BlkOK x) (hy : BlkOK y) : ovl x y = true ↔ x.1 < y.1 + Wd y.2 ∧ y.1 < x.1 + Wd x.2 := by
  unfold ovl
  by_cases h : y.2 ≤ x.2
  · have n1 := (nest_ge hx hy h).2
    rw [wi_ge hx hy h]
    by_cases h2 : x.2 ≤ y.2
    · have n2 := (nest_ge hy hx h2).2
      rw [wi_ge hy hx h2]
      simp only [Bool.or_eq_true, Bool.and_eq_true, decide_eq_true_eq]
      rw [n1, n2]
      constructor
      · rintro (h | h)
        · exact h
        · exact ⟨h.2, h.1⟩
      · exact Or.inl
    · rw [wi_lt (by omega), Bool.or_false]
      simp only [Bool.and_eq_true, decide_eq_true_eq]
      exact n1
  · have h2 : x.2 ≤ y.2 := by omega
    have n2 := (nest_ge hy hx h2).2
    rw [wi_lt (by omega), Bool.false_or, wi_ge hy hx h2]
    simp only [Bool.and_eq_true, decide_eq_true_eq]
    rw [n2]
    exact And.comm
theorem indexW_loop (l : List TSweep) (b : Int × Int) (hl : ∀ s ∈ l, in32 s.1.1) (hb32 : in32 b.1) (hn : l.length ≤ 140737488355328) : ∀ (m k : Nat), k + m = l.length →
    slices_IndexFunc_w1_l0 (l, b, (l.length : Int), (k : Int), ()) = some (idxR (idxS (fun y : TSweep => ovl y.1 b) (l.drop k) k))
  | 0, k, hk => by
    unfold slices_IndexFunc_w1_l0
    rw [List.drop_of_length_le (by omega)]
    rw [loopM_last (y := .inl ())]
    · rfl
    · show slices_IndexFunc_w1_b0 l b (l.length : Int) (k : Int) = _
      unfold slices_IndexFunc_w1_b0
      rw [decide_eq_false (by omega)]; rfl
  | m + 1, k, hk => by
    have hkl : k < l.length := by omega
    have ih := indexW_loop l b hl hb32 hn m (k + 1) (by omega)
    rw [List.drop_eq_getElem_cons hkl]
    unfold slices_IndexFunc_w1_l0 at ih ⊢
    have hb : slices_IndexFunc_w1_b0 l b (l.length : Int) (k : Int) = if (ovl l[k].1 b) = true then some (.inr (.inr ((k : Int), ()))) else some (.inl (l, b, (l.length : Int), ((k + 1 : Nat) : Int), ())) := by
      unfold slices_IndexFunc_w1_b0
      rw [decide_eq_true (by omega), cnd_true, chk_pos (by omega)]
      simp only [ltO_def, recD, getD_toNat]
      have : l.getD k zSweep = l[k] := by rw [List.getD_eq_getElem?_getD, List.getElem?_eq_getElem hkl]; rfl
      rw [this]
      unfold sweep_Put_1
      rw [Overlap_eq (hl _ (List.getElem_mem hkl)) hb32]
      simp only [ltO_def, bnd_val, cnd_ite]
      rw [w64 (by omega) (by omega)]; rfl
    by_cases h : (ovl l[k].1 b) = true
    · rw [if_pos h] at hb
      rw [loopM_last (y := .inr ((k : Int), ())) hb, idxS_pos (p := fun y : TSweep => ovl y.1 b) h]
      unfold idxR; rw [if_neg (by omega)]
    · rw [if_neg h] at hb
      rw [loopM_next (s' := (l, b, (l.length : Int), ((k + 1 : Nat) : Int), ())) hb, ih, idxS_next (p := fun y : TSweep => ovl y.1 b) h]
theorem containsW_eq (l : List TSweep) (b : Int × Int) (hl : ∀ s ∈ l, in32 s.1.1) (hb32 : in32 b.1) (hn : l.length ≤ 140737488355328) : slices_ContainsFunc_w1 l b = some (l.any fun y => ovl y.1 b, ()) := by
  unfold slices_ContainsFunc_w1 slices_IndexFunc_w1
  have L := indexW_loop l b hl hb32 hn l.length 0 (by omega)
  have L' : slices_IndexFunc_w1_l0 (l, b, (l.length : Int), 0, ()) = _ := L
  rw [L', List.drop_zero]
  have hi := idxS_neg (p := fun y : TSweep => ovl y.1 b) (l := l) (k := 0)
  rw [← hi]
  generalize idxS (fun y : TSweep => ovl y.1 b) l 0 = v
  unfold idxR
  by_cases h : v = -1
  · subst h; rfl
  · rw [if_neg h]; rfl
def swR (s : TSweep) : Prop := in32 s.1.1 ∧ rB s.1 = true ∧ szB s.1 ≤ 256 ∧ (0 ≤ s.2.1 ∧ s.2.1 ≤ 1099511627776) ∧ (0 ≤ s.2.2 ∧ s.2.2 < szB s.1)
def apart (x y : TSweep) : Prop := x.1.1 < y.1.1 ∧ ovl x.1 y.1 = false
structure RowR (ss : List TSweep) : Prop where
  len : ss.length ≤ 16
  all : ∀ s ∈ ss, swR s
  ap : ss.Pairwise apart
theorem swR_I {s : TSweep} (h : swR s) : swI s := by
  obtain ⟨h1, h2, h3, h4, h5, h6⟩ := h
  exact ⟨h1, h5, by omega, h3⟩
theorem RowR.due {ss : List TSweep} (h : RowR ss) : DueOk ss := fun s hs => by
  obtain ⟨h1, h2, h3, h4, h5, h6⟩ := h.all s hs
  exact ⟨h4.1, by omega⟩
def baseLt (x y : TSweep) : Bool := decide (x.1.1 < y.1.1)
theorem sput2_eq {x y : TSweep} (hx : in32 x.1.1) (hy : in32 y.1.1) : sweep_Put_2 x y = some (x.1.1 - y.1.1, ()) := by
  unfold sweep_Put_2
  obtain ⟨a1, a2⟩ := hx
  obtain ⟨b1, b2⟩ := hy
  simp only [ltO_def]
  rw [w64 (n := x.1.1) (by omega) (by omega), w64 (n := y.1.1) (by omega) (by omega), w64 (by omega) (by omega)]
theorem sortLt_eq {x y : TSweep} (hx : in32 x.1.1) (hy : in32 y.1.1) : sortLt sweep_Put_2 x y = baseLt x y := by
  unfold sortLt baseLt
  rw [sput2_eq hx hy]
  by_cases h : x.1.1 < y.1.1
  · rw [decide_eq_true h]; exact decide_eq_true (by omega)
  · rw [decide_eq_false h]; exact decide_eq_false (by omega)
theorem sort_R {ss : List TSweep} (h : RowR ss) (hl : ss.length < 16) {n : TSweep} (hn : swR n) (ho : ss.any (fun y => ovl y.1 n.1) = false) :
    ∃ l, slices_SortFunc_sweep_Put_2 (ss ++ [n]) = some (l, ()) ∧ l.Perm (ss ++ [n]) ∧ RowR l := by
  have hno : ∀ s ∈ ss, ovl s.1 n.1 = false := fun s hs => by
    have := List.any_eq_false.1 ho s hs
    simpa using this
  have hall : ∀ s ∈ ss ++ [n], swR s := fun s hs => by
    rcases List.mem_append.1 hs with h1 | h1
    · exact h.all s h1
    · have : s = n := by simpa using h1
      rw [this]; exact hn
  have h32 : ∀ s ∈ ss ++ [n], in32 s.1.1 := fun s hs => (hall s hs).1
  have hov : ∀ x ∈ ss ++ [n], ∀ y ∈ ss ++ [n], x.1.1 = y.1.1 → ovl x.1 y.1 = true := fun x hx y hy he => by
    have bx := blk_of (hall x hx).1 (hall x hx).2.1 (hall x hx).2.2.1
    have by' := blk_of (hall y hy).1 (hall y hy).2.1 (hall y hy).2.2.1
    rw [ovl_iff bx by']
    have := bx.w.1
    have := by'.w.1
    omega
  have hap : ∀ x ∈ ss ++ [n], ∀ y ∈ ss ++ [n], ovl x.1 y.1 = true → x = y := fun x hx y hy ho => by
    have key : ∀ x ∈ ss, ∀ y ∈ ss, ovl x.1 y.1 = true → x = y := by
      intro x hx y hy ho
      obtain ⟨i, hi, rfl⟩ := List.getElem_of_mem hx
      obtain ⟨j, hj, rfl⟩ := List.getElem_of_mem hy
      have hp := List.pairwise_iff_getElem.1 h.ap
      rcases Nat.lt_trichotomy i j with hlt | heq | hgt
      · have := (hp i j hi hj hlt).2
        rw [this] at ho; simp at ho
      · subst heq; rfl
      · have := (hp j i hj hi hgt).2
        rw [ovl_comm, this] at ho; simp at ho
    rcases List.mem_append.1 hx with h1 | h1 <;> rcases List.mem_append.1 hy with h2 | h2
    · exact key x h1 y h2 ho
    · have : y = n := by simpa using h2
      rw [this, hno x h1] at ho; simp at ho
    · have : x = n := by simpa using h1
      rw [this, ovl_comm, hno y h2] at ho; simp at ho
    · have e1 : x = n := by simpa using h1
      have e2 : y = n := by simpa using h2
      rw [e1, e2]
  unfold slices_SortFunc_sweep_Put_2 sortF
  rw [chk_pos]
  · refine ⟨_, rfl, List.mergeSort_perm _ _, ?_⟩
    have hperm := List.mergeSort_perm (ss ++ [n]) (fun x y => !sortLt sweep_Put_2 y x)
    refine ⟨by rw [List.length_mergeSort]; simp; omega, fun s hs => hall s (hperm.mem_iff.1 hs), ?_⟩
    have hs : ((ss ++ [n]).mergeSort (fun x y => !sortLt sweep_Put_2 y x)).Pairwise (fun x y => x.1.1 ≤ y.1.1) := by
      have e : (ss ++ [n]).mergeSort (fun x y => !sortLt sweep_Put_2 y x) = (ss ++ [n]).mergeSort (fun x y => decide (x.1.1 ≤ y.1.1)) := by
        have hm := List.map_mergeSort (r := fun x y => !sortLt sweep_Put_2 y x) (s := fun x y : TSweep => decide (x.1.1 ≤ y.1.1)) (f := id) (l := ss ++ [n]) (fun a ha b hb => by
          rw [sortLt_eq (h32 b hb) (h32 a ha)]
          unfold baseLt
          by_cases h : b.1.1 < a.1.1
          · rw [decide_eq_true h]; exact (decide_eq_false (by simp; omega)).symm
          · rw [decide_eq_false h]; exact (decide_eq_true (by simp; omega)).symm)
        simpa using hm
      rw [e]
      have := List.pairwise_mergeSort (le := fun x y : TSweep => decide (x.1.1 ≤ y.1.1)) (fun a b c h1 h2 => by
        have := of_decide_eq_true h1
        have := of_decide_eq_true h2
        exact decide_eq_true (by omega)) (fun a b => by
        by_cases h : a.1.1 ≤ b.1.1
        · simp [h]
        · simp [h]; omega) (ss ++ [n])
      exact this.imp fun h => of_decide_eq_true h
    have hnd : ((ss ++ [n]).mergeSort (fun x y => !sortLt sweep_Put_2 y x)).Nodup := by
      rw [hperm.nodup_iff]
      refine List.nodup_append.2 ⟨h.ap.imp fun hxy he => ?_, by simp, fun a ha b hb he => ?_⟩
      · rw [he] at hxy; exact Int.lt_irrefl _ hxy.1
      · have : b = n := by simpa using hb
        rw [he, this] at ha
        have := hno n ha
        rw [hov n (by simp) n (by simp) rfl] at this
        simp at this
    rw [List.pairwise_iff_getElem] at hs ⊢
    intro i j hi hj hij
    have hle := hs i j hi hj hij
    have hne : ((ss ++ [n]).mergeSort (fun x y => !sortLt sweep_Put_2 y x))[i] ≠ ((ss ++ [n]).mergeSort (fun x y => !sortLt sweep_Put_2 y x))[j] := by
      intro he
      have := (List.getElem_inj hnd).1 he
      omega
    have mi := hperm.mem_iff.1 (List.getElem_mem hi)
    have mj := hperm.mem_iff.1 (List.getElem_mem hj)
    have ho2 : ovl (((ss ++ [n]).mergeSort (fun x y => !sortLt sweep_Put_2 y x))[i]).1 (((ss ++ [n]).mergeSort (fun x y => !sortLt sweep_Put_2 y x))[j]).1 = false := by
      rw [← Bool.not_eq_true]
      exact fun h => hne (hap _ mi _ mj h)
    refine ⟨?_, ho2⟩
    rcases Int.lt_or_eq_of_le hle with h | h
    · exact h
    · rw [hov _ mi _ mj h] at ho2; simp at ho2
  · refine ⟨by simp, by simp; omega, fun x hx => ?_, fun x hx y hy z hz h1 h2 => ?_, fun x hx y hy z hz h1 h2 => ?_, fun x hx y hy h1 h2 => ?_⟩
    · rw [sortLt_eq (h32 x hx) (h32 x hx)]; exact decide_eq_false (by omega)
    · rw [sortLt_eq (h32 _ ‹_›) (h32 _ ‹_›)] at *
      exact decide_eq_true (by have := of_decide_eq_true h1; have := of_decide_eq_true h2; omega)
    · rw [sortLt_eq (h32 _ ‹_›) (h32 _ ‹_›)] at *
      exact decide_eq_false (by have := of_decide_eq_false h1; have := of_decide_eq_false h2; omega)
    · rw [sortLt_eq (h32 _ ‹_›) (h32 _ ‹_›)] at *
      refine hap x hx y hy (hov x hx y hy ?_)
      have := of_decide_eq_false h1
      have := of_decide_eq_false h2
      omega
end Go.Tr
namespace Go.Tr
open Go
set_option linter.unusedVariables false
set_option linter.unusedSimpArgs false
set_option maxRecDepth 100000
set_option maxHeartbeats 4000000
def putE (ss : List TSweep) (b : Int × Int) : Int := if rB b = false then 12 else if szB b > 256 then 3 else if ss.any (fun y => ovl y.1 b) = true then 5 else if ss.length ≥ 16 then 4 else 0
def newS (b : Int × Int) (now : Int) : TSweep := (b, clampS now, 0)
theorem newS_R {b : Int × Int} (h32 : in32 b.1) (hr : rB b = true) (hs : szB b ≤ 256) (now : Int) : swR (newS b now) := by
  refine ⟨h32, hr, hs, clampS_in now, Int.le_refl 0, ?_⟩
  show 0 < szB b
  have := (blk_of h32 hr hs).w.1
  unfold szB
  rw [if_pos hr]; omega
theorem Put_eq {ss : List TSweep} (h : RowR ss) {b : Int × Int} (h32 : in32 b.1) (now : Int) :
    (putE ss b ≠ 0 ∧ sweep_Put ss b now = some (putE ss b, [], ())) ∨
    (putE ss b = 0 ∧ ∃ l, sweep_Put ss b now = some (0, l, ()) ∧ l.Perm (ss ++ [newS b now]) ∧ RowR l ∧ swR (newS b now) ∧ ss.any (fun y => ovl y.1 b) = false ∧ ss.length < 16) := by
  have hl := h.len
  unfold sweep_Put putE
  rw [Right_eq h32, Size_eq h32, containsW_eq ss b (fun s hs => (h.all s hs).1) h32 (by omega)]
  simp only [bnd_val]
  cases hr : rB b with
  | false => left; simp
  | true =>
    simp only [Bool.not_true, cnd_false, Bool.true_eq_false, if_false]
    by_cases hs : szB b > 256
    · left; rw [decide_eq_true hs, cnd_true, if_pos hs]; simp
    · rw [decide_eq_false hs, cnd_false, if_neg hs]
      cases ho : ss.any (fun y => ovl y.1 b) with
      | true => left; simp
      | false =>
        simp only [cnd_false, Bool.false_eq_true, if_false]
        by_cases h16 : ss.length ≥ 16
        · left; rw [decide_eq_true (by omega), cnd_true, if_pos h16]; simp
        · right
          rw [decide_eq_false (by omega), cnd_false, if_neg h16]
          have hn := newS_R h32 hr (by omega) now
          obtain ⟨l, l1, l2, l3⟩ := sort_R h (by omega) hn ho
          refine ⟨by simp, l, ?_, l2, l3, hn, by simp, by omega⟩
          unfold slices_Clone_Sweep clone
          rw [chk_pos (by omega), clamp_eq']
          simp only [bnd_val]
          rw [chk_pos (by show _ * _ ≤ _; simp; omega)]
          have e : (b, clampS now, (0 : Int)) = newS b now := rfl
          rw [e, l1]
          simp
theorem nextS_R {every : Int} {s : TSweep} {room : Int} {asks : List Int} (h : swR s) : swR (nextS every s (askN room s asks)) ∧ (nextS every s (askN room s asks)).1 = s.1 := by
  have hn := askN_le (room := room) (asks := asks) (swR_I h)
  obtain ⟨h1, h2, h3, h4, h5, h6⟩ := h
  unfold nextS
  split
  · exact ⟨⟨h1, h2, h3, clampS_in _, Int.le_refl 0, by show 0 < szB s.1; omega⟩, rfl⟩
  · exact ⟨⟨h1, h2, h3, h4, by show 0 ≤ s.2.2 + (askN room s asks : Int); omega, by show s.2.2 + (askN room s asks : Int) < szB s.1; omega⟩, rfl⟩
theorem step_R {room every : Int} {p : List TSweep × List Int} {k : Int} (h : RowR p.1) (hk : inD p.1 k) : RowR (stepS room every p k).1 ∧ (stepS room every p k).1.map (·.1) = p.1.map (·.1) := by
  have hkl : k.toNat < p.1.length := by have := hk.1; have := hk.2; omega
  have hg : p.1.getD k.toNat zSweep = p.1[k.toNat] := by rw [List.getD_eq_getElem?_getD, List.getElem?_eq_getElem hkl]; rfl
  have hsm : p.1.getD k.toNat zSweep ∈ p.1 := by rw [hg]; exact List.getElem_mem hkl
  have hn := nextS_R (every := every) (room := room) (asks := p.2) (h.all _ hsm)
  have hm : (stepS room every p k).1.map (·.1) = p.1.map (·.1) := by
    unfold stepS
    simp only [List.map_set]
    rw [hn.2, hg]
    have : (p.1.map (·.1))[k.toNat]'(by simpa using hkl) = p.1[k.toNat].1 := by simp
    rw [← this, List.set_getElem_self]
  refine ⟨⟨by rw [step_len]; exact h.len, set_all h.all hn.1, ?_⟩, hm⟩
  have hp : (p.1.map (·.1)).Pairwise (fun x y : Int × Int => x.1 < y.1 ∧ ovl x y = false) := List.pairwise_map.2 h.ap
  rw [← hm] at hp
  exact (List.pairwise_map (f := fun s : TSweep => s.1) (R := fun x y : Int × Int => x.1 < y.1 ∧ ovl x y = false)).1 hp
theorem fold_R {room every : Int} : ∀ (D : List Int) (p : List TSweep × List Int), RowR p.1 → (∀ k ∈ D, inD p.1 k) →
    RowR (D.foldl (stepS room every) p).1 ∧ (D.foldl (stepS room every) p).1.map (·.1) = p.1.map (·.1)
  | [], p, h, _ => ⟨h, rfl⟩
  | k :: D, p, h, hk => by
    have h1 := step_R (room := room) (every := every) h (hk k (by simp))
    have h2 := fold_R (room := room) (every := every) D (stepS room every p k) h1.1 (fun j hj => by
      have := hk j (by simp [hj])
      unfold inD at this ⊢
      rw [step_len]; exact this)
    exact ⟨h2.1, h2.2.trans h1.2⟩
theorem Plan_R {o : List TSweep} (h : RowR o) (c : TCfg) (now room : Int) :
    ∃ D : List Int, D.Perm (dueL o now o.length) ∧ D.Pairwise (lexD o) ∧ sweep_Plan c o now room = some ((D.foldl (stepS room c.2.2.2.1) (o, [])).2, (D.foldl (stepS room c.2.2.2.1) (o, [])).1, ()) ∧
      RowR (D.foldl (stepS room c.2.2.2.1) (o, [])).1 ∧ (D.foldl (stepS room c.2.2.2.1) (o, [])).1.map (·.1) = o.map (·.1) := by
  obtain ⟨D, d1, d2, d3⟩ := Plan_eq h.due (fun s hs => swR_I (h.all s hs)) (by have := h.len; omega) c now room
  have := fold_R (room := room) (every := c.2.2.2.1) D (o, []) h (fun k hk => by
    have := dueL_mem (d1.mem_iff.1 hk)
    exact ⟨this.1, this.2.1⟩)
  exact ⟨D, d1, d2, d3, this.1, this.2⟩
end Go.Tr
namespace Go.Tr
open Go
set_option linter.unusedVariables false
set_option linter.unusedSimpArgs false
set_option maxRecDepth 100000
set_option maxHeartbeats 4000000
def actB (a : Int × Int × Int) : Int × Int := bB (IntKind.u32.wrap (167772160 + IntKind.u32.wrap (IntKind.u32.wrap a.2.1 * 4))) (IntKind.u8.wrap (a.2.2 + 4))
theorem u32_in (n : Int) : in32 (IntKind.u32.wrap n) := by
  unfold in32
  rw [IntKind.wrap_u32]; omega
theorem actB_in (a : Int × Int × Int) : in32 (actB a).1 := (bB_ok (u32_in _) (by rw [IntKind.wrap_u8]; omega)).i
theorem sact_eq (a : Int × Int × Int) : terrierlaw14_Act_block a = some (actB a, ()) := by
  unfold terrierlaw14_Act_block
  simp only [ltO_def]
  rw [Block_eq (u32_in _) (by rw [IntKind.wrap_u8]; omega) ]
  rfl
theorem some_loop (c0 c1 c2 c3 c4 c5 c6 c7 c8 : Int) (l : List (Int × Int × Int)) (hl : l.length ≤ 1000) : ∀ (m k : Nat) (now : Int) (ss : List TSweep), k + m = l.length → RowR ss → 0 ≤ now → now ≤ (k : Int) →
    ∃ now' ss', terrierlaw14_Some_l0 (now, l, (l.length : Int), (k : Int), ss, c0, c1, c2, c3, c4, c5, c6, c7, c8, ()) = some (.inl (now', ss', ())) ∧ RowR ss' ∧ 0 ≤ now' ∧ now' ≤ (l.length : Int) := by
  intro m
  induction m with
  | zero =>
    intro k now ss hk h h0 h1
    refine ⟨now, ss, ?_, h, h0, by omega⟩
    unfold terrierlaw14_Some_l0
    refine loopM_last ?_
    show terrierlaw14_Some_b0 now l (l.length : Int) (k : Int) ss c0 c1 c2 c3 c4 c5 c6 c7 c8 = _
    unfold terrierlaw14_Some_b0
    rw [decide_eq_false (by omega)]; rfl
  | succ m ih =>
    intro k now ss hk h h0 h1
    have hb : ∃ now' ss', terrierlaw14_Some_b0 now l (l.length : Int) (k : Int) ss c0 c1 c2 c3 c4 c5 c6 c7 c8 = some (.inl (now', l, (l.length : Int), ((k + 1 : Nat) : Int), ss', c0, c1, c2, c3, c4, c5, c6, c7, c8, ())) ∧ RowR ss' ∧ 0 ≤ now' ∧ now' ≤ ((k + 1 : Nat) : Int) := by
      unfold terrierlaw14_Some_b0
      rw [decide_eq_true (by omega), cnd_true, chk_pos (by omega)]
      simp only [ltO_def, recD, getD_toNat]
      generalize l.getD k (0, 0, 0) = a
      rw [chk_pos (by decide), w64 (n := (k : Int) + 1) (by omega) (by omega)]
      cases a.1.tmod 3 == 0 with
      | true =>
        rw [cnd_true, chk_pos (by decide), w64 (n := now + 1) (by omega) (by omega)]
        obtain ⟨D, _, _, d3, d4, _⟩ := Plan_R h (c0, c1, c2, c3, c4, c5, c6, c7, c8) (now + 1) (IntKind.i64.wrap (1 + IntKind.i64.wrap (a.2.2.tmod 9)))
        rw [d3]
        exact ⟨_, _, rfl, d4, by omega, by omega⟩
      | false =>
        rw [cnd_false, sact_eq]
        simp only [bnd_val]
        rcases Put_eq h (actB_in a) now with ⟨p1, p2⟩ | ⟨p1, l2, p2, _, p3, _⟩
        · rw [p2]
          have e : (putE ss (actB a) == 0) = false := by simpa using p1
          simp only [bnd_val, e, cnd_false]
          exact ⟨_, _, rfl, h, by omega, by omega⟩
        · rw [p2]
          simp only [bnd_val, beq_self_eq_true, cnd_true]
          exact ⟨_, _, rfl, p3, by omega, by omega⟩
    obtain ⟨now1, ss1, b1, b2, b3, b4⟩ := hb
    obtain ⟨now2, ss2, i1, i2⟩ := ih (k + 1) now1 ss1 (by omega) b2 b3 b4
    refine ⟨now2, ss2, ?_, i2⟩
    unfold terrierlaw14_Some_l0 at i1 ⊢
    rw [loopM_next b1]
    exact i1
theorem RowR_nil : RowR [] := ⟨by simp, by simp, by simp⟩
theorem Some_R (c : TCfg) (acts : List (Int × Int × Int)) : ∃ now ss, terrierlaw14_Some c acts = some (now, ss, ()) ∧ RowR ss ∧ 0 ≤ now ∧ now ≤ 60 := by
  unfold terrierlaw14_Some
  generalize he : (if (60 : Int) < (acts.length : Int) then (60 : Int) else (acts.length : Int)) = e
  have h1 : 0 ≤ e ∧ e ≤ 60 ∧ e ≤ (acts.length : Int) := by rw [← he]; split <;> omega
  rw [chk_pos ⟨by omega, by omega, by omega⟩]
  have hsl : sliceA 0 e.toNat acts = acts.take e.toNat := by simp [sliceA]
  rw [hsl]
  have hlen : (acts.take e.toNat).length ≤ 60 := by rw [List.length_take]; omega
  obtain ⟨now, ss, s1, s2, s3, s4⟩ := some_loop c.1 c.2.1 c.2.2.1 c.2.2.2.1 c.2.2.2.2.1 c.2.2.2.2.2.1 c.2.2.2.2.2.2.1 c.2.2.2.2.2.2.2.1 c.2.2.2.2.2.2.2.2 (acts.take e.toNat) (by omega) (acts.take e.toNat).length 0 0 [] (by omega) RowR_nil (by omega) (by omega)
  refine ⟨now, ss, ?_, s2, s3, by omega⟩
  have e0 : ((0 : Nat) : Int) = 0 := rfl
  rw [e0] at s1
  rw [s1]
  simp
end Go.Tr
namespace Go.Tr
open Go
set_option linter.unusedVariables false
set_option linter.unusedSimpArgs false
set_option maxRecDepth 100000
set_option maxHeartbeats 4000000
end Go.Tr
namespace Go.Tr
open Go
set_option linter.unusedVariables false
set_option linter.unusedSimpArgs false
set_option maxRecDepth 100000
set_option maxHeartbeats 4000000
theorem sconfig_eq (x : Int × Int × Int × Int × Int × Int × Int × Int × Int) : ∃ c : TCfg, terrierlaw10_Choice_Config x = some (c, ()) := by
  unfold terrierlaw10_Choice_Config
  simp only [ltO_def]
  repeat rw [chk_pos (by decide)]
  exact ⟨_, rfl⟩
def awB : Int × Int := (167772160, 30)
theorem perm_one {l : List Int} {a : Int} (h : l.Perm [a]) : l = [a] := List.perm_singleton.1 h
theorem aw_due1 : dueL [(awB, 2, 0)] 2 1 = [0] := by decide +kernel
theorem aw_due2 : dueL [(awB, 2, 3)] 3 1 = [0] := by decide +kernel
theorem aw_f1 : ([0] : List Int).foldl (stepS 3 5) ([(awB, 2, 0)], []) = ([(awB, 2, 3)], [167772160, 167772161, 167772162]) := by decide +kernel
theorem aw_f2 : ([0] : List Int).foldl (stepS 3 5) ([(awB, 2, 3)], []) = ([(awB, 7, 0)], [167772163]) := by decide +kernel
theorem sawake_eq : terrierlaw14_awake = some (true, ()) := by
  have hp0 : putE [] awB = 0 := by decide +kernel
  rcases Put_eq RowR_nil (b := awB) (by unfold in32 awB; omega) 2 with ⟨h, _⟩ | ⟨_, l, p1, p2, p3, _⟩
  · exact absurd hp0 h
  have hl : l = [(awB, 2, 0)] := by
    have : newS awB 2 = (awB, 2, 0) := by decide +kernel
    rw [this] at p2
    exact List.perm_singleton.1 p2
  subst hl
  obtain ⟨D1, d1, _, d2, d3, _⟩ := Plan_R p3 (0, 0, 0, 5, 0, 0, 0, 0, 0) 2 3
  have e1 : D1 = [0] := perm_one (by have := d1; rw [show ([(awB, (2 : Int), (0 : Int))] : List TSweep).length = 1 from rfl, aw_due1] at this; exact this)
  subst e1
  rw [show ((0, 0, 0, 5, 0, 0, 0, 0, 0) : TCfg).2.2.2.1 = 5 from rfl, aw_f1] at d2 d3
  obtain ⟨D2, g1, _, g2, _⟩ := Plan_R d3 (0, 0, 0, 5, 0, 0, 0, 0, 0) 3 3
  have e2 : D2 = [0] := perm_one (by have := g1; rw [show ([(awB, (2 : Int), (3 : Int))] : List TSweep).length = 1 from rfl, aw_due2] at this; exact this)
  subst e2
  rw [show ((0, 0, 0, 5, 0, 0, 0, 0, 0) : TCfg).2.2.2.1 = 5 from rfl, aw_f2] at g2
  unfold terrierlaw14_awake
  have ea : ((167772160 : Int), (30 : Int)) = awB := rfl
  rw [ea, p1]
  simp only [bnd_val]
  rw [d2]
  simp only [bnd_val]
  rw [g2]
  simp [chk, ltO_def]
theorem RowR.in32 {l : List TSweep} (h : RowR l) : ∀ s ∈ l, Go.Tr.in32 s.1.1 := fun s hs => (h.all s hs).1
end Go.Tr
