/- The law SweepOnce: whom a tick asks is asked once, and is of a swept prefix that is due.
   Conditions: none. -/
import Derived.Test.YtdbpknejbpiebaaSwoD
import Derived.Test.YtdbpknejbpiebaaSweepT
namespace Go.Tr
open Go
set_option linter.unusedVariables false
set_option linter.unusedSimpArgs false
theorem snocInd {α : Type} {P : List α → Prop} (h0 : P []) (h1 : ∀ l a, P l → P (l ++ [a])) : ∀ l, P l := by
  have key : ∀ l : List α, P l.reverse := by
    intro l
    induction l with
    | nil => exact h0
    | cons a l ih => rw [List.reverse_cons]; exact h1 _ _ ih
  intro l
  have := key l.reverse
  rwa [List.reverse_reverse] at this
def ofB (b : Int × Int) (a : Int) : Prop := b.1 ≤ a ∧ a < b.1 + szB b
theorem askL_of {room : Int} {s : TSweep} {asks : List Int} (h : swI s) : ∀ a ∈ askL s (askN room s asks), ofB s.1 a := by
  intro a ha
  have h2 := askN_le (room := room) (asks := asks) h
  obtain ⟨h3, h4, h5, h6⟩ := h
  unfold askL at ha
  obtain ⟨i, hi, rfl⟩ := List.mem_map.1 ha
  have := List.mem_range.1 hi
  unfold ofB
  omega
theorem askL_nodup (s : TSweep) (m : Nat) : (askL s m).Nodup := by
  unfold askL
  refine List.Pairwise.map _ (fun i j h => ?_) (List.nodup_range (n := m))
  omega
theorem ofB_apart {o : List TSweep} (h : RowR o) {i j : Nat} (hi : i < o.length) (hj : j < o.length) (hij : i ≠ j) {a : Int} (h1 : ofB (o[i]).1 a) (h2 : ofB (o[j]).1 a) : False := by
  have key : ∀ {i j : Nat} (hi : i < o.length) (hj : j < o.length), i < j → ofB (o[i]).1 a → ofB (o[j]).1 a → False := by
    intro i j hi hj hlt h1 h2
    have hp := List.pairwise_iff_getElem.1 h.ap i j hi hj hlt
    have g1 := h.all _ (List.getElem_mem hi)
    have g2 := h.all _ (List.getElem_mem hj)
    have b1 := blk_of g1.1 g1.2.1 g1.2.2.1
    have b2 := blk_of g2.1 g2.2.1 g2.2.2.1
    have hov := hp.2
    have : ovl (o[i]).1 (o[j]).1 = true := by
      rw [ovl_iff b1 b2]
      unfold ofB szB at h1 h2
      rw [if_pos b1.r] at h1
      rw [if_pos b2.r] at h2
      omega
    rw [this] at hov
    simp at hov
  rcases Nat.lt_or_gt_of_ne hij with hlt | hlt
  · exact key hi hj hlt h1 h2
  · exact key hj hi hlt h2 h1
theorem fold_asks {o : List TSweep} (h : RowR o) (room every : Int) (D : List Int) : D.Nodup → (∀ k ∈ D, inD o k) →
    (D.foldl (stepS room every) (o, [])).2.Nodup ∧ (∀ a ∈ (D.foldl (stepS room every) (o, [])).2, ∃ k ∈ D, ofB (o.getD k.toNat zSweep).1 a) ∧ (D.foldl (stepS room every) (o, [])).2.length ≤ 256 * D.length := by
  revert D
  refine snocInd (P := fun D => D.Nodup → (∀ k ∈ D, inD o k) → (D.foldl (stepS room every) (o, [])).2.Nodup ∧ (∀ a ∈ (D.foldl (stepS room every) (o, [])).2, ∃ k ∈ D, ofB (o.getD k.toNat zSweep).1 a) ∧ (D.foldl (stepS room every) (o, [])).2.length ≤ 256 * D.length) ?_ ?_
  · intro _ _; exact ⟨by simp, by simp, by simp⟩
  · intro D k ih hn hk
    rw [List.foldl_append]
    simp only [List.foldl_cons, List.foldl_nil]
    have hn' := List.nodup_append.1 hn
    obtain ⟨i1, i2, i3⟩ := ih hn'.1 (fun j hj => hk j (by simp [hj]))
    obtain ⟨r1, r2⟩ := fold_R (room := room) (every := every) D (o, []) h (fun j hj => hk j (by simp [hj]))
    generalize D.foldl (stepS room every) (o, []) = p at *
    have hkk := hk k (by simp)
    have hlen : p.1.length = o.length := by have := congrArg List.length r2; simpa using this
    have hko : k.toNat < o.length := by have := hkk.1; have := hkk.2; omega
    have hkp : k.toNat < p.1.length := by omega
    have hgp : p.1.getD k.toNat zSweep = p.1[k.toNat] := by rw [List.getD_eq_getElem?_getD, List.getElem?_eq_getElem hkp]; rfl
    have hgo : o.getD k.toNat zSweep = o[k.toNat] := by rw [List.getD_eq_getElem?_getD, List.getElem?_eq_getElem hko]; rfl
    have hblk : (p.1[k.toNat]).1 = (o[k.toNat]).1 := by
      have h1 : (p.1.map (·.1))[k.toNat]? = (o.map (·.1))[k.toNat]? := by rw [r2]
      simpa [hkp, hko] using h1
    have hsw : swI p.1[k.toNat] := swR_I (r1.all _ (List.getElem_mem hkp))
    unfold stepS
    rw [hgp]
    have hof : ∀ a ∈ askL p.1[k.toNat] (askN room p.1[k.toNat] p.2), ofB (o[k.toNat]).1 a := fun a ha => by
      have := askL_of hsw a ha
      rwa [hblk] at this
    refine ⟨?_, ?_, ?_⟩
    · refine List.nodup_append.2 ⟨i1, askL_nodup _ _, fun a ha b hb hab => ?_⟩
      subst hab
      obtain ⟨j, hj, hja⟩ := i2 a ha
      have hjj := hk j (by simp [hj])
      have hjo : j.toNat < o.length := by have := hjj.1; have := hjj.2; omega
      have hgj : o.getD j.toNat zSweep = o[j.toNat] := by rw [List.getD_eq_getElem?_getD, List.getElem?_eq_getElem hjo]; rfl
      rw [hgj] at hja
      have hne : j ≠ k := hn'.2.2 j hj k (by simp)
      exact ofB_apart h hjo hko (fun hh => hne (by have := hjj.1; have := hkk.1; omega)) hja (hof a hb)
    · intro a ha
      rcases List.mem_append.1 ha with ha | ha
      · obtain ⟨j, hj, hja⟩ := i2 a ha
        exact ⟨j, by simp [hj], hja⟩
      · exact ⟨k, by simp, by rw [hgo]; exact hof a ha⟩
    · have := (askN_le (room := room) (asks := p.2) hsw).1
      have e : (askL p.1[k.toNat] (askN room p.1[k.toNat] p.2)).length = askN room p.1[k.toNat] p.2 := by simp [askL]
      simp only [List.length_append, List.length_singleton]
      rw [e]
      omega
def isS (now : Int) (a : Int) (s : TSweep) : Bool := (rB s.1 && (a - a % Wd s.1.2 == s.1.1)) && decide (s.2.1 ≤ IntKind.i64.wrap (now + 1))
theorem once_inner (ss : List TSweep) (hin : ∀ s ∈ ss, in32 s.1.1) (hl : ss.length ≤ 1000) (now a : Int) (ha : in32 a) (t39 : List Int) (t40 t41 : Int) (seen : List (Int × Bool)) :
    terrierlaw14_SweepOnce_l1 (ss, now, a, false, t39, t40, t41, ss, (ss.length : Int), 0, seen, ()) = some (.inl (ss, now, a, ss.any (isS now a), t39, t40, t41, seen, ())) := by
  unfold terrierlaw14_SweepOnce_l1
  have h0 : ((ss, now, a, false, t39, t40, t41, ss, (ss.length : Int), 0, seen, ()) : (List TSweep) × Int × Int × Bool × (List Int) × Int × Int × (List TSweep) × Int × Int × (List (Int × Bool)) × Unit) =
    (fun k : Nat => (ss, now, a, (ss.take k).any (isS now a), t39, t40, t41, ss, (ss.length : Int), (k : Int), seen, ())) 0 := by simp
  rw [h0, loopM_steps (n := ss.length) (fun k : Nat => (ss, now, a, (ss.take k).any (isS now a), t39, t40, t41, ss, (ss.length : Int), (k : Int), seen, ())) (Nat.zero_le _) fun k _ hk => ?_]
  · refine loopM_last ?_
    show terrierlaw14_SweepOnce_b1 ss now a ((ss.take ss.length).any (isS now a)) t39 t40 t41 ss (ss.length : Int) (ss.length : Int) seen = _
    unfold terrierlaw14_SweepOnce_b1
    rw [decide_eq_false (by omega), cnd_false, List.take_length]
  · show terrierlaw14_SweepOnce_b1 ss now a ((ss.take k).any (isS now a)) t39 t40 t41 ss (ss.length : Int) (k : Int) seen = _
    unfold terrierlaw14_SweepOnce_b1
    rw [decide_eq_true (by omega), cnd_true, chk_pos ⟨by omega, by omega⟩]
    have e0 : (Option.rec zSweep (fun val => val) ss[((k : Nat) : Int).toNat]? : TSweep) = ss[k] := by
      rw [Int.toNat_natCast, List.getElem?_eq_getElem hk]
    have hw : IntKind.i64.wrap ((k : Int) + 1) = ((k + 1 : Nat) : Int) := by rw [w64 (by omega) (by omega)]; omega
    simp only [ltO_def, chk_same, e0, Has_eq (hin _ (List.getElem_mem hk)) ha, bndG_val]
    rw [chk_pos (fun h1 h2 => by simp only [h1, h2]; rfl), chk_pos (fun h => by rw [h]; rfl), hw]
    congr 4
    rw [List.take_succ_eq_append_getElem hk, List.any_append]
    simp [isS]
theorem once_outer {ss : List TSweep} (hin : ∀ s ∈ ss, in32 s.1.1) (hl : ss.length ≤ 1000) (now : Int) {as : List Int} (hal : as.length ≤ 1000000000) (hnd : as.Nodup) (h32 : ∀ a ∈ as, in32 a) (hok : ∀ a ∈ as, ss.any (isS now a) = true) :
    terrierlaw14_SweepOnce_l0 (ss, now, as, (as.length : Int), 0, [], ()) = some (.inl ()) := by
  unfold terrierlaw14_SweepOnce_l0
  have hseen : ∀ (l : List Int) (a : Int), a ∉ l → lkZ (l.foldl (fun m b => updZ m b true) []) a false = false := by
    have up : ∀ (m : List (Int × Bool)) (a b : Int), a ≠ b → lkZ (updZ m b true) a false = lkZ m a false := by
      intro m
      induction m with
      | nil => intro a b hab; simp [updZ, lkZ, Ne.symm hab]
      | cons p m ih =>
        intro a b hab
        obtain ⟨i, x⟩ := p
        simp only [updZ]
        split
        · rename_i hib
          subst hib
          simp [lkZ, Ne.symm hab]
        · simp only [lkZ]
          split
          · rfl
          · exact ih a b hab
    refine snocInd (P := fun l => ∀ a : Int, a ∉ l → lkZ (l.foldl (fun m b => updZ m b true) []) a false = false) ?_ ?_
    · intro a _; rfl
    · intro l b ih a ha
      rw [List.foldl_append]
      simp only [List.foldl_cons, List.foldl_nil]
      rw [up _ _ _ (fun h => ha (by simp [h]))]
      exact ih a fun h => ha (by simp [h])
  have h0 : ((ss, now, as, (as.length : Int), 0, [], ()) : (List TSweep) × Int × (List Int) × Int × Int × (List (Int × Bool)) × Unit) =
    (fun k : Nat => (ss, now, as, (as.length : Int), (k : Int), (as.take k).foldl (fun m b => updZ m b true) [], ())) 0 := by simp
  rw [h0, loopM_steps (n := as.length) (fun k : Nat => (ss, now, as, (as.length : Int), (k : Int), (as.take k).foldl (fun m b => updZ m b true) [], ())) (Nat.zero_le _) fun k _ hk => ?_]
  · refine loopM_last ?_
    show terrierlaw14_SweepOnce_b0 ss now as (as.length : Int) (as.length : Int) _ = _
    unfold terrierlaw14_SweepOnce_b0
    rw [decide_eq_false (by omega), cnd_false]
  · show terrierlaw14_SweepOnce_b0 ss now as (as.length : Int) (k : Int) ((as.take k).foldl (fun m b => updZ m b true) []) = _
    unfold terrierlaw14_SweepOnce_b0
    have hget : as.getD ((k : Nat) : Int).toNat 0 = as[k] := by rw [Int.toNat_natCast, List.getD_eq_getElem?_getD, List.getElem?_eq_getElem hk]; rfl
    have hmem : as[k] ∈ as := List.getElem_mem hk
    rw [decide_eq_true (by omega), cnd_true, chk_pos ⟨by omega, by omega⟩]
    simp only [ltO_def, hget]
    rw [once_inner ss hin hl now as[k] (h32 _ hmem), hok _ hmem]
    have hno : as[k] ∉ as.take k := by
      intro hh
      obtain ⟨j, hj, hje⟩ := List.getElem_of_mem hh
      have hjk : j < k := by simp at hj; omega
      rw [List.getElem_take] at hje
      have := List.pairwise_iff_getElem.1 hnd j k (by omega) hk hjk
      exact this hje
    have hsn := hseen _ _ hno
    have hw : IntKind.i64.wrap ((k : Int) + 1) = ((k + 1 : Nat) : Int) := by rw [w64 (by omega) (by omega)]; omega
    simp only [bnd_val, sumO, hsn, Bool.not_false, Bool.not_true, Bool.or_self, cnd_false, hw, chk_same]
    congr 7
    rw [List.take_succ_eq_append_getElem hk, List.foldl_append]
    rfl
theorem sweepOnce_law {x : Int × Int × Int × Int × Int × Int × Int × Int × Int} {acts : List (Int × Int × Int)} {room : Int} (hr : 0 ≤ room ∧ room < 256) : terrierlaw14_SweepOnce x acts room = some (true, ()) := by
  unfold terrierlaw14_SweepOnce
  rw [sawake_eq]
  simp only [bnd_val, Bool.not_true, cnd_false]
  obtain ⟨c, hc⟩ := sconfig_eq x
  obtain ⟨t, ss, s1, s2, s3, s4⟩ := Some_R c acts
  have hl := s2.len
  rw [hc]
  simp only [bnd_val]
  rw [s1]
  simp only [bnd_val, ltO_def]
  have hw : IntKind.i64.wrap room = room := w64 (by omega) (by omega)
  have hw2 : IntKind.i64.wrap (t + 1) = t + 1 := w64 (by omega) (by omega)
  rw [hw, hw2]
  obtain ⟨D, d1, d2, d3, d4, d5⟩ := Plan_R s2 c (t + 1) room
  rw [d3]
  simp only [bnd_val]
  have hDn : D.Nodup := by
    refine d2.imp fun {a b} hab heq => ?_
    subst heq
    unfold lexD at hab
    omega
  have hDm : ∀ k ∈ D, inD ss k ∧ dueD ss k ≤ t + 1 := fun k hk => by
    have := dueL_mem (d1.mem_iff.1 hk)
    exact ⟨⟨this.1, this.2.1⟩, this.2.2⟩
  have hDl : D.length ≤ ss.length := by rw [d1.length_eq]; exact dueL_len _ _ _
  obtain ⟨a1, a2, a3⟩ := fold_asks s2 room c.2.2.2.1 D hDn fun k hk => (hDm k hk).1
  generalize hf : D.foldl (stepS room c.2.2.2.1) (ss, []) = p at *
  have hall : ∀ a ∈ p.2, in32 a ∧ ss.any (isS t a) = true := by
    intro a ha
    obtain ⟨k, hk, hka⟩ := a2 a ha
    obtain ⟨hkk, hkd⟩ := hDm k hk
    have hko : k.toNat < ss.length := by have := hkk.1; have := hkk.2; omega
    have hgo : ss.getD k.toNat zSweep = ss[k.toNat] := by rw [List.getD_eq_getElem?_getD, List.getElem?_eq_getElem hko]; rfl
    have hm : ss[k.toNat] ∈ ss := List.getElem_mem hko
    have g := s2.all _ hm
    have b := blk_of g.1 g.2.1 g.2.2.1
    rw [hgo] at hka
    unfold ofB szB at hka
    rw [if_pos b.r] at hka
    have hbt := b.t
    have hbi := b.i
    unfold in32 at hbi
    refine ⟨by unfold in32; omega, ?_⟩
    rw [List.any_eq_true]
    refine ⟨_, hm, ?_⟩
    unfold dueD at hkd
    rw [hgo] at hkd
    unfold isS
    rw [hw2, b.r, decide_eq_true hkd]
    have := (has_iff (b := ss[k.toNat].1.1) (x := a) (by have := b.w.1; omega) b.d).2
    simp only [Bool.and_true, Bool.true_and, beq_iff_eq]
    exact this hka
  have hlen : p.2.length ≤ 1000000000 := by
    omega
  rw [once_outer (fun s hs => (s2.all s hs).1) (by omega) t hlen a1 (fun a ha => (hall a ha).1) (fun a ha => (hall a ha).2)]
  rfl
end Go.Tr
