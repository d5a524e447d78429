/- A tick's plan, where the configuration is one value: printed by a program out of the texts on sweeps. Searches in rows that rise: holders, and what is known. Cases: what becomes of them, and that rows of them stay right. Holders that are put, sightings, questions: what they answer. How addresses are; questions; a state's parts. Conditions: none but those that each theorem states. -/
import Derived.Test.YtklmhllelgjglaaGreatOpsD
import Derived.Test.YtklmhllelgjglaaGreatSweepT
import Derived.Test.YtklmhllelgjglaaGreatSweepZ
import Derived.Test.YtklmhllelgjglaaGreatMacS
namespace Go.Tr
open Go
set_option linter.unusedVariables false
set_option linter.unusedSimpArgs false
set_option maxRecDepth 100000
set_option maxHeartbeats 4000000
theorem plan_inner_w (room t22 t23 : Int) (c : TCfg) (x : List Int) (k : Nat) : ∀ (m : Nat) (out : List TSweep) (asks : List Int) (s : TSweep), k < out.length → out.getD k zSweep = s → in32 s.1.1 → 0 ≤ s.2.2 → s.2.2 ≤ szB s.1 → m = askN room s asks →
    asks.length + m ≤ 1000000000000 →
    sweep_Plan_w1_l1 (room, k, t22, t23, c, out, asks, x, ()) = some (.inl (room, k, t22, t23, c, out.set k (s.1, s.2.1, s.2.2 + (m : Int)), asks ++ askL s m, x, ())) := by
  intro m
  induction m with
  | zero =>
    intro out asks s hk hs h32 h0 h1 hm hb
    have e1 : out.set k (s.1, s.2.1, s.2.2 + ((0 : Nat) : Int)) = out := by
      have : (s.1, s.2.1, s.2.2 + ((0 : Nat) : Int)) = s := by simp
      rw [this, ← hs, List.getD_eq_getElem?_getD, List.getElem?_eq_getElem hk]
      simp
    rw [e1]
    unfold sweep_Plan_w1_l1
    refine loopM_last ?_
    show sweep_Plan_w1_b1 room k t22 t23 c out asks x = _
    unfold sweep_Plan_w1_b1
    rw [hs, Size_eq (b := (s.1.1, s.1.2)) h32]
    simp only [chk_same, bndG_val, ltO_def]
    rw [chk_pos (fun _ => hk), chk_pos (fun _ => hk)]
    have hd : (decide ((asks.length : Int) < room) && decide (s.2.2 < szB (s.1.1, s.1.2))) = false := by
      unfold askN at hm
      rw [← Bool.not_eq_true, Bool.and_eq_true, decide_eq_true_eq, decide_eq_true_eq]
      intro h
      have : szB (s.1.1, s.1.2) = szB s.1 := rfl
      rw [this] at h
      omega
    rw [hd, cnd_false]
    simp [askL]
  | succ m ih =>
    intro out asks s hk hs h32 h0 h1 hm hb
    have hsz : szB (s.1.1, s.1.2) = szB s.1 := rfl
    have hm' : s.2.2 < szB s.1 ∧ (asks.length : Int) < room := by unfold askN at hm; omega
    have hle := szB_le h32
    have hbody : sweep_Plan_w1_b1 room k t22 t23 c out asks x = some (.inl (room, k, t22, t23, c, out.set k (s.1, s.2.1, s.2.2 + 1), asks ++ [s.1.1 + s.2.2], x, ())) := by
      unfold sweep_Plan_w1_b1
      rw [hs, Size_eq (b := (s.1.1, s.1.2)) h32, At_eq (b := (s.1.1, s.1.2)) h32]
      simp only [chk_same, bndG_val, ltO_def]
      rw [chk_pos (fun _ => hk), chk_pos (fun _ => hk), hsz, decide_eq_true hm'.1, decide_eq_true hm'.2, if_pos ⟨h0, hm'.1⟩]
      simp only [Bool.and_self, cnd_true, bnd_val]
      simp only [chk_pos hk]
      have h320 : 0 ≤ s.1.1 := h32.1
      rw [chk_pos (by show _ * _ ≤ _; simp; omega), w64 (by omega) (by omega)]
    have hs' : (out.set k (s.1, s.2.1, s.2.2 + 1)).getD k zSweep = (s.1, s.2.1, s.2.2 + 1) := by
      rw [List.getD_eq_getElem?_getD, List.getElem?_set_self hk]; rfl
    have := ih (out.set k (s.1, s.2.1, s.2.2 + 1)) (asks ++ [s.1.1 + s.2.2]) _ (by simpa using hk) hs' h32 (by show 0 ≤ s.2.2 + 1; omega) (by show s.2.2 + 1 ≤ szB s.1; omega)
      (by unfold askN at hm ⊢; simp only [List.length_append, List.length_singleton]; omega) (by simp; omega)
    unfold sweep_Plan_w1_l1 at this ⊢
    rw [loopM_next hbody, this, List.set_set]
    have e2 : s.2.2 + 1 + (m : Int) = s.2.2 + ((m + 1 : Nat) : Int) := by omega
    simp only [e2]
    have e3 : asks ++ [s.1.1 + s.2.2] ++ askL (s.1, s.2.1, s.2.2 + 1) m = asks ++ askL s (m + 1) := by
      unfold askL
      rw [List.append_assoc, List.range_succ_eq_map]
      simp only [List.map_cons, List.map_map, List.singleton_append]
      congr 2
      · simp
      · apply List.map_congr_left
        intro i _
        simp only [Function.comp]
        omega
    rw [e3]
theorem plan_body_w (room t22 i : Int) (c : TCfg) (x asks : List Int) (out : List TSweep) (hi : 0 ≤ i) (hi2 : i < (x.length : Int)) (ht : t22 = (x.length : Int)) (hx : x.length ≤ 1000) (hk : inD out (x.getD i.toNat 0)) (hI : ∀ s ∈ out, swI s) (ha : asks.length ≤ 1000000) :
    sweep_Plan_w1_b0 room t22 i asks c out x = some (.inl (room, t22, i + 1, (stepS room c.2.2.2.1 (out, asks) (x.getD i.toNat 0)).2, c, (stepS room c.2.2.2.1 (out, asks) (x.getD i.toNat 0)).1, x, ())) := by
  unfold sweep_Plan_w1_b0
  rw [decide_eq_true (by omega), cnd_true, chk_pos (by omega), chk_pos (by omega), chk_pos (show 0 ≤ x.getD i.toNat 0 ∧ x.getD i.toNat 0 < (out.length : Int) from hk)]
  generalize hke : x.getD i.toNat 0 = kk at hk ⊢
  have hkl : kk.toNat < out.length := by have := hk.1; have := hk.2; omega
  generalize hs : out.getD kk.toNat zSweep = s
  have hsm : s ∈ out := by
    rw [← hs, List.getD_eq_getElem?_getD, List.getElem?_eq_getElem hkl]; exact List.getElem_mem hkl
  have hsI := hI s hsm
  have hn := askN_le (room := room) (asks := asks) hsI
  rw [plan_inner_w room t22 i c x kk.toNat (askN room s asks) out asks s hkl hs hsI.1 hsI.2.1 hsI.2.2.1 rfl (by omega)]
  simp only [bnd_val, sumO_inl]
  have hl2 : kk.toNat < (out.set kk.toNat (s.1, s.2.1, s.2.2 + (askN room s asks : Int))).length := by simpa using hkl
  have hg : (out.set kk.toNat (s.1, s.2.1, s.2.2 + (askN room s asks : Int))).getD kk.toNat zSweep = (s.1, s.2.1, s.2.2 + (askN room s asks : Int)) := by
    rw [List.getD_eq_getElem?_getD, List.getElem?_set_self hkl]; rfl
  simp only [chk_pos hl2, hg]
  rw [Size_eq (b := (s.1.1, s.1.2)) hsI.1]
  have hsz : szB (s.1.1, s.1.2) = szB s.1 := rfl
  simp only [bnd_val, hsz]
  unfold stepS nextS
  simp only [hs]
  by_cases hc : szB s.1 ≤ s.2.2 + (askN room s asks : Int)
  · rw [decide_eq_true hc, cnd_true, add_eq']
    simp only [bnd_val, ltO_def]
    rw [if_pos hc, chk_pos (by simpa using hkl), w64 (by omega) (by omega)]
    have hg2 : (out.set kk.toNat ((s.1.1, s.1.2), s.2.1, (0 : Int))).getD kk.toNat zSweep = (s.1, s.2.1, 0) := by
      rw [List.getD_eq_getElem?_getD, List.getElem?_set_self hkl]; rfl
    simp only [List.set_set, hg2]
  · rw [decide_eq_false hc, cnd_false, if_neg hc]
    simp only [ltO_def]
    rw [w64 (by omega) (by omega)]
theorem plan_loop_w (room : Int) (c : TCfg) : ∀ (rest done : List Int) (out : List TSweep) (asks : List Int), done.length + rest.length ≤ 1000 → (∀ k ∈ rest, inD out k) → (∀ s ∈ out, swI s) → asks.length + 256 * rest.length ≤ 1000000 →
    sweep_Plan_w1_l0 (room, ((done.length + rest.length : Nat) : Int), (done.length : Int), asks, c, out, done ++ rest, ()) =
      some (.inl ((rest.foldl (stepS room c.2.2.2.1) (out, asks)).1, (rest.foldl (stepS room c.2.2.2.1) (out, asks)).2, ())) := by
  intro rest
  induction rest with
  | nil =>
    intro done out asks h1 h2 h3 h4
    unfold sweep_Plan_w1_l0
    refine loopM_last ?_
    unfold sweep_Plan_w1_b0
    rw [decide_eq_false (by simp), cnd_false]
    rfl
  | cons k rest ih =>
    intro done out asks h1 h2 h3 h4
    have hg : (done ++ k :: rest).getD ((done.length : Int)).toNat 0 = k := by rw [Int.toNat_natCast]; exact getD_app rfl _ _
    have hb := plan_body_w room ((done.length + (k :: rest).length : Nat) : Int) (done.length : Int) c (done ++ k :: rest) asks out (by omega) (by simp; omega) (by simp) (by simp at h1 ⊢; omega)
      (by rw [hg]; exact h2 k (by simp)) h3 (by omega)
    rw [hg] at hb
    have hst := step_I (room := room) (every := c.2.2.2.1) (p := (out, asks)) h3 (h2 k (by simp))
    have := ih (done ++ [k]) (stepS room c.2.2.2.1 (out, asks) k).1 (stepS room c.2.2.2.1 (out, asks) k).2 (by simp at h1 ⊢; omega) (fun j hj => by
      have := h2 j (by simp [hj])
      unfold inD at this ⊢
      rw [step_len]; exact this) hst.1 (by have := hst.2; simp at h4 this ⊢; omega)
    unfold sweep_Plan_w1_l0 at this ⊢
    rw [loopM_next hb]
    have e1 : (((done ++ [k]).length + rest.length : Nat) : Int) = ((done.length + (k :: rest).length : Nat) : Int) := by simp; omega
    have e2 : (((done ++ [k]).length : Nat) : Int) = (done.length : Int) + 1 := by simp
    have e3 : done ++ [k] ++ rest = done ++ k :: rest := by simp
    rw [e1, e2, e3] at this
    rw [this]
    rfl
theorem Plan_eq_w {o : List TSweep} (ho : DueOk o) (hI : ∀ s ∈ o, swI s) (hl : o.length < 20) (c : TCfg) (now room : Int) :
    ∃ D : List Int, D.Perm (dueL o now o.length) ∧ D.Pairwise (lexD o) ∧ sweep_Plan_w1 c o now room = some ((D.foldl (stepS room c.2.2.2.1) (o, [])).2, (D.foldl (stepS room c.2.2.2.1) (o, [])).1, ()) := by
  obtain ⟨D, d1, d2, d3⟩ := order_eq ho hl now
  refine ⟨D, d2, d3, ?_⟩
  unfold sweep_Plan_w1 slices_Clone_Sweep clone
  rw [chk_pos (by omega)]
  simp only [bnd_val]
  rw [d1]
  simp only [bnd_val]
  have hDl : D.length ≤ o.length := by rw [d2.length_eq]; exact dueL_len _ _ _
  have := plan_loop_w room c D [] o [] (by simp; omega) (fun k hk => by
    have := dueL_mem (d2.mem_iff.1 hk)
    exact ⟨this.1, this.2.1⟩) hI (by simp; omega)
  simp only [List.nil_append, List.length_nil, Nat.zero_add] at this
  have e0 : ((0 : Nat) : Int) = 0 := rfl
  rw [e0] at this
  rw [this]
  simp
theorem Plan_R_w {o : List TSweep} (h : RowR o) (c : TCfg) (now room : Int) :
    ∃ D : List Int, D.Perm (dueL o now o.length) ∧ D.Pairwise (lexD o) ∧ sweep_Plan_w1 c o now room = some ((D.foldl (stepS room c.2.2.2.1) (o, [])).2, (D.foldl (stepS room c.2.2.2.1) (o, [])).1, ()) ∧
      RowR (D.foldl (stepS room c.2.2.2.1) (o, [])).1 ∧ (D.foldl (stepS room c.2.2.2.1) (o, [])).1.map (·.1) = o.map (·.1) := by
  obtain ⟨D, d1, d2, d3⟩ := Plan_eq_w h.due (fun s hs => swR_I (h.all s hs)) (by have := h.len; omega) c now room
  have := fold_R (room := room) (every := c.2.2.2.1) D (o, []) h (fun k hk => by
    have := dueL_mem (d1.mem_iff.1 hk)
    exact ⟨this.1, this.2.1⟩)
  exact ⟨D, d1, d2, d3, this.1, this.2⟩
end Go.Tr
namespace Go.Tr
open Go
set_option linter.unusedVariables false
set_option linter.unusedSimpArgs false
set_option maxRecDepth 100000
set_option maxHeartbeats 4000000
theorem loop_fold {α A S Y : Type} {f : S → Option (S ⊕ Y)} (xs : List α) (g : A → α → A) (mk : A → Nat → S) (out : A → Y) (P : A → Nat → Prop)
    (hb : ∀ k (h : k < xs.length) a, P a k → f (mk a k) = some (.inl (mk (g a xs[k]) (k + 1)))) (hP : ∀ k (h : k < xs.length) a, P a k → P (g a xs[k]) (k + 1)) (he : ∀ a, P a xs.length → f (mk a xs.length) = some (.inr (out a))) :
    ∀ (m k : Nat) (a : A), k + m = xs.length → P a k → loopM f (mk a k) = some (out ((xs.drop k).foldl g a))
  | 0, k, a, hk, hp => by
    have : k = xs.length := by omega
    subst this
    rw [List.drop_length, loopM_last (he a hp)]; rfl
  | m + 1, k, a, hk, hp => by
    have hkl : k < xs.length := by omega
    rw [List.drop_eq_getElem_cons hkl, loopM_next (hb k hkl a hp), loop_fold xs g mk out P hb hP he m (k + 1) _ (by omega) (hP k hkl a hp)]
    rfl
theorem search_gen {S : Type} {f : S → Option (S ⊕ ((Int × Unit) ⊕ (Int × Unit)))} (St : Nat → Nat → S) (p : Nat → Bool) (n k : Nat) (hk1 : ∀ i, i < k → p i = false) (hk2 : ∀ i, k ≤ i → i < n → p i = true) (hkn : k ≤ n)
    (hb : ∀ i j : Nat, i < j → j ≤ n → f (St i j) = if p ((i + j) / 2) = true then some (.inl (St i ((i + j) / 2))) else some (.inl (St ((i + j) / 2 + 1) j))) (he : ∀ i : Nat, i ≤ n → f (St i i) = some (.inr (.inl ((i : Int), ())))) :
    ∀ (m i j : Nat), j - i ≤ m → i ≤ k → k ≤ j → j ≤ n → loopM f (St i j) = some (.inl ((k : Int), ())) := by
  intro m
  induction m with
  | zero =>
    intro i j hm h1 h2 h3
    have : i = k := by omega
    have : j = k := by omega
    subst this
    subst this
    exact loopM_last (he _ h3)
  | succ m ih =>
    intro i j hm h1 h2 h3
    by_cases hij : i = j
    · subst hij
      have : i = k := by omega
      subst this
      exact loopM_last (he _ h3)
    · have hlt : i < j := by omega
      have h4 := hb i j hlt h3
      by_cases hp : p ((i + j) / 2) = true
      · rw [if_pos hp] at h4
        have : ¬ (i + j) / 2 < k := fun h => by rw [hk1 _ h] at hp; simp at hp
        rw [loopM_next h4]
        exact ih _ _ (by omega) h1 (by omega) (by omega)
      · rw [if_neg hp] at h4
        have : (i + j) / 2 < k := by
          rcases Nat.lt_or_ge ((i + j) / 2) k with h | h
          · exact h
          · exact absurd (hk2 _ h (by omega)) hp
        rw [loopM_next h4]
        exact ih _ _ (by omega) (by omega) h2 h3
def Rise {α : Type} (key : α → Int) (l : List α) : Prop := l.Pairwise fun x y => key x < key y
def lowB {α : Type} (key : α → Int) (l : List α) (a : Int) : Nat := (l.takeWhile fun x => decide (key x < a)).length
def hasK {α : Type} (key : α → Int) (l : List α) (a : Int) : Bool := l.any fun x => key x == a
theorem lowB_le {α : Type} (key : α → Int) (l : List α) (a : Int) : lowB key l a ≤ l.length := (List.takeWhile_sublist _).length_le
theorem lowB_lt {α : Type} {key : α → Int} : ∀ {l : List α} {a : Int} {i : Nat} (h : i < lowB key l a) (hi : i < l.length), key l[i] < a
  | [], a, i, h, hi => by simp at hi
  | x :: l, a, i, h, hi => by
    unfold lowB at h
    rw [List.takeWhile_cons] at h
    split at h
    · rename_i hx
      cases i with
      | zero => simpa using hx
      | succ i => exact lowB_lt (l := l) (by unfold lowB; simpa using h) (by simpa using hi)
    · simp at h
theorem lowB_ge {α : Type} {key : α → Int} : ∀ {l : List α} {a : Int} (h : lowB key l a < l.length), a ≤ key l[lowB key l a]
  | [], a, h => by simp at h
  | x :: l, a, h => by
    by_cases hx : key x < a
    · have e : lowB key (x :: l) a = lowB key l a + 1 := by unfold lowB; rw [List.takeWhile_cons, if_pos (by simpa using hx)]; rfl
      have := lowB_ge (key := key) (l := l) (a := a) (by rw [e] at h; simpa using h)
      simp only [e, List.getElem_cons_succ]
      exact this
    · have e : lowB key (x :: l) a = 0 := by unfold lowB; rw [List.takeWhile_cons, if_neg (by simpa using hx)]; rfl
      simp only [e, List.getElem_cons_zero]
      omega
theorem Rise.lt {α : Type} {key : α → Int} {l : List α} (h : Rise key l) {i j : Nat} (hij : i < j) (hj : j < l.length) : key (l[i]'(by omega)) < key l[j] := List.pairwise_iff_getElem.1 h i j (by omega) hj hij
theorem Rise.ge {α : Type} {key : α → Int} {l : List α} (h : Rise key l) {a : Int} {i : Nat} (hi : lowB key l a ≤ i) (hl : i < l.length) : a ≤ key l[i] := by
  have h1 := lowB_ge (key := key) (l := l) (a := a) (by omega)
  by_cases e : lowB key l a = i
  · simp only [e] at h1; exact h1
  · have := h.lt (i := lowB key l a) (j := i) (by omega) hl
    omega
theorem Rise.has {α : Type} {key : α → Int} {l : List α} (h : Rise key l) (a : Int) (z : α) : (decide (((lowB key l a : Nat) : Int) < (l.length : Int)) && (key (l.getD (lowB key l a) z) == a)) = hasK key l a := by
  have hle := lowB_le key l a
  by_cases hlt : lowB key l a < l.length
  · rw [decide_eq_true (by omega), getD_hit _ _ _ hlt, Bool.true_and]
    cases hk : hasK key l a with
    | true =>
      unfold hasK at hk
      obtain ⟨x, hx, hxa⟩ := List.any_eq_true.1 hk
      obtain ⟨i, hi, rfl⟩ := List.getElem_of_mem hx
      have hxa' : key l[i] = a := by simpa using hxa
      have : ¬ i < lowB key l a := fun h => by have := lowB_lt (key := key) h hi; omega
      by_cases e : lowB key l a = i
      · simp only [e]; simpa using hxa'
      · have h1 := h.lt (i := lowB key l a) (j := i) (by omega) hi
        have h2 := lowB_ge (key := key) hlt
        omega
    | false =>
      unfold hasK at hk
      have := List.any_eq_false.1 hk l[lowB key l a] (List.getElem_mem hlt)
      simpa using this
  · rw [decide_eq_false (by omega), Bool.false_and]
    cases hk : hasK key l a with
    | false => rfl
    | true =>
      unfold hasK at hk
      obtain ⟨x, hx, hxa⟩ := List.any_eq_true.1 hk
      obtain ⟨i, hi, rfl⟩ := List.getElem_of_mem hx
      have hxa' : key l[i] = a := by simpa using hxa
      have := lowB_lt (key := key) (l := l) (a := a) (i := i) (by omega) hi
      omega
theorem Rise.at {α : Type} {key : α → Int} {l : List α} (h : Rise key l) {a : Int} (hk : hasK key l a = true) : ∃ hl : lowB key l a < l.length, key l[lowB key l a] = a := by
  unfold hasK at hk
  obtain ⟨x, hx, hxa⟩ := List.any_eq_true.1 hk
  obtain ⟨i, hi, rfl⟩ := List.getElem_of_mem hx
  have hxa' : key l[i] = a := by simpa using hxa
  have h0 : ¬ i < lowB key l a := fun h => by have := lowB_lt (key := key) h hi; omega
  by_cases e : lowB key l a = i
  · refine ⟨by omega, ?_⟩
    simp only [e]; exact hxa'
  · have h1 := h.lt (i := lowB key l a) (j := i) (by omega) hi
    have h2 := lowB_ge (key := key) (l := l) (a := a) (by omega)
    omega
abbrev kH : THold → Int := fun h => h.1
abbrev kK : TKnown → Int := fun k => k.1
theorem half_eq {i j : Nat} (h : i < j) (hj : j ≤ 1000000) : IntKind.i64.wrap (shrI IntKind.u64 (IntKind.u64.wrap (IntKind.i64.wrap ((i : Int) + (j : Int)))) 1) = (((i + j) / 2 : Nat) : Int) := by
  have e1 : (1 : Int) = ((1 : Nat) : Int) := rfl
  rw [w64 (n := (i : Int) + (j : Int)) (by omega) (by omega), wu64 (by omega) (by omega), e1, shr_eq 1 (by decide), w64 (by omega) (by omega)]
  omega
theorem searchH_eq {l : List THold} (h : Rise kH l) (hl : l.length ≤ 1000000) (a : Int) : sort_Search (l.length : Int) l a = some (((lowB kH l a : Nat) : Int), ()) := by
  unfold sort_Search sort_Search_l0
  have hs := search_gen (f := fun s : (List THold) × Int × Int × Int × Unit => sort_Search_b0 s.1 s.2.1 s.2.2.1 s.2.2.2.1) (fun i j : Nat => (l, a, (i : Int), (j : Int), ())) (fun i => decide ((l.getD i zHold).1 ≥ a)) l.length (lowB kH l a)
    (fun i hi => by
      have hi' : i < l.length := Nat.lt_of_lt_of_le hi (lowB_le _ _ _)
      rw [getD_hit _ _ _ hi']
      have := lowB_lt (key := kH) hi hi'
      exact decide_eq_false (by show ¬ a ≤ kH l[i]; omega))
    (fun i hi hi' => by
      rw [getD_hit _ _ _ hi']
      exact decide_eq_true (h.ge hi hi')) (lowB_le _ _ _)
    (fun i j hij hj => by
      show sort_Search_b0 l a (i : Int) (j : Int) = _
      unfold sort_Search_b0
      rw [decide_eq_true (by omega), cnd_true]
      simp only [ltO_def]
      rw [chk_pos (by decide), half_eq hij (by omega)]
      unfold held_find_1
      rw [chk_pos (by omega)]
      simp only [ltO_def, recD, getD_toNat, bnd_val]
      rw [w64 (n := _ + 1) (by omega) (by omega)]
      cases decide ((l.getD ((i + j) / 2) zHold).1 ≥ a) <;> rfl)
    (fun i hi => by
      show sort_Search_b0 l a (i : Int) (i : Int) = _
      unfold sort_Search_b0
      rw [decide_eq_false (by omega)]; rfl) l.length 0 l.length (by omega) (Nat.zero_le _) (lowB_le _ _ _) (Nat.le_refl _)
  have hs' : loopM (fun s : (List THold) × Int × Int × Int × Unit => sort_Search_b0 s.1 s.2.1 s.2.2.1 s.2.2.2.1) (l, a, (0 : Int), (l.length : Int), ()) = _ := hs
  rw [hs']; rfl
theorem findH_eq {l : List THold} (h : Rise kH l) (hl : l.length ≤ 1000000) (a : Int) : held_find l a = some (((lowB kH l a : Nat) : Int), hasK kH l a, ()) := by
  unfold held_find
  rw [searchH_eq h hl]
  have hh := h.has a zHold
  simp only [bnd_val, chk_same, ltO_def, recD, getD_toNat]
  rw [chk_pos (fun hd => by have := of_decide_eq_true hd; omega)]
  simp only [kH] at hh ⊢
  rw [hh]
theorem searchK_eq {l : List TKnown} (h : Rise kK l) (hl : l.length ≤ 1000000) (a : Int) : sort_Search_v1 (l.length : Int) l a = some (((lowB kK l a : Nat) : Int), ()) := by
  unfold sort_Search_v1 sort_Search_v1_l0
  have hs := search_gen (f := fun s : (List TKnown) × Int × Int × Int × Unit => sort_Search_v1_b0 s.1 s.2.1 s.2.2.1 s.2.2.2.1) (fun i j : Nat => (l, a, (i : Int), (j : Int), ())) (fun i => decide ((l.getD i (0, [])).1 ≥ a)) l.length (lowB kK l a)
    (fun i hi => by
      have hi' : i < l.length := Nat.lt_of_lt_of_le hi (lowB_le _ _ _)
      rw [getD_hit _ _ _ hi']
      have := lowB_lt (key := kK) hi hi'
      exact decide_eq_false (by show ¬ a ≤ kK l[i]; omega))
    (fun i hi hi' => by
      rw [getD_hit _ _ _ hi']
      exact decide_eq_true (h.ge hi hi')) (lowB_le _ _ _)
    (fun i j hij hj => by
      show sort_Search_v1_b0 l a (i : Int) (j : Int) = _
      unfold sort_Search_v1_b0
      rw [decide_eq_true (by omega), cnd_true]
      simp only [ltO_def]
      rw [chk_pos (by decide), half_eq hij (by omega)]
      unfold seen_find_1
      rw [chk_pos (by omega)]
      simp only [ltO_def, recD, getD_toNat, bnd_val]
      rw [w64 (n := _ + 1) (by omega) (by omega)]
      cases decide ((l.getD ((i + j) / 2) (0, [])).1 ≥ a) <;> rfl)
    (fun i hi => by
      show sort_Search_v1_b0 l a (i : Int) (i : Int) = _
      unfold sort_Search_v1_b0
      rw [decide_eq_false (by omega)]; rfl) l.length 0 l.length (by omega) (Nat.zero_le _) (lowB_le _ _ _) (Nat.le_refl _)
  have hs' : loopM (fun s : (List TKnown) × Int × Int × Int × Unit => sort_Search_v1_b0 s.1 s.2.1 s.2.2.1 s.2.2.2.1) (l, a, (0 : Int), (l.length : Int), ()) = _ := hs
  rw [hs']; rfl
theorem findK_eq {l : List TKnown} (h : Rise kK l) (hl : l.length ≤ 1000000) (a : Int) : seen_find l a = some (((lowB kK l a : Nat) : Int), hasK kK l a, ()) := by
  unfold seen_find
  rw [searchK_eq h hl]
  have hh := h.has a ((0, []) : TKnown)
  simp only [bnd_val, chk_same, ltO_def, recD, getD_toNat]
  rw [chk_pos (fun hd => by have := of_decide_eq_true hd; omega)]
  simp only [kK] at hh ⊢
  rw [hh]
def getH (l : List THold) (a : Int) : Option THold := if hasK kH l a = true then some (l.getD (lowB kH l a) zHold) else none
theorem getH_eq {l : List THold} (h : Rise kH l) (hl : l.length ≤ 1000000) (a : Int) : held_Get l a = some ((getH l a).getD zHold, hasK kH l a, ()) := by
  unfold held_Get getH
  rw [findH_eq h hl, bnd_val]
  cases hk : hasK kH l a with
  | false => rfl
  | true =>
    obtain ⟨h1, h2⟩ := h.at hk
    simp only [cnd_true, if_true]
    rw [chk_pos (by omega)]
    simp only [ltO_def, recD, getD_toNat]
    rfl
theorem slice_all {α : Type} (l : List α) (i : Nat) : sliceA i l.length l = l.drop i := by
  unfold sliceA
  rw [List.take_of_length_le (by simp)]
theorem slice_pre {α : Type} (l : List α) (i : Nat) : sliceA 0 i l = l.take i := by
  unfold sliceA
  simp
def takeH (l : List THold) (a : Int) : List THold := l.take (lowB kH l a) ++ l.drop (lowB kH l a + 1)
theorem takeH_eq {l : List THold} (h : Rise kH l) (hl : l.length ≤ 1000000) (a : Int) : held_Take l a = some (if hasK kH l a = true then (0, takeH l a, ()) else (7, [], ())) := by
  unfold held_Take
  rw [findH_eq h hl, bnd_val]
  cases hk : hasK kH l a with
  | false => rfl
  | true =>
    obtain ⟨h1, h2⟩ := h.at hk
    simp only [Bool.not_true, cnd_false, if_true, ltO_def, Int.toNat_natCast]
    rw [w64 (by omega) (by omega)]
    have e1 : (((lowB kH l a : Nat) : Int) + 1).toNat = lowB kH l a + 1 := by omega
    rw [e1, slice_pre, slice_all, chk_pos (by omega), chk_pos (by show _ * _ ≤ _; simp; omega), chk_pos (by omega), chk_pos (by show _ * _ ≤ _; simp; omega)]
    rfl
end Go.Tr
namespace Go.Tr
open Go
set_option linter.unusedVariables false
set_option linter.unusedSimpArgs false
set_option maxRecDepth 100000
set_option maxHeartbeats 4000000
def sinceS (now t : Int) : Int := clampS now - clampS t
def withinS (now t n : Int) : Bool := decide (0 ≤ sinceS now t) && decide (sinceS now t < n)
theorem since_eq (now t : Int) : clock_Since now t = some (sinceS now t, ()) := by
  have h1 := clampS_in now
  have h2 := clampS_in t
  unfold clock_Since sinceS
  rw [clamp_eq', clamp_eq']
  simp only [bnd_val, ltO_def]
  rw [w64 (by omega) (by omega)]
theorem within_eq (now t n : Int) : clock_Within now t n = some (withinS now t n, ()) := by
  unfold clock_Within withinS
  rw [since_eq]
  simp only [bnd_val, chk_same, ltO_def, bndG_val]
theorem clampS_self {n : Int} (h0 : 0 ≤ n) (h1 : n ≤ 1099511627776) : clampS n = n := by unfold clampS; split <;> (try split) <;> omega
def busyC (f : TCfg) (now : Int) (c : TCase) : Bool := openS c || (c.2.2.2 == 2 && withinS now c.2.2.1 f.2.2.2.2.2.2.2.2)
def tickC (f : TCfg) (now : Int) (c : TCase) : TCase := if c.2.2.2 = 0 ∧ f.2.2.2.2.2.2.2.1 ≤ sinceS now c.2.1 then (c.1, c.2.1, clampS now, 3) else c
theorem set_mid {α : Type} {l m : List α} {k : Nat} (h : k = l.length) (x y : α) : (l ++ x :: m).set k y = l ++ y :: m := by subst h; simp
theorem getD_mid {α : Type} {l m : List α} {k : Nat} (h : k = l.length) (x z : α) : (l ++ x :: m).getD k z = x := by subst h; simp
theorem tickC_eq (f : TCfg) (cs : List TCase) (now : Int) (hl : cs.length ≤ 1000000) : cases_Tick f cs now = some (cs.map (tickC f now), ()) := by
  unfold cases_Tick slices_Clone_Case clone
  rw [chk_pos (by omega), bnd_val]
  have hb : ∀ k, 0 ≤ k → k < cs.length → cases_Tick_b0 now (cs.length : Int) (k : Int) f ((cs.take k).map (tickC f now) ++ cs.drop k) = some (.inl (now, (cs.length : Int), ((k + 1 : Nat) : Int), f, (cs.take (k + 1)).map (tickC f now) ++ cs.drop (k + 1), ())) := by
    intro k _ hk
    have hd : cs.drop k = cs[k] :: cs.drop (k + 1) := List.drop_eq_getElem_cons hk
    have hlen : ((cs.take k).map (tickC f now)).length = k := by simp; omega
    have htk : (cs.take (k + 1)).map (tickC f now) = (cs.take k).map (tickC f now) ++ [tickC f now cs[k]] := by
      rw [List.take_succ_eq_append_getElem hk, List.map_append]; rfl
    have hll : ((cs.take k).map (tickC f now) ++ cs.drop k).length = cs.length := by simp; omega
    unfold cases_Tick_b0
    rw [decide_eq_true (by omega), cnd_true, chk_pos (by omega), chk_pos (by omega), Int.toNat_natCast, since_eq]
    simp only [ltO_def, chk_same, bndG_val]
    rw [hd] at hll ⊢
    rw [getD_mid hlen.symm, htk]
    rw [w64 (by omega) (by omega)]
    by_cases hc : cs[k].2.2.2 = 0 ∧ f.2.2.2.2.2.2.2.1 ≤ sinceS now cs[k].2.1
    · have e1 : (cs[k].2.2.2 == (0 : Int) && decide (sinceS now cs[k].2.1 ≥ f.2.2.2.2.2.2.2.1)) = true := by simp [hc.1, hc.2]
      rw [e1, cnd_true, clamp_eq', bnd_val, chk_pos (by omega), chk_pos (by omega), chk_pos (by rw [List.length_set]; omega), chk_pos (by rw [List.length_set]; omega)]
      rw [set_mid hlen.symm, set_mid hlen.symm, getD_mid hlen.symm]
      unfold tickC
      rw [if_pos hc]
      simp
    · have e1 : (cs[k].2.2.2 == (0 : Int) && decide (sinceS now cs[k].2.1 ≥ f.2.2.2.2.2.2.2.1)) = false := by
        rw [← Bool.not_eq_true, Bool.and_eq_true, decide_eq_true_eq, beq_iff_eq]
        exact hc
      rw [e1, cnd_false]
      unfold tickC
      rw [if_neg hc]
      simp
  have hN : cases_Tick_b0 now (cs.length : Int) (cs.length : Int) f ((cs.take cs.length).map (tickC f now) ++ cs.drop cs.length) = some (.inr (.inl (cs.map (tickC f now), ()))) := by
    unfold cases_Tick_b0
    rw [decide_eq_false (by omega), cnd_false]; simp
  have h0 : cases_Tick_l0 (now, (cs.length : Int), 0, f, cs, ()) = some (.inl (cs.map (tickC f now), ())) := by
    unfold cases_Tick_l0
    have := loopM_steps (f := fun s : Int × Int × Int × TCfg × (List TCase) × Unit => cases_Tick_b0 s.1 s.2.1 s.2.2.1 s.2.2.2.1 s.2.2.2.2.1) (n := cs.length) (fun k : Nat => (now, (cs.length : Int), (k : Int), f, (cs.take k).map (tickC f now) ++ cs.drop k, ())) (Nat.zero_le _) hb
    simp only [List.take_zero, List.map_nil, List.drop_zero, List.nil_append] at this
    have this' : loopM (fun s : Int × Int × Int × TCfg × (List TCase) × Unit => cases_Tick_b0 s.1 s.2.1 s.2.2.1 s.2.2.2.1 s.2.2.2.2.1) (now, (cs.length : Int), (0 : Int), f, cs, ()) = _ := this
    rw [this']
    exact loopM_last hN
  rw [h0]; rfl
def setC (c : TCase) (to' now : Int) : TCase := (c.1, c.2.1, if to' = 0 ∨ to' = 1 then c.2.2.1 else clampS now, to')
def nextC (cs : List TCase) (a from' to' now : Int) : Int × List TCase :=
  if findC cs a < 0 then (7, []) else if (cs.getD (findC cs a).toNat zCase).2.2.2 = from' then (0, cs.set (findC cs a).toNat (setC (cs.getD (findC cs a).toNat zCase) to' now)) else (8, [])
theorem findC_in {cs : List TCase} {a : Int} (h : ¬ findC cs a < 0) : (findC cs a).toNat < cs.length ∧ findC cs a = (((findC cs a).toNat : Nat) : Int) ∧ (cs.getD (findC cs a).toNat zCase).1 = a ∧ openS (cs.getD (findC cs a).toNat zCase) = true := by
  unfold findC at h ⊢
  obtain ⟨j, hj, h1, h2, _⟩ := idxS_lt (p := fun c : TCase => c.1 == a && openS c) (l := cs) (k := 0) (by omega)
  rw [Nat.zero_add] at h1
  simp only [Bool.and_eq_true, beq_iff_eq] at h2
  rw [h1, Int.toNat_natCast, getD_hit _ _ _ hj]
  exact ⟨hj, rfl, h2.1, h2.2⟩
theorem nextC_eq (cs : List TCase) (a from' to' now : Int) (hl : cs.length ≤ 1000000) : cases_next cs a from' to' now = some ((nextC cs a from' to' now).1, (nextC cs a from' to' now).2, ()) := by
  unfold cases_next nextC
  rw [find_eq _ _ (by omega)]
  simp only [bnd_val]
  by_cases h : findC cs a < 0
  · rw [decide_eq_true h, if_pos h]; rfl
  · obtain ⟨h1, h2, h3, h4⟩ := findC_in h
    rw [decide_eq_false h, if_neg h, cnd_false, chk_pos (by omega)]
    have hg : Option.rec (motive := fun _ => TCase) zCase (fun v => v) cs[(findC cs a).toNat]? = cs.getD (findC cs a).toNat zCase := by rw [recD, List.getD_eq_getElem?_getD]
    simp only [ltO_def]
    rw [hg]
    by_cases h5 : (cs.getD (findC cs a).toNat zCase).2.2.2 = from'
    · have e1 : ((cs.getD (findC cs a).toNat zCase).2.2.2 != from') = false := by rw [h5]; exact bne_self_eq_false _
      rw [e1, if_pos h5, cnd_false]
      unfold slices_Clone_Case clone
      rw [chk_pos (by omega), bnd_val]
      simp only [List.length_set]
      rw [chk_pos (by omega), chk_pos h1, chk_pos (by omega), chk_pos h1, open_eq, bnd_val]
      have hgs : ∀ x : TCase, (cs.set (findC cs a).toNat x).getD (findC cs a).toNat zCase = x := fun x => by
        rw [List.getD_eq_getElem?_getD, List.getElem?_set_self h1]; rfl
      rw [hgs]
      by_cases h6 : to' = 0 ∨ to' = 1
      · have e2 : openS ((cs.getD (findC cs a).toNat zCase).1, (cs.getD (findC cs a).toNat zCase).2.1, (cs.getD (findC cs a).toNat zCase).2.2.1, to') = true := by
          unfold openS; rcases h6 with h6 | h6 <;> simp [h6]
        rw [e2]
        unfold setC
        rw [if_pos h6]
        rfl
      · have e2 : openS ((cs.getD (findC cs a).toNat zCase).1, (cs.getD (findC cs a).toNat zCase).2.1, (cs.getD (findC cs a).toNat zCase).2.2.1, to') = false := by
          unfold openS
          simp only [Bool.or_eq_false_iff, beq_eq_false_iff_ne]
          exact ⟨fun h => h6 (.inl h), fun h => h6 (.inr h)⟩
        rw [e2]
        simp only [Bool.not_false, cnd_true, clamp_eq', bnd_val]
        rw [chk_pos (by omega), chk_pos h1, List.set_set]
        unfold setC
        rw [if_neg h6]
    · have e1 : ((cs.getD (findC cs a).toNat zCase).2.2.2 != from') = true := bne_iff_ne.2 h5
      rw [e1, if_neg h5]; rfl
def cancelC (cs : List TCase) (a now : Int) : Int × List TCase :=
  if findC cs a < 0 then (7, []) else (0, cs.set (findC cs a).toNat (setC (cs.getD (findC cs a).toNat zCase) 4 now))
theorem cancelC_eq (cs : List TCase) (a now : Int) (hl : cs.length ≤ 1000000) : cases_Cancel cs a now = some ((cancelC cs a now).1, (cancelC cs a now).2, ()) := by
  unfold cases_Cancel cancelC
  rw [find_eq _ _ (by omega)]
  simp only [bnd_val]
  by_cases h : findC cs a < 0
  · rw [decide_eq_true h, if_pos h]; rfl
  · obtain ⟨h1, h2, h3, h4⟩ := findC_in h
    rw [decide_eq_false h, if_neg h, cnd_false, chk_pos (by omega)]
    have hg : Option.rec (motive := fun _ => TCase) zCase (fun v => v) cs[(findC cs a).toNat]? = cs.getD (findC cs a).toNat zCase := by rw [recD, List.getD_eq_getElem?_getD]
    simp only [ltO_def]
    rw [hg, nextC_eq _ _ _ _ _ hl, bnd_val]
    unfold nextC
    rw [if_neg h, if_pos rfl]
theorem doneC_eq (cs : List TCase) (a now : Int) (hl : cs.length ≤ 1000000) : cases_Done cs a now = some ((nextC cs a 1 5 now).1, (nextC cs a 1 5 now).2, ()) := by
  unfold cases_Done; rw [nextC_eq _ _ _ _ _ hl]; rfl
theorem approveC_eq (cs : List TCase) (a now : Int) (hl : cs.length ≤ 1000000) : cases_Approve cs a now = some ((nextC cs a 0 1 now).1, (nextC cs a 0 1 now).2, ()) := by
  unfold cases_Approve; rw [nextC_eq _ _ _ _ _ hl]; rfl
theorem rejectC_eq (cs : List TCase) (a now : Int) (hl : cs.length ≤ 1000000) : cases_Reject cs a now = some ((nextC cs a 0 2 now).1, (nextC cs a 0 2 now).2, ()) := by
  unfold cases_Reject; rw [nextC_eq _ _ _ _ _ hl]; rfl
def quietC (f : TCfg) (cs : List TCase) (a now : Int) : Bool := cs.any fun c => (c.1 == a && c.2.2.2 == 2) && withinS now c.2.2.1 f.2.2.2.2.2.2.2.2
theorem quietC_eq (f : TCfg) (cs : List TCase) (a now : Int) (hl : cs.length ≤ 1000000) : cases_quiet f cs a now = some (quietC f cs a now, ()) := by
  unfold cases_quiet slices_ContainsFunc_w2 slices_IndexFunc_v1_w2 slices_IndexFunc_v1_w2_l0
  have h := index_gen (f := fun s : (List TCase) × Int × Int × TCfg × Int × Int × Unit => slices_IndexFunc_v1_w2_b0 s.1 s.2.1 s.2.2.1 s.2.2.2.1 s.2.2.2.2.1 s.2.2.2.2.2.1) (fun k : Nat => (cs, a, now, f, (cs.length : Int), (k : Int), ())) cs
    (fun c => (c.1 == a && c.2.2.2 == 2) && withinS now c.2.2.1 f.2.2.2.2.2.2.2.2) (fun k hk => by
    show slices_IndexFunc_v1_w2_b0 cs a now f (cs.length : Int) (k : Int) = _
    unfold slices_IndexFunc_v1_w2_b0 cases_quiet_1
    rw [decide_eq_true (by omega), cnd_true, chk_pos (by omega)]
    simp only [ltO_def, recD, getD_toNat, getD_hit cs k _ hk, within_eq, chk_same, bndG_val, bnd_val, cnd_ite]
    rw [w64 (by omega) (by omega)]; rfl) (by
    show slices_IndexFunc_v1_w2_b0 cs a now f (cs.length : Int) (cs.length : Int) = _
    unfold slices_IndexFunc_v1_w2_b0
    rw [decide_eq_false (by omega)]; rfl) cs.length 0 (by omega)
  rw [List.drop_zero] at h
  have h' : loopM (fun s : (List TCase) × Int × Int × TCfg × Int × Int × Unit => slices_IndexFunc_v1_w2_b0 s.1 s.2.1 s.2.2.1 s.2.2.2.1 s.2.2.2.2.1 s.2.2.2.2.2.1) (cs, a, now, f, (cs.length : Int), (0 : Int), ()) = _ := h
  rw [h', bnd_val, sumIdx, bnd_val, idxS_neg]
  rfl
def spareF (f : TCfg) (cs : List TCase) (now : Int) : Nat → Int
  | 0 => -1
  | k + 1 => if busyC f now (cs.getD k zCase) = true then spareF f cs now k else if spareF f cs now k < 0 ∨ (cs.getD k zCase).2.2.1 < (cs.getD (spareF f cs now k).toNat zCase).2.2.1 then (k : Int) else spareF f cs now k
theorem spareF_lt (f : TCfg) (cs : List TCase) (now : Int) : ∀ k, -1 ≤ spareF f cs now k ∧ spareF f cs now k < (k : Int)
  | 0 => by simp [spareF]
  | k + 1 => by
    have := spareF_lt f cs now k
    unfold spareF
    split
    · omega
    · split <;> omega
theorem spareC_eq (f : TCfg) (cs : List TCase) (now : Int) (hl : cs.length ≤ 1000000) : cases_spare f cs now = some (spareF f cs now cs.length, ()) := by
  unfold cases_spare
  have h0 : cases_spare_l0 (cs, now, -1, cs, (cs.length : Int), 0, f, ()) = some (.inl (spareF f cs now cs.length, ())) := by
    unfold cases_spare_l0
    refine (loopM_steps (n := cs.length) (fun k : Nat => (cs, now, spareF f cs now k, cs, (cs.length : Int), (k : Int), f, ())) (Nat.zero_le _) fun k _ hk => ?_).trans ?_
    · show cases_spare_b0 cs now (spareF f cs now k) cs (cs.length : Int) (k : Int) f = _
      have hs := spareF_lt f cs now k
      unfold cases_spare_b0
      have hpc : ((!decide (spareF f cs now k < 0)) = true → 0 ≤ spareF f cs now k ∧ spareF f cs now k < (cs.length : Int)) := fun h => by
        simp only [Bool.not_eq_true', decide_eq_false_iff_not] at h; omega
      rw [decide_eq_true (by omega), cnd_true, chk_pos (by omega)]
      simp only [ltO_def, recD, getD_toNat, open_eq, bnd_val, within_eq, bndG_val, chk_same, chk_and, chk_nn, chk_pos hpc]
      rw [w64 (by omega) (by omega)]
      have hg : (cs[(spareF f cs now k).toNat]?.getD zCase) = cs.getD (spareF f cs now k).toNat zCase := by rw [List.getD_eq_getElem?_getD]
      rw [hg]
      have hb : (openS (cs.getD k zCase) || ((cs.getD k zCase).2.2.2 == 2 && withinS now (cs.getD k zCase).2.2.1 f.2.2.2.2.2.2.2.2)) = busyC f now (cs.getD k zCase) := rfl
      rw [hb]
      have hs1 : spareF f cs now (k + 1) = if busyC f now (cs.getD k zCase) = true then spareF f cs now k else if spareF f cs now k < 0 ∨ (cs.getD k zCase).2.2.1 < (cs.getD (spareF f cs now k).toNat zCase).2.2.1 then (k : Int) else spareF f cs now k := rfl
      rw [hs1]
      cases busyC f now (cs.getD k zCase) with
      | true => rfl
      | false =>
        simp only [cnd_false, Bool.false_eq_true, if_false]
        by_cases hc : spareF f cs now k < 0 ∨ (cs.getD k zCase).2.2.1 < (cs.getD (spareF f cs now k).toNat zCase).2.2.1
        · have e : (decide (spareF f cs now k < 0) || decide ((cs.getD k zCase).2.2.1 < (cs.getD (spareF f cs now k).toNat zCase).2.2.1)) = true := by simpa using hc
          rw [e, if_pos hc]; rfl
        · have e : (decide (spareF f cs now k < 0) || decide ((cs.getD k zCase).2.2.1 < (cs.getD (spareF f cs now k).toNat zCase).2.2.1)) = false := by
            rw [← Bool.not_eq_true, Bool.or_eq_true, decide_eq_true_eq, decide_eq_true_eq]; exact hc
          rw [e, if_neg hc]; rfl
    · refine loopM_last ?_
      show cases_spare_b0 cs now (spareF f cs now cs.length) cs (cs.length : Int) (cs.length : Int) f = _
      unfold cases_spare_b0
      rw [decide_eq_false (by omega)]; rfl
  rw [h0]; rfl
def newC (a now : Int) : TCase := (a, clampS now, 0, 0)
def raiseC (f : TCfg) (cs : List TCase) (a now : Int) : Int × List TCase :=
  if 0 ≤ findC cs a then (6, []) else if quietC f cs a now = true then (8, []) else if 16 ≤ cs.length then
    (if spareF f cs now cs.length < 0 then (4, []) else (0, (cs.take (spareF f cs now cs.length).toNat ++ cs.drop ((spareF f cs now cs.length).toNat + 1)) ++ [newC a now])) else (0, cs ++ [newC a now])
theorem raiseC_eq (f : TCfg) (cs : List TCase) (a now : Int) (hl : cs.length ≤ 1000000) : cases_Raise f cs a now = some ((raiseC f cs a now).1, (raiseC f cs a now).2, ()) := by
  unfold cases_Raise raiseC
  rw [find_eq _ _ (by omega), quietC_eq _ _ _ _ hl]
  simp only [bnd_val]
  by_cases h : 0 ≤ findC cs a
  · rw [decide_eq_true (show findC cs a ≥ 0 from h), if_pos h]; rfl
  · rw [decide_eq_false (show ¬ findC cs a ≥ 0 from h), if_neg h, cnd_false]
    cases hq : quietC f cs a now with
    | true => rfl
    | false =>
      simp only [cnd_false, Bool.false_eq_true, if_false]
      unfold slices_Clone_Case clone
      rw [chk_pos (by omega), bnd_val]
      by_cases h16 : 16 ≤ cs.length
      · rw [decide_eq_true (show (cs.length : Int) ≥ 16 by omega), if_pos h16, cnd_true]
        simp only [spareC_eq _ _ _ hl, bnd_val]
        have hs := spareF_lt f cs now cs.length
        by_cases hsp : spareF f cs now cs.length < 0
        · rw [decide_eq_true hsp, if_pos hsp]; rfl
        · rw [decide_eq_false hsp, if_neg hsp, cnd_false]
          obtain ⟨j, hj⟩ := Int.eq_ofNat_of_zero_le (show 0 ≤ spareF f cs now cs.length by omega)
          rw [hj] at hs ⊢
          simp only [ltO_def]
          unfold slices_Delete_Case
          rw [delete_eq cs j (by omega) (by omega), bnd_val, clamp_eq', bnd_val, chk_pos (by show _ * _ ≤ _; simp; omega), Int.toNat_natCast]
          rfl
      · rw [decide_eq_false (show ¬ (cs.length : Int) ≥ 16 by omega), if_neg h16, cnd_false, clamp_eq', bnd_val, chk_pos (by show _ * _ ≤ _; simp; omega)]
        rfl
end Go.Tr
namespace Go.Tr
open Go
set_option linter.unusedVariables false
set_option linter.unusedSimpArgs false
set_option maxRecDepth 100000
set_option maxHeartbeats 4000000
structure CfgR (c : TCfg) : Prop where
  fresh : 1 ≤ c.1 ∧ c.1 ≤ 1000
  old : c.1 ≤ c.2.1 ∧ c.2.1 ≤ 10000
  need : 1 ≤ c.2.2.1 ∧ c.2.2.1 ≤ 6
  every : 1 ≤ c.2.2.2.1 ∧ c.2.2.2.1 ≤ 1000
  rate : 1 ≤ c.2.2.2.2.1 ∧ c.2.2.2.2.1 ≤ 64
  wait : 1 ≤ c.2.2.2.2.2.1 ∧ c.2.2.2.2.2.1 ≤ 100
  again : 0 ≤ c.2.2.2.2.2.2.1 ∧ c.2.2.2.2.2.2.1 ≤ 8
  opn : 1 ≤ c.2.2.2.2.2.2.2.1 ∧ c.2.2.2.2.2.2.2.1 ≤ 1000
  quiet : 0 ≤ c.2.2.2.2.2.2.2.2 ∧ c.2.2.2.2.2.2.2.2 ≤ 1000
def insK {α : Type} (key : α → Int) (l : List α) (x : α) : List α := l.take (lowB key l (key x)) ++ [x] ++ l.drop (lowB key l (key x))
def putH (l : List THold) (h : THold) : Int × List THold := if mayS h.2.1 = false then (12, []) else if hasK kH l h.1 = true then (6, []) else if 48 ≤ l.length then (4, []) else (0, insK kH l h)
theorem putH_eq {l : List THold} (hr : Rise kH l) (hl : l.length ≤ 1000000) (h : THold) (ho : h.2.1.length ≤ 140737488355328) : held_Put l h = some ((putH l h).1, (putH l h).2, ()) := by
  unfold held_Put putH
  rw [findH_eq hr hl, May_eq ho]
  simp only [bnd_val]
  cases mayS h.2.1 with
  | false => rfl
  | true =>
    simp only [Bool.not_true, cnd_false, Bool.true_eq_false, if_false]
    cases hasK kH l h.1 with
    | true => rfl
    | false =>
      simp only [cnd_false, Bool.false_eq_true, if_false]
      by_cases h48 : 48 ≤ l.length
      · rw [decide_eq_true (show (l.length : Int) ≥ 48 by omega), if_pos h48]; rfl
      · rw [decide_eq_false (show ¬ (l.length : Int) ≥ 48 by omega), if_neg h48, cnd_false]
        have hle := lowB_le kH l h.1
        simp only [Int.toNat_natCast, slice_pre, slice_all]
        rw [chk_pos (by omega), chk_pos (by show _ * _ ≤ _; simp; omega), chk_pos (by show _ * _ ≤ _; simp; omega), chk_pos (by omega), chk_pos (by show _ * _ ≤ _; simp; omega)]
        rfl
def ofK (l : List TKnown) (a : Int) : List TSight := if hasK kK l a = true then (l.getD (lowB kK l a) (0, [])).2 else []
theorem ofK_eq {l : List TKnown} (hr : Rise kK l) (hl : l.length ≤ 1000000) (hs : ∀ x ∈ l, x.2.length ≤ 1000000) (a : Int) : seen_Of l a = some (ofK l a, ()) := by
  unfold seen_Of ofK
  rw [findK_eq hr hl, bnd_val]
  cases hk : hasK kK l a with
  | false => rfl
  | true =>
    obtain ⟨h1, h2⟩ := hr.at hk
    simp only [cnd_true, if_true]
    rw [chk_pos (by omega)]
    simp only [ltO_def, recD, getD_toNat]
    rw [getD_hit _ _ _ h1, chk_pos (by have := hs _ (List.getElem_mem h1); show _ * _ ≤ _; simp; omega)]
def lastT (ss : List TSight) : Int := (ss.getD (ss.length - 1) zSight).2.2
def lastK (l : List TKnown) (a : Int) : Int := if (ofK l a).length = 0 then 0 else lastT (ofK l a)
theorem lastK_eq {l : List TKnown} (hr : Rise kK l) (hl : l.length ≤ 1000000) (hs : ∀ x ∈ l, x.2.length ≤ 1000000) (a : Int) : seen_Last l a = some (lastK l a, decide ((ofK l a).length ≠ 0), ()) := by
  unfold seen_Last lastK ofK
  rw [findK_eq hr hl]
  simp only [bnd_val, chk_same, chk_nn, ltO_def, recD, getD_toNat, Bool.not_not]
  have hle := lowB_le kK l a
  cases hk : hasK kK l a with
  | false =>
    rw [chk_pos (by simp)]
    simp
  | true =>
    obtain ⟨h1, h2⟩ := hr.at hk
    have hc1 : 0 ≤ ((lowB kK l a : Nat) : Int) ∧ ((lowB kK l a : Nat) : Int) < (l.length : Int) := by omega
    have hc2 : true = true → 0 ≤ ((lowB kK l a : Nat) : Int) ∧ ((lowB kK l a : Nat) : Int) < (l.length : Int) := fun _ => hc1
    simp only [chk_pos hc1, chk_pos hc2, getD_hit _ _ _ h1, if_true]
    have hsl := hs _ (List.getElem_mem h1)
    by_cases h0 : (l[lowB kK l a]).2.length = 0
    · rw [if_pos h0]
      simp [h0, chk, h1]
    · rw [if_neg h0, w64 (by omega) (by omega)]
      have e1 : (((l[lowB kK l a]).2.length : Int) == 0) = false := by simp; intro h; exact h0 (by rw [h]; rfl)
      rw [e1]
      have e2 : (((l[lowB kK l a]).2.length : Int) - 1).toNat = (l[lowB kK l a]).2.length - 1 := by omega
      rw [e2, decide_eq_true h0]
      unfold lastT
      rw [List.getD_eq_getElem?_getD]
      simp only [Bool.not_true, Bool.or_self, cnd_false, chk_same]
      exact (chk_pos (fun _ => hc1) _).trans (chk_pos (by omega) _)
def keepT (ss : List TSight) (s : TSight) : List TSight := (ss ++ [s]).drop (ss.length + 1 - 8)
theorem keepT_eq (ss : List TSight) (s : TSight) (hl : ss.length ≤ 1000000) : seen_Keep ss s = some (keepT ss s, ()) := by
  unfold seen_Keep keepT
  rw [chk_pos (by show _ * _ ≤ _; simp; omega), chk_pos (by show _ * _ ≤ _; simp; omega)]
  simp only [ltO_def]
  have hlen : (ss ++ [s]).length = ss.length + 1 := by simp
  rw [hlen, w64 (by omega) (by omega)]
  have e : (if ((ss.length + 1 : Nat) : Int) - 8 > 0 then ((ss.length + 1 : Nat) : Int) - 8 else 0) = ((ss.length + 1 - 8 : Nat) : Int) := by split <;> omega
  rw [e]
  rw [chk_pos (by omega), chk_pos (by omega)]
  have e2 : ((ss.length + 1 - 8 : Nat) : Int).toNat + ((((ss.length + 1 : Nat) : Int)).toNat - ((ss.length + 1 - 8 : Nat) : Int).toNat) = (ss ++ [s]).length := by rw [hlen]; omega
  rw [e2, Int.toNat_natCast, slice_all]
def putK (l : List TKnown) (a : Int) (s : TSight) : Int × List TKnown :=
  if s.1 < 0 ∨ 4 ≤ s.1 then (12, []) else if s.2.2 < max 0 (lastK l a) then (3, []) else if hasK kK l a = false ∧ 96 ≤ l.length then (4, []) else
    (0, if hasK kK l a = true then l.set (lowB kK l a) ((l.getD (lowB kK l a) (0, [])).1, keepT (l.getD (lowB kK l a) (0, [])).2 s) else insK kK l (a, [s]))
theorem cpy_ins {α : Type} (l : List α) (z x : α) (k : Nat) (hk : k ≤ l.length) :
    (cpyA (k + 1) (l.length - k) ((l ++ [z]).drop k) (l ++ [z])).set k x = l.take k ++ [x] ++ l.drop k := by
  unfold cpyA
  have h1 : ((l ++ [z]).drop k).take (l.length - k) = l.drop k := by
    rw [List.drop_append_of_le_length hk, List.take_append_of_le_length (by simp), List.take_of_length_le (by simp)]
  have h2 : (l ++ [z]).drop (k + 1 + min (l.length - k) ((l ++ [z]).drop k).length) = [] := List.drop_eq_nil_of_le (by simp; omega)
  have h3 : (l ++ [z]).take (k + 1) = l.take k ++ [(l ++ [z])[k]'(by simp; omega)] := by
    rw [List.take_succ_eq_append_getElem (by simp; omega), List.take_append_of_le_length hk]
  rw [h1, h2, h3, List.append_nil, List.append_assoc, List.singleton_append, set_mid (by simp; omega)]
  simp
theorem putK_eq {l : List TKnown} (hr : Rise kK l) (hl : l.length ≤ 1000000) (hs : ∀ x ∈ l, x.2.length ≤ 1000000) (a : Int) (s : TSight) : seen_Put l a s = some ((putK l a s).1, (putK l a s).2, ()) := by
  unfold seen_Put putK
  rw [findK_eq hr hl, lastK_eq hr hl hs]
  simp only [bnd_val, chk_same, chk_nn, ltO_def]
  have hle := lowB_le kK l a
  by_cases h1 : s.1 < 0 ∨ 4 ≤ s.1
  · have e : (decide (s.1 < 0) || decide (s.1 ≥ 4)) = true := by simpa using h1
    rw [e, if_pos h1]; rfl
  · have e : (decide (s.1 < 0) || decide (s.1 ≥ 4)) = false := by
      rw [← Bool.not_eq_true, Bool.or_eq_true, decide_eq_true_eq, decide_eq_true_eq]; exact h1
    rw [e, if_neg h1, cnd_false]
    have em : (if lastK l a > 0 then lastK l a else 0) = max 0 (lastK l a) := by split <;> omega
    rw [em]
    by_cases h2 : s.2.2 < max 0 (lastK l a)
    · rw [decide_eq_true h2, if_pos h2]; rfl
    · rw [decide_eq_false h2, if_neg h2, cnd_false]
      cases hk : hasK kK l a with
      | true =>
        obtain ⟨g1, g2⟩ := hr.at hk
        simp only [Bool.not_true, Bool.false_and, cnd_false, Bool.true_eq_false, false_and, if_false, cnd_true, if_true]
        have hsl := hs _ (List.getElem_mem g1)
        rw [chk_pos (by show _ * _ ≤ _; simp; omega), chk_pos (by omega), chk_pos (by omega), Int.toNat_natCast, getD_hit _ _ _ g1, keepT_eq _ _ hsl, bnd_val, chk_pos (by omega), chk_pos g1]
      | false =>
        simp only [Bool.not_false, Bool.true_and, true_and, Bool.false_eq_true, if_false]
        by_cases h3 : 96 ≤ l.length
        · rw [decide_eq_true (show (l.length : Int) ≥ 96 by omega), if_pos h3]; rfl
        · rw [decide_eq_false (show ¬ (l.length : Int) ≥ 96 by omega), if_neg h3, cnd_false]
          have hlen : ∀ z : TKnown, (l ++ [z]).length = l.length + 1 := fun z => by simp
          simp only [hlen, cnd_false]
          rw [w64 (by omega) (by omega)]
          have e1 : (((lowB kK l a : Nat) : Int) + 1).toNat = lowB kK l a + 1 := by omega
          have e2 : (((l.length + 1 : Nat) : Int)).toNat - (lowB kK l a + 1) = l.length - lowB kK l a := by omega
          have e3 : lowB kK l a + ((((l.length + 1 : Nat) : Int)).toNat - lowB kK l a) = (l ++ [((0 : Int), ([] : List TSight))]).length := by rw [hlen]; omega
          simp only [e1, e2, Int.toNat_natCast, e3, slice_all]
          have hcl := cpy_len (off := lowB kK l a + 1) (len := l.length - lowB kK l a) (ys := (l ++ [((0 : Int), ([] : List TSight))]).drop (lowB kK l a)) (xs := l ++ [((0 : Int), ([] : List TSight))]) (by rw [hlen]; omega)
          have e4 : lowB kK l a + (l.length + 1 - lowB kK l a) = (l ++ [((0 : Int), ([] : List TSight))]).length := by rw [hlen]; omega
          simp only [e4, slice_all, Nat.add_sub_add_right]
          rw [chk_pos (by show _ * _ ≤ _; simp; omega), chk_pos (by show _ * _ ≤ _; simp; omega), chk_pos (by omega), chk_pos (by omega), chk_pos (by rw [hlen]; omega), chk_pos (by omega), hcl, chk_pos (by rw [hlen]; omega), chk_pos (by rw [hlen]; omega), cpy_ins _ _ _ _ hle]
          rfl
def lateF (c : TCfg) (now room : Int) (q : List TProbe × List TProbe) (p : TProbe) : List TProbe × List TProbe :=
  if sinceS now p.2.2.2.1 < c.2.2.2.2.2.1 then (q.1 ++ [p], q.2) else if c.2.2.2.2.2.2.1 ≤ p.2.2.2.2 then q else
    if (q.2.length : Int) < room then (q.1 ++ [(p.1, p.2.1, p.2.2.1, clampS now, p.2.2.2.2 + 1)], q.2 ++ [(p.1, p.2.1, p.2.2.1, clampS now, p.2.2.2.2 + 1)]) else (q.1 ++ [p], q.2)
def lateP (c : TCfg) (ps : List TProbe) (now room : Int) : List TProbe × List TProbe := ps.foldl (lateF c now room) ([], [])
theorem lateF_len (c : TCfg) (now room : Int) (q : List TProbe × List TProbe) (p : TProbe) : (lateF c now room q p).1.length ≤ q.1.length + 1 ∧ (lateF c now room q p).2.length ≤ q.2.length + 1 := by
  unfold lateF
  split
  · simp
  · split
    · simp
    · split <;> simp
theorem lateP_eq (c : TCfg) (hc : CfgR c) (ps : List TProbe) (now room : Int) (hl : ps.length ≤ 1000000) (ht : ∀ p ∈ ps, 0 ≤ p.2.2.2.2) : probe_Late c ps now room = some ((lateP c ps now room).2, (lateP c ps now room).1, ()) := by
  unfold probe_Late lateP probe_Late_l0
  have ha := hc.again
  have h := loop_fold (f := fun s : Int × Int × (List TProbe) × Int × Int × (List TProbe) × (List TProbe) × TCfg × Unit => probe_Late_b0 s.1 s.2.1 s.2.2.1 s.2.2.2.1 s.2.2.2.2.1 s.2.2.2.2.2.1 s.2.2.2.2.2.2.1 s.2.2.2.2.2.2.2.1) ps (lateF c now room)
    (fun q k => (now, room, ps, (ps.length : Int), (k : Int), q.1, q.2, c, ())) (fun q => (.inl (q.1, q.2, ()) : ((List TProbe) × (List TProbe) × Unit) ⊕ ((List TProbe) × (List TProbe) × Unit))) (fun q k => q.1.length ≤ k ∧ q.2.length ≤ k) (fun k hk q hp => by
      show probe_Late_b0 now room ps (ps.length : Int) (k : Int) q.1 q.2 c = _
      unfold probe_Late_b0 lateF
      rw [decide_eq_true (by omega), cnd_true, chk_pos (by omega)]
      simp only [ltO_def, recD, getD_toNat]
      have hg : ps.getD k zProbe = ps[k] := getD_hit _ _ _ hk
      rw [hg, since_eq, bnd_val, w64 (by omega) (by omega)]
      by_cases h1 : sinceS now ps[k].2.2.2.1 < c.2.2.2.2.2.1
      · rw [decide_eq_true h1, if_pos h1, cnd_true, chk_pos (by show _ * _ ≤ _; simp; omega)]; rfl
      · rw [decide_eq_false h1, if_neg h1, cnd_false]
        by_cases h2 : c.2.2.2.2.2.2.1 ≤ ps[k].2.2.2.2
        · rw [decide_eq_true (show ps[k].2.2.2.2 ≥ c.2.2.2.2.2.2.1 from h2), if_pos h2]; rfl
        · rw [decide_eq_false (show ¬ ps[k].2.2.2.2 ≥ c.2.2.2.2.2.2.1 from h2), if_neg h2, cnd_false]
          by_cases h3 : (q.2.length : Int) < room
          · rw [decide_eq_true h3, if_pos h3, cnd_true, clamp_eq', bnd_val]
            have ht0 := ht _ (List.getElem_mem hk)
            rw [w64 (n := _ + 1) (by omega) (by omega), chk_pos (by show _ * _ ≤ _; simp; omega), chk_pos (by show _ * _ ≤ _; simp; omega)]
            rfl
          · rw [decide_eq_false h3, if_neg h3, cnd_false, chk_pos (by show _ * _ ≤ _; simp; omega)]; rfl)
    (fun k hk q hp => by have := lateF_len c now room q ps[k]; omega) (fun q hp => by
      show probe_Late_b0 now room ps (ps.length : Int) (ps.length : Int) q.1 q.2 c = _
      unfold probe_Late_b0
      rw [decide_eq_false (by omega)]; rfl) ps.length 0 ([], []) (by omega) (by simp)
  rw [List.drop_zero] at h
  have h' : loopM (fun s : Int × Int × (List TProbe) × Int × Int × (List TProbe) × (List TProbe) × TCfg × Unit => probe_Late_b0 s.1 s.2.1 s.2.2.1 s.2.2.2.1 s.2.2.2.2.1 s.2.2.2.2.2.1 s.2.2.2.2.2.2.1 s.2.2.2.2.2.2.2.1) (now, room, ps, (ps.length : Int), (0 : Int), [], [], c, ()) = _ := h
  rw [h']; rfl
def putP (ps : List TProbe) (p : TProbe) : Int × List TProbe := if (ps.any fun y => y.1 == p.1) = true then (6, []) else if 16 ≤ ps.length then (4, []) else (0, ps ++ [p])
end Go.Tr
namespace Go.Tr
open Go
set_option linter.unusedVariables false
set_option linter.unusedSimpArgs false
set_option maxRecDepth 100000
set_option maxHeartbeats 4000000
theorem containsQ_eq (l : List TProbe) (x : TProbe) (hn : l.length ≤ 1000000) : slices_ContainsFunc_v1 l x = some (l.any fun y => y.1 == x.1, ()) := by
  unfold slices_ContainsFunc_v1 slices_IndexFunc_v2 slices_IndexFunc_v2_l0
  have h := index_gen (f := fun s : (List TProbe) × TProbe × Int × Int × Unit => slices_IndexFunc_v2_b0 s.1 s.2.1 s.2.2.1 s.2.2.2.1) (fun k : Nat => (l, x, (l.length : Int), (k : Int), ())) l (fun y => y.1 == x.1) (fun k hk => by
    show slices_IndexFunc_v2_b0 l x (l.length : Int) (k : Int) = _
    unfold slices_IndexFunc_v2_b0 probe_Put_1
    rw [decide_eq_true (by omega), cnd_true, chk_pos (by omega)]
    simp only [ltO_def, recD, getD_toNat, getD_hit l k _ hk, bnd_val, cnd_ite]
    rw [w64 (by omega) (by omega)]; rfl) (by
    show slices_IndexFunc_v2_b0 l x (l.length : Int) (l.length : Int) = _
    unfold slices_IndexFunc_v2_b0
    rw [decide_eq_false (by omega)]; rfl) l.length 0 (by omega)
  rw [List.drop_zero] at h
  have h' : loopM (fun s : (List TProbe) × TProbe × Int × Int × Unit => slices_IndexFunc_v2_b0 s.1 s.2.1 s.2.2.1 s.2.2.2.1) (l, x, (l.length : Int), (0 : Int), ()) = _ := h
  rw [h', bnd_val, sumIdx, bnd_val, idxS_neg]
theorem putP_eq (l : List TProbe) (x : TProbe) (hn : l.length ≤ 1000000) : probe_Put l x = some ((putP l x).1, (putP l x).2, ()) := by
  unfold probe_Put putP
  rw [containsQ_eq _ _ hn, bnd_val]
  cases l.any fun y => y.1 == x.1 with
  | true => rfl
  | false =>
    simp only [cnd_false, Bool.false_eq_true, if_false]
    by_cases h16 : 16 ≤ l.length
    · rw [decide_eq_true (show (l.length : Int) ≥ 16 by omega), if_pos h16]; rfl
    · rw [decide_eq_false (show ¬ (l.length : Int) ≥ 16 by omega), if_neg h16, cnd_false]
      unfold slices_Clone_Probe clone
      rw [chk_pos (by omega), bnd_val, chk_pos (by show _ * _ ≤ _; simp; omega)]
def ofP (a seq now : Int) : TProbe := (a, a % 65536, seq % 65536, clampS now, 0)
theorem ofP_eq {a seq : Int} (ha : in32 a) (hs : 0 ≤ seq ∧ seq ≤ 1000000) (now : Int) : probe_Of a seq now = some (ofP a seq now, ()) := by
  unfold probe_Of ofP
  unfold in32 at ha
  rw [band_mask 16 ha.1 (by decide) (by decide), band_mask 16 hs.1 (by decide) (by decide)]
  simp only [ltO_def]
  have e : (2 : Int) ^ 16 = 65536 := by decide
  rw [e, wu32 (by omega) (by omega), w64 (by omega) (by omega), w64 (by omega) (by omega), clamp_eq', bnd_val]
def ansP (l : List TProbe) (a : Int) : Option (List TProbe) :=
  if (l.any fun y => y.1 == a) = true then some (l.take (idxS (fun y : TProbe => y.1 == a) l 0).toNat ++ l.drop ((idxS (fun y : TProbe => y.1 == a) l 0).toNat + 1)) else none
theorem indexA_eq (l : List TProbe) (a : Int) (hn : l.length ≤ 1000000) : slices_IndexFunc_v5 l a = some (idxS (fun y : TProbe => y.1 == a) l 0, ()) := by
  unfold slices_IndexFunc_v5 slices_IndexFunc_v5_l0
  have h := index_gen (f := fun s : (List TProbe) × Int × Int × Int × Unit => slices_IndexFunc_v5_b0 s.1 s.2.1 s.2.2.1 s.2.2.2.1) (fun k : Nat => (l, a, (l.length : Int), (k : Int), ())) l (fun y => y.1 == a) (fun k hk => by
    show slices_IndexFunc_v5_b0 l a (l.length : Int) (k : Int) = _
    unfold slices_IndexFunc_v5_b0 ops_answered_1
    rw [decide_eq_true (by omega), cnd_true, chk_pos (by omega)]
    simp only [ltO_def, recD, getD_toNat, getD_hit l k _ hk, bnd_val, cnd_ite]
    rw [w64 (by omega) (by omega)]; rfl) (by
    show slices_IndexFunc_v5_b0 l a (l.length : Int) (l.length : Int) = _
    unfold slices_IndexFunc_v5_b0
    rw [decide_eq_false (by omega)]; rfl) l.length 0 (by omega)
  rw [List.drop_zero] at h
  have h' : loopM (fun s : (List TProbe) × Int × Int × Int × Unit => slices_IndexFunc_v5_b0 s.1 s.2.1 s.2.2.1 s.2.2.2.1) (l, a, (l.length : Int), (0 : Int), ()) = _ := h
  rw [h', bnd_val]
  exact sumIdx _
def setH (s : TState) (x : List THold) : TState := (s.1, s.2.1, x, s.2.2.2)
def setW (s : TState) (x : List TSweep) : TState := (s.1, s.2.1, s.2.2.1, x, s.2.2.2.2)
def setK (s : TState) (x : List TKnown) : TState := (s.1, s.2.1, s.2.2.1, s.2.2.2.1, x, s.2.2.2.2.2)
def setP (s : TState) (x : List TProbe) : TState := (s.1, s.2.1, s.2.2.1, s.2.2.2.1, s.2.2.2.2.1, x, s.2.2.2.2.2.2)
def setS (s : TState) (x : List TCase) : TState := (s.1, s.2.1, s.2.2.1, s.2.2.2.1, s.2.2.2.2.1, s.2.2.2.2.2.1, x)
theorem answered_eq (s : TState) (a : Int) (hn : s.2.2.2.2.2.1.length ≤ 1000000) : ops_answered s a = some (match ansP s.2.2.2.2.2.1 a with
    | some l => (setP s l, 0, ())
    | none => (s, 7, ())) := by
  unfold ops_answered ansP
  rw [indexA_eq _ _ hn, bnd_val]
  cases ha : s.2.2.2.2.2.1.any fun y => y.1 == a with
  | false => rw [idxS_none ha]; rfl
  | true =>
    obtain ⟨k, hk, h1, h2, _⟩ := idxS_lt (idxS_iff (k := 0).2 ha)
    rw [h1, Nat.zero_add, decide_eq_false (by omega), cnd_false]
    unfold slices_Clone_Probe clone slices_Delete_Probe
    rw [chk_pos (by omega), bnd_val, ltO_def, delete_eq _ k hk (by omega), bnd_val]
    simp only [if_true, Int.toNat_natCast]
    rfl
def freshS (c : TCfg) (ss : List TSight) (now : Int) : List TSight := (ss.drop (ss.length - (c.2.2.1.toNat + 1))).filter fun s => withinS now s.2.2 c.1
def apartR : TMac → List TSight → Bool
  | _, [] => false
  | f, s :: r => if s.2.1 = zMac then apartR f r else if f = zMac then apartR s.2.1 r else if f = s.2.1 then apartR f r else true
def foreignS (h : THold) (ss : List TSight) : Bool := ss.any fun s => (!(s.2.1 == zMac) && !(h.2.2 == zMac)) && !(s.2.1 == h.2.2)
theorem fresh_eq (c : TCfg) (hc : CfgR c) (ss : List TSight) (now : Int) (hl : ss.length ≤ 1000000) : status_fresh c ss now = some (freshS c ss now, ()) := by
  have hn := hc.need
  unfold status_fresh freshS
  have e1 : (if c.2.2.1 > 0 then c.2.2.1 else 0) = c.2.2.1 := if_pos (by omega)
  simp only [ltO_def]
  rw [e1, w64 (n := (ss.length : Int) - c.2.2.1) (by omega) (by omega), w64 (by omega) (by omega)]
  have e2 : (if (ss.length : Int) - c.2.2.1 - 1 > 0 then (ss.length : Int) - c.2.2.1 - 1 else 0) = ((ss.length - (c.2.2.1.toNat + 1) : Nat) : Int) := by split <;> omega
  rw [e2, chk_pos (by omega), Int.toNat_natCast, Int.toNat_natCast, slice_all]
  generalize hd : ss.drop (ss.length - (c.2.2.1.toNat + 1)) = l
  have hll : l.length ≤ 1000000 := by rw [← hd]; simp; omega
  have h := loop_fold (f := fun s : Int × (List TSight) × Int × Int × (List TSight) × TCfg × Unit => status_fresh_b0 s.1 s.2.1 s.2.2.1 s.2.2.2.1 s.2.2.2.2.1 s.2.2.2.2.2.1) l (fun (o : List TSight) s => if withinS now s.2.2 c.1 = true then o ++ [s] else o)
    (fun o k => (now, l, (l.length : Int), (k : Int), o, c, ())) (fun o => (.inl (o, ()) : ((List TSight) × Unit) ⊕ ((List TSight) × Unit))) (fun o k => o.length ≤ k) (fun k hk o hp => by
      show status_fresh_b0 now l (l.length : Int) (k : Int) o c = _
      unfold status_fresh_b0
      rw [decide_eq_true (by omega), cnd_true, chk_pos (by omega)]
      simp only [ltO_def, recD, getD_toNat, getD_hit l k _ hk, within_eq, bnd_val]
      rw [w64 (by omega) (by omega)]
      cases withinS now l[k].2.2 c.1 with
      | true => simp only [cnd_true, if_true]; rw [chk_pos (by show _ * _ ≤ _; simp; omega)]; rfl
      | false => rfl)
    (fun k hk o hp => by split <;> (try rw [List.length_append, List.length_singleton]) <;> omega) (fun o hp => by
      show status_fresh_b0 now l (l.length : Int) (l.length : Int) o c = _
      unfold status_fresh_b0
      rw [decide_eq_false (by omega)]; rfl) l.length 0 [] (by omega) (by simp)
  rw [List.drop_zero] at h
  have h' : status_fresh_l0 (now, l, (l.length : Int), (0 : Int), [], c, ()) = _ := h
  rw [h', bnd_val, sumO_inl]
  have hf : ∀ (l o : List TSight), l.foldl (fun (o : List TSight) s => if withinS now s.2.2 c.1 = true then o ++ [s] else o) o = o ++ l.filter fun s => withinS now s.2.2 c.1 := by
    intro l
    induction l with
    | nil => intro o; simp
    | cons x l ih =>
      intro o
      rw [List.foldl_cons, ih, List.filter_cons]
      split <;> simp
  rw [hf]; rfl
theorem apart_eq (ss : List TSight) (hl : ss.length ≤ 1000000) : status_apart ss = some (apartR zMac ss, ()) := by
  unfold status_apart
  have key : ∀ (m k : Nat) (f : TMac), k + m = ss.length → status_apart_l0 (ss, (ss.length : Int), (k : Int), f.1, f.2.1, f.2.2.1, f.2.2.2.1, f.2.2.2.2.1, f.2.2.2.2.2, ()) = some (if apartR f (ss.drop k) = true then .inr (true, ()) else .inl ()) := by
    intro m
    induction m with
    | zero =>
      intro k f hk
      unfold status_apart_l0
      rw [List.drop_of_length_le (by omega)]
      refine loopM_last ?_
      show status_apart_b0 ss (ss.length : Int) (k : Int) f.1 f.2.1 f.2.2.1 f.2.2.2.1 f.2.2.2.2.1 f.2.2.2.2.2 = _
      unfold status_apart_b0
      rw [decide_eq_false (by omega)]; rfl
    | succ m ih =>
      intro k f hk
      have hkl : k < ss.length := by omega
      rw [List.drop_eq_getElem_cons hkl]
      have hb : status_apart_b0 ss (ss.length : Int) (k : Int) f.1 f.2.1 f.2.2.1 f.2.2.2.1 f.2.2.2.2.1 f.2.2.2.2.2 = if ss[k].2.1 = zMac then some (.inl (ss, (ss.length : Int), ((k + 1 : Nat) : Int), f.1, f.2.1, f.2.2.1, f.2.2.2.1, f.2.2.2.2.1, f.2.2.2.2.2, ())) else if f = zMac then some (.inl (ss, (ss.length : Int), ((k + 1 : Nat) : Int), ss[k].2.1.1, ss[k].2.1.2.1, ss[k].2.1.2.2.1, ss[k].2.1.2.2.2.1, ss[k].2.1.2.2.2.2.1, ss[k].2.1.2.2.2.2.2, ())) else
          if f = ss[k].2.1 then some (.inl (ss, (ss.length : Int), ((k + 1 : Nat) : Int), f.1, f.2.1, f.2.2.1, f.2.2.2.1, f.2.2.2.2.1, f.2.2.2.2.2, ())) else some (.inr (.inr (true, ()))) := by
        unfold status_apart_b0
        rw [decide_eq_true (by omega), cnd_true, chk_pos (by omega)]
        simp only [ltO_def, recD, getD_toNat, getD_hit ss k _ hkl, none_eq, bnd_val, cnd_ite]
        rw [w64 (by omega) (by omega)]
        have ez : ((0, 0, 0, 0, 0, 0) : TMac) = zMac := rfl
        have ee : (f.1 == ss[k].2.1.1 && (f.2.1 == ss[k].2.1.2.1 && (f.2.2.1 == ss[k].2.1.2.2.1 && (f.2.2.2.1 == ss[k].2.1.2.2.2.1 && (f.2.2.2.2.1 == ss[k].2.1.2.2.2.2.1 && f.2.2.2.2.2 == ss[k].2.1.2.2.2.2.2))))) = (f == ss[k].2.1) := rfl
        have ef : (f.1, f.2.1, f.2.2.1, f.2.2.2.1, f.2.2.2.2.1, f.2.2.2.2.2) = f := rfl
        rw [ee]
        simp only [beq_iff_eq, ef]
        split
        · rfl
        · split
          · rfl
          · by_cases he : f = ss[k].2.1
            · simp [he]
            · simp [he]
      unfold status_apart_l0 at ih ⊢
      unfold apartR
      by_cases h1 : ss[k].2.1 = zMac
      · rw [if_pos h1] at hb
        rw [if_pos h1, loopM_next (s' := (ss, (ss.length : Int), ((k + 1 : Nat) : Int), f.1, f.2.1, f.2.2.1, f.2.2.2.1, f.2.2.2.2.1, f.2.2.2.2.2, ())) hb, ih (k + 1) f (by omega)]
      · rw [if_neg h1] at hb
        rw [if_neg h1]
        by_cases h2 : f = zMac
        · rw [if_pos h2] at hb
          rw [if_pos h2, loopM_next (s' := (ss, (ss.length : Int), ((k + 1 : Nat) : Int), ss[k].2.1.1, ss[k].2.1.2.1, ss[k].2.1.2.2.1, ss[k].2.1.2.2.2.1, ss[k].2.1.2.2.2.2.1, ss[k].2.1.2.2.2.2.2, ())) hb, ih (k + 1) _ (by omega)]
        · rw [if_neg h2] at hb
          rw [if_neg h2]
          by_cases h3 : f = ss[k].2.1
          · rw [if_pos h3] at hb
            rw [if_pos h3, loopM_next (s' := (ss, (ss.length : Int), ((k + 1 : Nat) : Int), f.1, f.2.1, f.2.2.1, f.2.2.2.1, f.2.2.2.2.1, f.2.2.2.2.2, ())) hb, ih (k + 1) f (by omega)]
          · rw [if_neg h3] at hb
            rw [if_neg h3, loopM_last (y := .inr (true, ())) hb]
            rfl
  have h0 := key ss.length 0 zMac (by omega)
  rw [List.drop_zero] at h0
  have e : ((0 : Nat) : Int) = 0 := rfl
  rw [e] at h0
  rw [h0]
  cases apartR zMac ss <;> rfl
theorem foreign_eq (h : THold) (ss : List TSight) (hl : ss.length ≤ 1000000) : status_foreign h ss = some (foreignS h ss, ()) := by
  unfold status_foreign foreignS
  have key : ∀ (m k : Nat), k + m = ss.length → status_foreign_l0 (ss, (ss.length : Int), (k : Int), h.1, h.2.1, h.2.2.1, h.2.2.2.1, h.2.2.2.2.1, h.2.2.2.2.2.1, h.2.2.2.2.2.2.1, h.2.2.2.2.2.2.2, ()) = some (if ((ss.drop k).any fun s => (!(s.2.1 == zMac) && !(h.2.2 == zMac)) && !(s.2.1 == h.2.2)) = true then .inr (true, ()) else .inl ()) := by
    intro m
    induction m with
    | zero =>
      intro k hk
      unfold status_foreign_l0
      rw [List.drop_of_length_le (by omega)]
      refine loopM_last ?_
      show status_foreign_b0 ss (ss.length : Int) (k : Int) h.1 h.2.1 h.2.2.1 h.2.2.2.1 h.2.2.2.2.1 h.2.2.2.2.2.1 h.2.2.2.2.2.2.1 h.2.2.2.2.2.2.2 = _
      unfold status_foreign_b0
      rw [decide_eq_false (by omega)]; rfl
    | succ m ih =>
      intro k hk
      have hkl : k < ss.length := by omega
      rw [List.drop_eq_getElem_cons hkl, List.any_cons]
      have hb : status_foreign_b0 ss (ss.length : Int) (k : Int) h.1 h.2.1 h.2.2.1 h.2.2.2.1 h.2.2.2.2.1 h.2.2.2.2.2.1 h.2.2.2.2.2.2.1 h.2.2.2.2.2.2.2 = cnd ((!(ss[k].2.1 == zMac) && !(h.2.2 == zMac)) && !(ss[k].2.1 == h.2.2)) (some (.inr (.inr (true, ())))) (some (.inl (ss, (ss.length : Int), ((k + 1 : Nat) : Int), h.1, h.2.1, h.2.2.1, h.2.2.2.1, h.2.2.2.2.1, h.2.2.2.2.2.1, h.2.2.2.2.2.2.1, h.2.2.2.2.2.2.2, ()))) := by
        unfold status_foreign_b0
        rw [decide_eq_true (by omega), cnd_true, chk_pos (by omega)]
        simp only [ltO_def, recD, getD_toNat, getD_hit ss k _ hkl, none_eq, bnd_val, chk_same, bndG_val]
        rw [w64 (by omega) (by omega)]; rfl
      unfold status_foreign_l0 at ih ⊢
      cases hv : (!(ss[k].2.1 == zMac) && !(h.2.2 == zMac)) && !(ss[k].2.1 == h.2.2) with
      | true =>
        rw [hv, cnd_true] at hb
        rw [loopM_last (y := .inr (true, ())) hb]
        rfl
      | false =>
        rw [hv, cnd_false] at hb
        rw [loopM_next (s' := (ss, (ss.length : Int), ((k + 1 : Nat) : Int), h.1, h.2.1, h.2.2.1, h.2.2.2.1, h.2.2.2.2.1, h.2.2.2.2.2.1, h.2.2.2.2.2.2.1, h.2.2.2.2.2.2.2, ())) hb, ih (k + 1) (by omega), Bool.false_or]
  have h0 := key ss.length 0 (by omega)
  rw [List.drop_zero] at h0
  have e : ((0 : Nat) : Int) = 0 := rfl
  rw [e] at h0
  rw [h0]
  cases ss.any fun s => (!(s.2.1 == zMac) && !(h.2.2 == zMac)) && !(s.2.1 == h.2.2) <;> rfl
def statusS (c : TCfg) (h : Option THold) (ss : List TSight) (now : Int) : Int :=
  if apartR zMac (freshS c ss now) = true then 5 else match h with
  | none => if 0 < (freshS c ss now).length then 4 else 0
  | some h => if foreignS h (freshS c ss now) = true then 4 else if c.2.2.1 ≤ ((freshS c ss now).length : Int) then 2 else
    if 0 < ss.length ∧ withinS now (lastT ss) c.2.1 = false then 3 else 1
theorem fresh_len (c : TCfg) (ss : List TSight) (now : Int) : (freshS c ss now).length ≤ ss.length := by
  unfold freshS
  exact Nat.le_trans (List.length_filter_le _ _) (by simp)
theorem status_some (c : TCfg) (hc : CfgR c) (h : THold) (ss : List TSight) (now : Int) (hl : ss.length ≤ 1000000) : status_Of c h ss now = some (statusS c (some h) ss now, ()) := by
  unfold status_Of statusS
  have hf := fresh_len c ss now
  rw [fresh_eq c hc ss now hl, bnd_val, apart_eq _ (by simp only; omega), bnd_val]
  cases apartR zMac (freshS c ss now) with
  | true => rfl
  | false =>
    simp only [cnd_false, ltO_def, chk_same, Bool.false_and, Bool.not_false, Bool.true_and, foreign_eq h (freshS c ss now) (by omega), bndG_val, Bool.false_eq_true, if_false]
    cases foreignS h (freshS c ss now) with
    | true => rfl
    | false =>
      simp only [cnd_false, Bool.false_eq_true, if_false]
      by_cases hn : c.2.2.1 ≤ ((freshS c ss now).length : Int)
      · rw [decide_eq_true (show ((freshS c ss now).length : Int) ≥ c.2.2.1 from hn), if_pos hn]; rfl
      · rw [decide_eq_false (show ¬ ((freshS c ss now).length : Int) ≥ c.2.2.1 from hn), if_neg hn, cnd_false]
        by_cases h0 : 0 < ss.length
        · have e2 : ((ss.length : Int) - 1).toNat = ss.length - 1 := by omega
          rw [decide_eq_true (show (ss.length : Int) > 0 by omega), w64 (by omega) (by omega), chk_pos (fun _ => by omega), within_eq, e2]
          simp only [recD, bndG_val, Bool.true_and]
          have e3 : (ss[ss.length - 1]?.getD zSight).2.2 = lastT ss := by unfold lastT; rw [List.getD_eq_getElem?_getD]
          rw [e3]
          cases withinS now (lastT ss) c.2.1 <;> simp [h0]
        · have h00 : ss.length = 0 := by omega
          rw [decide_eq_false (show ¬ (ss.length : Int) > 0 by omega), chk_pos (by intro h; simp at h)]
          simp [h0, bndG_false]
theorem status_none (c : TCfg) (hc : CfgR c) (ss : List TSight) (now : Int) (hl : ss.length ≤ 1000000) : status_Of_v1 c ss now = some (statusS c none ss now, ()) := by
  unfold status_Of_v1 statusS
  have hf := fresh_len c ss now
  rw [fresh_eq c hc ss now hl, bnd_val, apart_eq _ (by simp only; omega), bnd_val]
  cases apartR zMac (freshS c ss now) with
  | true => rfl
  | false =>
    simp only [cnd_false, ltO_def, chk_same, Bool.true_and, Bool.not_true, Bool.false_and, bndG_false, Bool.false_eq_true, if_false]
    by_cases h0 : 0 < (freshS c ss now).length
    · rw [decide_eq_true (show ((freshS c ss now).length : Int) > 0 by omega), if_pos h0]; rfl
    · rw [decide_eq_false (show ¬ ((freshS c ss now).length : Int) > 0 by omega), if_neg h0, cnd_false]
      simp
end Go.Tr
