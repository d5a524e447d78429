/- A call by a contract is right, wherever it is made. Loops by shapes of states. Rules for the words of which the printed functions are made: as equations, and as what must hold of a result. Numbers: what shifts and bits come to. Short names for the types of records, and for their zero values, as printed texts have them. What some functions of Go's library come to, of closed data, as optional values. Conditions: none but those that each theorem states. -/
import Derived.Test.YtdbpknejbpiebaaBD
import Derived.Test.YtdbpknejbpiebaaBA
import Derived.Lib.ItoaNum
import Derived.Lib.Join
import Derived.Lib.IndexMore
import Derived.Lib.SplitLaws
namespace Go.Tr
open Go
set_option linter.unusedVariables false
set_option linter.unusedSimpArgs false
theorem newR_spec : ∀ {ks : List Nat} {nm i n : Nat}, lkA (newR ks nm) i = some n → nm ≤ n ∧ n < nm + ks.length ∧ i ∈ ks
  | [], nm, i, n, h => by simp [newR, lkA] at h
  | k :: ks, nm, i, n, h => by
    simp only [newR, lkA] at h
    split at h
    · rename_i hb
      simp only [Option.some.injEq] at h
      subst h
      exact ⟨Nat.le_refl _, by simp, by simp [beq_true hb]⟩
    · obtain ⟨h1, h2, h3⟩ := newR_spec h
      exact ⟨by omega, by simp only [List.length_cons]; omega, by simp [h3]⟩
theorem newR_inj : ∀ {ks : List Nat} {nm i j n : Nat}, lkA (newR ks nm) i = some n → lkA (newR ks nm) j = some n → i = j
  | [], nm, i, j, n, h, _ => by simp [newR, lkA] at h
  | k :: ks, nm, i, j, n, h, g => by
    simp only [newR, lkA] at h g
    split at h <;> split at g
    · rename_i _ h1 _ h2
      rw [beq_true h1, beq_true h2]
    · simp only [Option.some.injEq] at h
      have := (newR_spec g).1
      omega
    · simp only [Option.some.injEq] at g
      have := (newR_spec h).1
      omega
    · exact newR_inj h g
theorem newR_mem : ∀ {ks : List Nat} {nm i : Nat}, i ∈ ks → ∃ n, lkA (newR ks nm) i = some n
  | [], nm, i, h => by simp at h
  | k :: ks, nm, i, h => by
    simp only [newR, lkA]
    split
    · exact ⟨nm, rfl⟩
    · rename_i hb
      rcases List.mem_cons.1 h with h | h
      · subst h; rw [beq_self] at hb; simp at hb
      · exact newR_mem h
theorem nwL_none {rn : List (Nat × Nat)} : ∀ {l : List (Nat × OD)} {i : Nat}, i ∈ nwL rn l → lkA rn i = none
  | [], i, h => by simp [nwL] at h
  | (j, d) :: l, i, h => by
    simp only [nwL] at h
    split at h
    · exact nwL_none h
    · rename_i hn
      rcases List.mem_cons.1 h with h | h
      · subst h; exact hn
      · exact nwL_none h
theorem nwL_mem {rn : List (Nat × Nat)} : ∀ {l : List (Nat × OD)} {i : Nat}, domO l i = true → lkA rn i = none → i ∈ nwL rn l
  | [], i, h, _ => by simp [domO] at h
  | (j, d) :: l, i, h, hn => by
    simp only [domO] at h
    simp only [nwL]
    split at h
    · rename_i hb
      have := beq_true hb
      subst this
      simp [hn]
    · have := nwL_mem h hn
      split
      · exact this
      · exact List.mem_cons_of_mem _ this
theorem keysIn_spec {p : List (Nat × OD)} : ∀ {rn : List (Nat × Nat)}, keysIn p rn = true → ∀ {i n : Nat}, lkA rn i = some n → domO p i = true
  | [], _, i, n, h => by simp [lkA] at h
  | (j, m) :: r, h, i, n, hi => by
    simp only [keysIn, Bool.and_eq_true] at h
    simp only [lkA] at hi
    split at hi
    · rename_i hb; rw [beq_true hb]; exact h.1
    · exact keysIn_spec h.2 hi
theorem domO_lt : ∀ {l : List (Nat × OD)} {N i : Nat}, obOkN N l = true → domO l i = true → i < N
  | [], N, i, _, h => by simp [domO] at h
  | (j, d) :: l, N, i, ho, hi => by
    simp only [obOkN, Bool.and_eq_true] at ho
    simp only [domO] at hi
    split at hi
    · rename_i hb; rw [beq_true hb]; exact Nat.le_of_ble_eq_true ho.1.1
    · exact domO_lt ho.2 hi
theorem updDrop_spec {rn : List (Nat × Nat)} {rob : List (Nat × OD)} : ∀ {l : List (Nat × OD)} {n : Nat} {r : Option AO}, (n, r) ∈ updDrop rn rob l → r = none ∧ ∃ i, domO rob i = false ∧ lkA rn i = some n
  | [], n, r, h => by simp [updDrop] at h
  | (i, d) :: l, n, r, h => by
    simp only [updDrop] at h
    split at h
    · exact updDrop_spec h
    · rename_i hd
      split at h
      · rename_i m hm
        rcases List.mem_cons.1 h with h | h
        · simp only [Prod.mk.injEq] at h
          obtain ⟨rfl, rfl⟩ := h
          exact ⟨rfl, i, hd, hm⟩
        · exact updDrop_spec h
      · exact updDrop_spec h
theorem updDrop_mem {rn : List (Nat × Nat)} {rob : List (Nat × OD)} : ∀ {l : List (Nat × OD)} {i n : Nat}, domO l i = true → domO rob i = false → lkA rn i = some n → (n, none) ∈ updDrop rn rob l
  | [], i, n, h, _, _ => by simp [domO] at h
  | (j, d) :: l, i, n, h, hr, hn => by
    simp only [domO] at h
    simp only [updDrop]
    split at h
    · rename_i hb
      have := beq_true hb
      subst this
      simp only [hr, hn]
      exact List.mem_cons_self
    · have := updDrop_mem h hr hn
      split
      · exact this
      · split
        · exact List.mem_cons_of_mem _ this
        · exact this
theorem updFz_spec {rn : List (Nat × Nat)} {ob : Nat → Option AO} : ∀ {l : List Nat} {n : Nat} {r : Option AO}, (n, r) ∈ updFz rn ob l → keptB n rn = false ∧ memN n l = true ∧ ((∃ e xs, ob n = some (.rows e xs) ∧ r = some (.frz e xs)) ∨ ∃ m, ob n = some (.cells m) ∧ r = some (.fcl m))
  | [], n, r, h => by simp [updFz] at h
  | k :: l, n, r, h => by
    simp only [updFz] at h
    have up : (n, r) ∈ updFz rn ob l → keptB n rn = false ∧ memN n (k :: l) = true ∧ ((∃ e xs, ob n = some (.rows e xs) ∧ r = some (.frz e xs)) ∨ ∃ m, ob n = some (.cells m) ∧ r = some (.fcl m)) := by
      intro h
      obtain ⟨h1, h2, h3⟩ := updFz_spec h
      exact ⟨h1, by simp only [memN]; split <;> first | rfl | exact h2, h3⟩
    split at h
    · exact up h
    · rename_i hk
      split at h
      · rename_i e xs hob
        rcases List.mem_cons.1 h with h | h
        · simp only [Prod.mk.injEq] at h
          obtain ⟨rfl, rfl⟩ := h
          exact ⟨hk, by simp [memN, beq_self], .inl ⟨e, xs, hob, rfl⟩⟩
        · exact up h
      · rename_i m hob
        rcases List.mem_cons.1 h with h | h
        · simp only [Prod.mk.injEq] at h
          obtain ⟨rfl, rfl⟩ := h
          exact ⟨hk, by simp [memN, beq_self], .inr ⟨m, hob, rfl⟩⟩
        · exact up h
      · exact up h
theorem updFz_mem {rn : List (Nat × Nat)} {ob : Nat → Option AO} {n : Nat} (hk : keptB n rn = false) (ho : (∃ e xs, ob n = some (.rows e xs)) ∨ ∃ m, ob n = some (.cells m)) : ∀ {l : List Nat}, memN n l = true → ∃ r, (n, r) ∈ updFz rn ob l
  | [], h => by simp [memN] at h
  | k :: l, h => by
    simp only [memN] at h
    simp only [updFz]
    split at h
    · rename_i hb
      have := beq_true hb
      subst this
      simp only [hk]
      rcases ho with ⟨e, xs, ho⟩ | ⟨m, ho⟩
      · simp only [ho]; exact ⟨_, List.mem_cons_self⟩
      · simp only [ho]; exact ⟨_, List.mem_cons_self⟩
    · obtain ⟨r, hr⟩ := updFz_mem hk ho h
      split
      · exact ⟨r, hr⟩
      · split
        · exact ⟨r, List.mem_cons_of_mem _ hr⟩
        · exact ⟨r, List.mem_cons_of_mem _ hr⟩
        · exact ⟨r, hr⟩
theorem lkA_of_mem {α : Type} {l : List (Nat × α)} {n : Nat} {x : α} (h : (n, x) ∈ l) : ∃ y, lkA l n = some y := by
  induction l with
  | nil => simp at h
  | cons p r ih =>
    obtain ⟨m, z⟩ := p
    simp only [lkA]
    split
    · exact ⟨z, rfl⟩
    · rename_i hb
      rcases List.mem_cons.1 h with h | h
      · simp only [Prod.mk.injEq] at h
        obtain ⟨rfl, rfl⟩ := h
        rw [beq_self] at hb; simp at hb
      · exact ih h
theorem updRob_mem {f : Nat → Nat} : ∀ {l : Upd} {i : Nat} {o : Option AO}, (i, o) ∈ l → ∃ r, (f i, r) ∈ updRob f l
  | [], i, o, h => by simp at h
  | (j, p) :: l, i, o, h => by
    simp only [updRob]
    rcases List.mem_cons.1 h with h | h
    · simp only [Prod.mk.injEq] at h
      obtain ⟨rfl, rfl⟩ := h
      exact ⟨_, List.mem_cons_self⟩
    · obtain ⟨r, hr⟩ := updRob_mem (f := f) h
      exact ⟨r, List.mem_cons_of_mem _ hr⟩
open Classical in
noncomputable def backE (E E2 : Env) (nr rn : List (Nat × Nat)) (isFz : Nat → Prop) : Env :=
  ⟨E2.w, fun n => if h : ∃ i, lkA nr i = some n then E2.mu h.choose else if h : ∃ i, lkA rn i = some n then E2.mu h.choose else if isFz n then (E.mu n).map (fun L => { L with own := false }) else E.mu n,
   fun b => E.ok b ∨ (E2.ok b ∧ ¬ ∃ n, owns E n b ∧ ¬ (∃ i, lkA rn i = some n) ∧ ¬ isFz n)⟩
theorem coE_ok {P : Program} [Tabs P] {e : Ent} (he : e.OK P) {args : List AV} {ob : Nat → Option AO} {nm : Nat} {R : CallR} {full : Bool} (h : coE std full e args ob nm = some R) (hv : R.val.isSome = true) :
    CallOK P e.F args ob nm (R.res (R.val.getD R.dflt)) (R.upd (R.val.getD R.dflt)) := by
  refine ⟨he.fn.1, fun W0 okIn B us E vs hT henv hlo hn4 hobj hdom hvs hn => ?_⟩
  have hnm : ¬ us nm := hn4 nm (Nat.le_refl _) (by omega)
  have hst := he.st
  simp only [Ent.st, Bool.and_eq_true, Bool.or_eq_true] at hst
  obtain ⟨hwf, hrf⟩ := hst
  simp only [FD.wf, Bool.and_eq_true] at hwf
  obtain ⟨⟨⟨⟨⟨⟨⟨⟨w1, w2⟩, w3⟩, w4⟩, w5⟩, w6⟩, w7⟩, w8⟩, w9⟩ := hwf
  unfold coE at h
  split at h
  · simp at h
  rename_i hlen
  rw [frcR_eq] at h
  generalize obUni (obR full args ob) e.D.pob (tmUni (nth args) e.D.par []) = rn at h
  rw [frcR_eq] at h
  generalize hnrg : newR (nwL rn e.D.rob) nm = nr at h
  split at h
  case h_2 => simp at h
  rename_i hinj hkeys hlen16
  split at h
  case h_2 => simp at h
  rename_i q x hdec
  simp only [Option.some.injEq] at h
  subst h
  simp only at hv ⊢
  obtain ⟨y, hy⟩ := Option.isSome_iff_exists.1 hv
  obtain ⟨hq, hfx⟩ := chks_some hy
  simp only [hy, Option.getD_some]
  have hlen' : args.length = e.D.par.length := by have := beq_true hlen; rwa [lenA_eq, lenA_eq] at this
  -- the objects that the call sees
  have hobs : ObS E us (obR full args ob) := ⟨fun n o ho => hobj n o (obR_some ho)⟩
  generalize hfz : fzL e.fz (obR full args ob) args = fz at hdec
  obtain ⟨q0, y0, g1, g2, g3, g4⟩ := tm_sound (fz := fz) (dom := domO e.D.pob) hobs (val := fun t => vs.getD t undef) (fun t v ht => by
    rw [nth_eq] at ht
    obtain ⟨u, h1, h2⟩ := hvs.get ht
    simp only [List.getD_eq_getElem?_getD, h1, Option.getD_some]
    exact h2) hdec hq
  obtain ⟨q1, y1, k1, k2, k3, k4, -, k6⟩ := ob_sound (fz := fz) (dom := domO e.D.pob) hobs g1 g2 (fun _ h => h)
  have kpo : ∀ {i n : Nat}, lkA rn i = some n → us n ∧ ∃ o, ob n = some o := by
    intro i n hi
    obtain ⟨o, ho⟩ := k6 i (keysIn_spec hkeys hi) n hi
    exact ⟨(hobs.obj n o ho).2.2, o, obR_some ho⟩
  have hle16 : (nwL rn e.D.rob).length ≤ 16 := by have := Nat.le_of_ble_eq_true hlen16; rwa [lenA_eq] at this
  have nus : ∀ {i n : Nat}, lkA nr i = some n → ¬ us n := fun hi => by
    rw [← hnrg] at hi
    obtain ⟨a1, a2, _⟩ := newR_spec hi
    exact hn4 _ a1 (by omega)
  have nin : ∀ {i n : Nat}, lkA nr i = some n → usn us nm n := fun hi => by
    rw [← hnrg] at hi
    obtain ⟨a1, a2, _⟩ := newR_spec hi
    exact .inr ⟨a1, by omega⟩
  have ninj : ∀ {i j n : Nat}, lkA nr i = some n → lkA nr j = some n → i = j := fun hi hj => by
    rw [← hnrg] at hi hj
    exact newR_inj hi hj
  have hk0 : ∀ {i n m : Nat}, lkA rn i = some n → lkA nr i = some m → False := fun hi hm => by
    rw [← hnrg] at hm
    rw [nwL_none (newR_spec hm).2.2] at hi
    simp at hi
  have hcov : ∀ {i : Nat}, domO e.D.rob i = true → (∃ n, lkA nr i = some n) ∨ ∃ n, lkA rn i = some n := fun {i} hi => by
    cases hh : lkA rn i with
    | some n => exact .inr ⟨n, rfl⟩
    | none => rw [← hnrg]; exact .inl (newR_mem (nwL_mem hi hh))
  have kne : ∀ {i n : Nat}, lkA rn i = some n → ¬ ∃ j, lkA nr j = some n := fun hi ⟨j, hj⟩ => nus hj (kpo hi).1
  have klt : ∀ {i n : Nat}, lkA rn i = some n → i < 16 := fun hi => domO_lt w4 (keysIn_spec hkeys hi)
  have hmn : ∀ {i n : Nat}, lkA nr i = some n → E.mu n = none := by
    intro i n hi
    cases hh : E.mu n with
    | none => rfl
    | some L =>
      obtain ⟨o, ho⟩ := hdom n L hh
      exact absurd (hobj n o ho).2.2 (nus hi)
  -- the contract
  have hEc : ∀ {n b : Nat}, owns (convE E fz rn (domO e.D.pob)) n b → ∃ m, lkA rn n = some m ∧ owns E m b := fun h => convE_own h
  have hcall := he.fn.2 x y hfx ⟨E.w, (convE E fz rn (domO e.D.pob)).mu⟩ (convE E fz rn (domO e.D.pob)) vs rfl
    (by
      refine Tabs.mono _ _ _ _ (fun b hb => ⟨⟨Nat.lt_of_lt_of_le hb.1 henv.sz, fun n hn => ?_⟩, henv.fr b hb.1 hb.2⟩) hT
      obtain ⟨n', a1, a2⟩ := hEc hn
      exact hb.2 (henv.own n' b a2).1)
    (fun n m b h1 h2 => by
      obtain ⟨n', a1, a2⟩ := hEc h1
      obtain ⟨m', b1, b2⟩ := hEc h2
      have := henv.inj n' m' b a2 b2
      subst this
      exact injR_spec hinj a1 b1)
    (fun n b h1 => by
      obtain ⟨n', a1, a2⟩ := hEc h1
      obtain ⟨c1, c2, c3⟩ := henv.own n' b a2
      refine ⟨c2, ?_⟩
      rintro (hk | ⟨m, hm, hk, _⟩)
      · exact c3 hk
      · rw [henv.inj m n' b hm a2, keptB_of a1] at hk; simp at hk)
    (fun b hb => by
      rcases hb with hb | ⟨n, hn, _, _⟩
      · exact (henv.okl b hb).1
      · exact (henv.own n b hn).2.1)
    (fun n L hL => ⟨hL, by
      simp only [convE] at hL
      split at hL
      · assumption
      · simp at hL⟩)
    (by rw [g3]; exact k4)
    (VRL.of_get (by rw [tmVs_len, hvs.length, hlen']) fun i v hi => by
      have hlt : i < vs.length := by
        rcases Nat.lt_or_ge i (tmVs e.D.par x).length with hh | hh
        · rw [tmVs_len] at hh; rw [hvs.length]; omega
        · rw [List.getElem?_eq_none hh] at hi; simp at hi
      refine ⟨vs[i], by simp [hlt], ?_⟩
      simp only [tmVs, List.getElem?_map, Option.map_eq_some_iff] at hi
      obtain ⟨⟨t, v'⟩, hm, rfl⟩ := hi
      have hmem := List.mem_of_getElem? hm
      have hv1 := g4 _ hmem
      have hkey : ∀ {l : List (Nat × VD)} {R : Type} {x : tmTo l R} {j i : Nat} {p : Nat × AV}, keysF j l = true → (tmEnc l x).1[i]? = some p → p.1 = j + i := by
        intro l
        induction l with
        | nil => intro R x j i p _ hp; simp [tmEnc] at hp
        | cons a l ih =>
          obtain ⟨k, d⟩ := a
          intro R x j i p hk hp
          simp only [keysF, Bool.and_eq_true] at hk
          simp only [tmEnc] at hp
          cases i with
          | zero => simp only [List.getElem?_cons_zero, Option.some.injEq] at hp; subst hp; exact beq_true hk.1
          | succ i => simp only [List.getElem?_cons_succ] at hp; have := ih hk.2 hp; omega
      have hti : t = i := by simpa using hkey w1 hm
      subst hti
      simpa [hlt] using hv1)
  refine Calls.mono hcall fun en w' hres => ?_
  obtain ⟨z, E2, rfl, rfl, hz, hob2, hdom2, env2⟩ := hres
  obtain ⟨isFz, hisFz⟩ : ∃ isFz : Nat → Prop, isFz = fun n => e.fz = true ∧ keptB n rn = false ∧ memN n (argNames args) = true ∧ ((∃ e' xs, obR full args ob n = some (.rows e' xs)) ∨ ∃ m, obR full args ob n = some (.cells m)) := ⟨_, rfl⟩
  have stf : ∀ {n : Nat}, isFz n → ¬ ∃ i, lkA rn i = some n := by
    rintro n hf ⟨i, hi⟩
    rw [hisFz] at hf
    rw [keptB_of hi] at hf; simp at hf
  have usf : ∀ {n : Nat}, isFz n → us n := by
    intro n hf
    rw [hisFz] at hf
    rcases hf.2.2.2 with ⟨e', xs, ho⟩ | ⟨m, ho⟩
    · exact (hobs.obj n _ ho).2.2
    · exact (hobs.obj n _ ho).2.2
  -- what is owned behind the call
  let E' := backE E E2 nr rn isFz
  have mu_nm : ∀ {i n : Nat}, lkA nr i = some n → E'.mu n = E2.mu i := by
    intro i n hi
    have hex : ∃ i, lkA nr i = some n := ⟨i, hi⟩
    simp only [E', backE]
    rw [dif_pos hex, ninj hex.choose_spec hi]
  have mu_k : ∀ {i n : Nat}, lkA rn i = some n → E'.mu n = E2.mu i := by
    intro i n hi
    have hex : ∃ i, lkA rn i = some n := ⟨i, hi⟩
    simp only [E', backE]
    rw [dif_neg (kne hi), dif_pos hex, injR_spec hinj hex.choose_spec hi]
  have mu_f : ∀ {n : Nat}, (¬ ∃ i, lkA nr i = some n) → (¬ ∃ i, lkA rn i = some n) → isFz n → E'.mu n = (E.mu n).map (fun L => { L with own := false }) := by
    intro n h1 h2 h3
    simp only [E', backE]
    rw [dif_neg h1, dif_neg h2, if_pos h3]
  have mu_o : ∀ {n : Nat}, (¬ ∃ i, lkA nr i = some n) → (¬ ∃ i, lkA rn i = some n) → ¬ isFz n → E'.mu n = E.mu n := by
    intro n h1 h2 h3
    simp only [E', backE]
    rw [dif_neg h1, dif_neg h2, if_neg h3]
  have Bc : ∀ {i b : Nat}, owns E2 i b → ((∃ j n, lkA rn j = some n ∧ owns E n b) ∨ E.w.heap.size ≤ b) ∧ b < E2.w.heap.size ∧ ¬ E2.ok b := by
    intro i b hi
    obtain ⟨c1, c2, c3⟩ := env2.own i b hi
    refine ⟨?_, c2, c3⟩
    rcases c1 with ⟨j, hj⟩ | c1
    · obtain ⟨n, a1, a2⟩ := hEc hj
      exact .inl ⟨j, n, a1, a2⟩
    · exact .inr c1
  have notB : ∀ {b : Nat}, b < E.w.heap.size → (∀ n, owns E n b → ¬ ∃ i, lkA rn i = some n) → E2.w.heap[b]? = E.w.heap[b]? := by
    intro b hb hno
    refine env2.fr b hb ?_
    rintro (⟨j, hj⟩ | hB)
    · obtain ⟨n, a1, a2⟩ := hEc hj
      exact hno n a2 ⟨j, a1⟩
    · exact absurd hB (Nat.not_le.2 hb)
  have hsz : E.w.heap.size ≤ E2.w.heap.size := env2.sz
  have eqw : E'.w = E2.w := rfl
  have hown' : ∀ {n b : Nat}, owns E' n b → (∃ i, lkA nr i = some n ∧ owns E2 i b) ∨ (∃ i, lkA rn i = some n ∧ owns E2 i b) ∨ ((¬ ∃ i, lkA nr i = some n) ∧ (¬ ∃ i, lkA rn i = some n) ∧ ¬ isFz n ∧ owns E n b) := by
    rintro n b ⟨L, h1, h2, h3⟩
    by_cases hn1 : ∃ i, lkA nr i = some n
    · obtain ⟨i, hi⟩ := hn1
      rw [mu_nm hi] at h1
      exact .inl ⟨i, hi, L, h1, h2, h3⟩
    · by_cases hn2 : ∃ i, lkA rn i = some n
      · obtain ⟨i, hi⟩ := hn2
        rw [mu_k hi] at h1
        exact .inr (.inl ⟨i, hi, L, h1, h2, h3⟩)
      · by_cases hn3 : isFz n
        · rw [mu_f hn1 hn2 hn3] at h1
          simp only [Option.map_eq_some_iff] at h1
          obtain ⟨L', _, rfl⟩ := h1
          simp at h2
        · rw [mu_o hn1 hn2 hn3] at h1
          exact .inr (.inr ⟨hn1, hn2, hn3, L, h1, h2, h3⟩)
  have kp_own : ∀ {n b : Nat}, (¬ ∃ i, lkA rn i = some n) → owns E n b → ¬ ((∃ j n, lkA rn j = some n ∧ owns E n b) ∨ E.w.heap.size ≤ b) := by
    intro n b hk hn hh
    rcases hh with ⟨j, m, hm, hm2⟩ | hh
    · rw [henv.inj m n b hm2 hn] at hm
      exact hk ⟨j, hm⟩
    · exact absurd hh (Nat.not_le.2 (henv.own n b hn).2.1)
  have hE2own : ∀ {i b : Nat}, owns E2 i b → ¬ E'.ok b ∧ B b ∧ b < E'.w.heap.size := by
    intro i b hi
    obtain ⟨c1, c2, c3⟩ := Bc hi
    refine ⟨?_, ?_, c2⟩
    · rintro (hk | ⟨hk, _⟩)
      · rcases c1 with ⟨j, n, a1, a2⟩ | c1
        · exact (henv.own n b a2).2.2 hk
        · exact absurd c1 (Nat.not_le.2 (henv.okl b hk).1)
      · exact c3 hk
    · rcases c1 with ⟨j, n, a1, a2⟩ | c1
      · exact (henv.own n b a2).1
      · exact henv.new b (Nat.le_trans henv.sz c1)
  have env' : EnvOk W0 okIn B E' := by
    refine ⟨?_, ?_, ?_, fun b hb => .inl (henv.oki b hb), ?_, Nat.le_trans henv.sz hsz, henv.new, env2.os.trans henv.os, env2.tape.trans henv.tape, env2.output.trans henv.output, ?_⟩
    · intro n m b h1 h2
      rcases hown' h1 with ⟨i, a1, a2⟩ | ⟨i, a1, a2⟩ | ⟨a1, a2, a3, a4⟩ <;> rcases hown' h2 with ⟨j, b1, b2⟩ | ⟨j, b1, b2⟩ | ⟨b1, b2, b3, b4⟩
      · have := env2.inj _ _ b a2 b2
        subst this
        rw [a1] at b1; exact Option.some.inj b1
      · have := env2.inj _ _ b a2 b2
        subst this
        exact (hk0 b1 a1).elim
      · exact absurd (Bc a2).1 (kp_own b2 b4)
      · have := env2.inj _ _ b a2 b2
        subst this
        exact (hk0 a1 b1).elim
      · have := env2.inj _ _ b a2 b2
        subst this
        rw [a1] at b1; exact Option.some.inj b1
      · exact absurd (Bc a2).1 (kp_own b2 b4)
      · exact absurd (Bc b2).1 (kp_own a2 a4)
      · exact absurd (Bc b2).1 (kp_own a2 a4)
      · exact henv.inj n m b a4 b4
    · intro n b h1
      rcases hown' h1 with ⟨i, a1, a2⟩ | ⟨i, a1, a2⟩ | ⟨a1, a2, a3, a4⟩
      · have := hE2own a2; exact ⟨this.2.1, this.2.2, this.1⟩
      · have := hE2own a2; exact ⟨this.2.1, this.2.2, this.1⟩
      · obtain ⟨c1, c2, c3⟩ := henv.own n b a4
        refine ⟨c1, Nat.lt_of_lt_of_le c2 hsz, ?_⟩
        rintro (hk | ⟨_, hk⟩)
        · exact c3 hk
        · exact hk ⟨n, a4, a2, a3⟩
    · rintro b (hb | ⟨hb, _⟩)
      · have := henv.okl b hb
        exact ⟨Nat.lt_of_lt_of_le this.1 hsz, this.2⟩
      · obtain ⟨c1, c2⟩ := env2.okl b hb
        refine ⟨c1, ?_⟩
        rcases c2 with (c2 | ⟨n, c2, _, _⟩) | ⟨j, c2⟩ | c2
        · exact (henv.okl b c2).2
        · exact .inr (henv.own n b c2).1
        · obtain ⟨n, a1, a2⟩ := hEc c2
          exact .inr (henv.own n b a2).1
        · exact .inr (henv.new b (Nat.le_trans henv.sz c2))
    · intro b hb hB
      show E2.w.heap[b]? = _
      rw [notB (Nat.lt_of_lt_of_le hb henv.sz) fun n hn => absurd (henv.own n b hn).1 hB]
      exact henv.fr b hb hB
    · intro n L hL hn16
      have hn1 : ¬ ∃ i, lkA nr i = some n := fun ⟨i, hi⟩ => nus hi (hlo n hn16)
      by_cases hn2 : ∃ i, lkA rn i = some n
      · obtain ⟨i, hi⟩ := hn2
        rw [mu_k hi] at hL
        obtain ⟨L0, c1, c2, c3, c4⟩ := env2.li i L hL (klt hi)
        simp only [convE] at c1
        split at c1
        · rw [hi] at c1
          obtain ⟨L1, d1, d2, d3, d4⟩ := henv.li n L0 c1 hn16
          exact ⟨L1, d1, d2.trans c2, d3.trans c3, d4.trans c4⟩
        · simp at c1
      · by_cases hn3 : isFz n
        · rw [mu_f hn1 hn2 hn3] at hL
          simp only [Option.map_eq_some_iff] at hL
          obtain ⟨L', c1, rfl⟩ := hL
          exact henv.li n L' c1 hn16
        · rw [mu_o hn1 hn2 hn3] at hL
          exact henv.li n L hL hn16
  -- what may be referred to
  have hok2 : e.fz = true → ∀ b, E2.ok b → E'.ok b := by
    intro hf b hb
    refine .inr ⟨hb, ?_⟩
    rintro ⟨n, hn, hk, hnf⟩
    rcases (env2.okl b hb).2 with (c | ⟨m, c, ck, cz⟩) | ⟨j, c⟩ | c
    · exact (henv.own n b hn).2.2 c
    · have := henv.inj m n b c hn
      subst this
      rw [← hfz, hf] at cz
      simp only [fzL, fzOk, argF_iff, Bool.and_eq_true] at cz
      obtain ⟨cz, cm⟩ := cz
      apply hnf
      rw [hisFz]
      refine ⟨hf, ck, cz, ?_⟩
      obtain ⟨L, l1, l2, l3⟩ := c
      obtain ⟨o, ho⟩ := hdom m L l1
      have hor : obR full args ob m = some o := by rw [obR_has (arg_has cz)]; exact ho
      have hO := (hobj m o ho).1
      cases o with
      | rows e' xs => exact .inl ⟨e', xs, hor⟩
      | cells l => exact .inr ⟨l, hor⟩
      | frz e' xs =>
        obtain ⟨L', p1, _, p2, _⟩ := hO
        rw [l1] at p1; cases p1
        rw [l2] at p2; simp at p2
      | fcl l =>
        obtain ⟨b', cs, T, fr, p1, _⟩ := hO
        rw [l1] at p1; cases p1
        simp at l2
      | mp k e xs => rw [hor] at cm; simp [isMp] at cm
    · exact absurd (.inl (by obtain ⟨n', a1, a2⟩ := hEc c; exact ⟨j, n', a1, a2⟩)) (kp_own hk hn)
    · exact absurd (.inr c) (kp_own hk hn)
  have re_n : ∀ {i n : Nat}, lkA nr i = some n → reF nr rn nm i = n := fun hi => by unfold reF; simp only [hi]
  have re_k : ∀ {i n : Nat}, lkA rn i = some n → reF nr rn nm i = n := fun {i n} hi => by
    unfold reF
    cases hh : lkA nr i with
    | some m => exact (hk0 hi hh).elim
    | none => simp only [hi]
  have mv : Moves E2 E' (reF nr rn nm) e.D.rob (e.fz = true) := by
    refine ⟨rfl, fun i hi => ?_, hok2⟩
    rcases hcov hi with ⟨n, hn⟩ | ⟨n, hn⟩
    · rw [re_n hn]; exact mu_nm hn
    · rw [re_k hn]; exact mu_k hn
  have hnames : ∀ j, domO e.D.rob j = true → usn us nm (reF nr rn nm j) := by
    intro j hj
    rcases hcov hj with ⟨n, hn⟩ | ⟨n, hn⟩
    · rw [re_n hn]; exact nin hn
    · rw [re_k hn]; exact .inl (kpo hn).1
  have hres2 : tmNoref e.D.res = true ∨ e.fz = true := hrf.symm.imp_left And.left
  have hrob2 : obNoref e.D.rob = true ∨ e.fz = true := hrf.symm.imp_left And.right
  have hobsr := obs_re mv (l := e.D.rob) (fun _ h => h) w8 hrob2 hob2
  refine ⟨E', z, rfl, rfl, ?_, ?_, ?_⟩
  · -- the step
    generalize hu : appA (updRob (reF nr rn nm) (obEnc e.D.rob (tmEnc e.D.res y).2).1) (appA (updDrop rn e.D.rob e.D.pob) (match e.fz with
            | true => updFz rn (obR full args ob) (argNames args)
            | false => [])) = u
    have hmem : ∀ {n : Nat} {r : Option AO}, (n, r) ∈ u → (n, r) ∈ updRob (reF nr rn nm) (obEnc e.D.rob (tmEnc e.D.res y).2).1 ∨ (n, r) ∈ updDrop rn e.D.rob e.D.pob ∨ (e.fz = true ∧ (n, r) ∈ updFz rn (obR full args ob) (argNames args)) := by
      intro n r hm
      rw [← hu, appA_eq, appA_eq] at hm
      rcases List.mem_append.1 hm with hm | hm
      · exact .inl hm
      · rcases List.mem_append.1 hm with hm | hm
        · exact .inr (.inl hm)
        · refine .inr (.inr ?_)
          split at hm
          · rename_i hf; exact ⟨hf, hm⟩
          · simp at hm
    have hin1 : ∀ {n : Nat} {r : Option AO}, (n, r) ∈ updRob (reF nr rn nm) (obEnc e.D.rob (tmEnc e.D.res y).2).1 → ∃ r', lkA u n = some r' := by
      intro n r hm; rw [← hu, appA_eq]; exact lkA_of_mem (List.mem_append_left _ hm)
    have hin2 : ∀ {n : Nat} {r : Option AO}, (n, r) ∈ updDrop rn e.D.rob e.D.pob → ∃ r', lkA u n = some r' := by
      intro n r hm; rw [← hu, appA_eq, appA_eq]; exact lkA_of_mem (List.mem_append_right _ (List.mem_append_left _ hm))
    have hin3 : ∀ {n : Nat}, isFz n → ∃ r', lkA u n = some r' := by
      intro n hf
      have hf' := hf
      rw [hisFz] at hf'
      obtain ⟨r, hr⟩ := updFz_mem hf'.2.1 hf'.2.2.2 hf'.2.2.1
      rw [← hu, appA_eq, appA_eq, hf'.1]
      exact lkA_of_mem (List.mem_append_right _ (List.mem_append_right _ hr))
    have hrobmem : ∀ {i : Nat}, domO e.D.rob i = true → ∃ r', lkA u (reF nr rn nm i) = some r' := by
      intro i hi
      have hkey : ∀ {l : List (Nat × OD)} {x : obTo l Unit}, domO l i = true → ∃ o, (i, o) ∈ (obEnc l x).1 := by
        intro l
        induction l with
        | nil => intro x h; simp [domO] at h
        | cons a l ih =>
          obtain ⟨j, d⟩ := a
          intro x h
          simp only [domO] at h
          simp only [obEnc]
          split at h
          · rename_i hb; rw [beq_true hb]; exact ⟨_, List.mem_cons_self⟩
          · obtain ⟨o, ho⟩ := ih (x := (d.enc x).2) h
            exact ⟨o, List.mem_cons_of_mem _ ho⟩
      obtain ⟨o, ho⟩ := hkey (x := (tmEnc e.D.res y).2) hi
      obtain ⟨r, hr⟩ := updRob_mem (f := reF nr rn nm) ho
      exact hin1 hr
    have hnone : ∀ {n : Nat}, lkA u n = none → E'.mu n = E.mu n := by
      intro n hnu
      by_cases hn1 : ∃ i, lkA nr i = some n
      · obtain ⟨i, hi⟩ := hn1
        rw [mu_nm hi, hmn hi]
        cases h2 : E2.mu i with
        | none => rfl
        | some L =>
          obtain ⟨r, hr⟩ := hrobmem (hdom2 i L h2)
          rw [re_n hi, hnu] at hr; simp at hr
      · by_cases hn2 : ∃ i, lkA rn i = some n
        · obtain ⟨i, hi⟩ := hn2
          have h16 := klt hi
          cases hd : domO e.D.rob i with
          | true =>
            obtain ⟨r, hr⟩ := hrobmem hd
            rw [re_k hi, hnu] at hr; simp at hr
          | false =>
            obtain ⟨r, hr⟩ := hin2 (updDrop_mem (keysIn_spec hkeys hi) hd hi)
            rw [hnu] at hr; simp at hr
        · by_cases hn3 : isFz n
          · obtain ⟨r, hr⟩ := hin3 hn3
            rw [hnu] at hr; simp at hr
          · exact mu_o hn1 hn2 hn3
    refine ⟨fun n h => .inl h, fun n h => hnone h, ?_, ?_, ?_, ?_, fun b hb => Or.inl hb, env'⟩
    · intro n hun L' hL'
      have hn1 : ¬ ∃ i, lkA nr i = some n := fun ⟨i, hi⟩ => nus hi hun
      by_cases hn2 : ∃ i, lkA rn i = some n
      · obtain ⟨i, hi⟩ := hn2
        rw [mu_k hi] at hL'
        obtain ⟨L0, c1, c2, c3, c4⟩ := env2.li i L' hL' (klt hi)
        simp only [convE] at c1
        split at c1
        · rw [hi] at c1
          exact ⟨L0, c1, c2, c3, c4⟩
        · simp at c1
      · by_cases hn3 : isFz n
        · rw [mu_f hn1 hn2 hn3] at hL'
          simp only [Option.map_eq_some_iff] at hL'
          obtain ⟨L, c1, rfl⟩ := hL'
          exact ⟨L, c1, rfl, rfl, rfl⟩
        · rw [mu_o hn1 hn2 hn3] at hL'
          exact ⟨L', hL', rfl, rfl, rfl⟩
    · intro n hnu
      rcases hmem (lkA_in hnu) with hm | hm | ⟨hf, hm⟩
      · obtain ⟨i, o, _, _, hr, _⟩ := hobsr n none hm
        simp at hr
      · obtain ⟨_, i, hd, hi⟩ := updDrop_spec hm
        rw [mu_k hi]
        cases h2 : E2.mu i with
        | none => rfl
        | some L => rw [hdom2 i L h2] at hd; simp at hd
      · obtain ⟨_, _, hr⟩ := updFz_spec hm
        rcases hr with ⟨_, _, _, hr⟩ | ⟨_, _, hr⟩ <;> simp at hr
    · intro n o hnu
      rcases hmem (lkA_in hnu) with hm | hm | ⟨hf, hm⟩
      · obtain ⟨i, o', hi, rfl, hr, hO, hnmO⟩ := hobsr n (some o) hm
        simp only [Option.some.injEq] at hr
        subst hr
        exact ⟨hO, hnmO _ hnames, hnames i hi⟩
      · obtain ⟨hr, _⟩ := updDrop_spec hm
        simp at hr
      · obtain ⟨hk, hmm, hr⟩ := updFz_spec hm
        have hnk : ¬ ∃ i, lkA rn i = some n := by
          rintro ⟨i, hi⟩
          rw [keptB_of hi] at hk; simp at hk
        have hisf : isFz n := by
          rw [hisFz]
          refine ⟨hf, hk, hmm, ?_⟩
          rcases hr with ⟨e', xs, h1, _⟩ | ⟨m, h1, _⟩
          · exact .inl ⟨e', xs, h1⟩
          · exact .inr ⟨m, h1⟩
        have hn1 : ¬ ∃ i, lkA nr i = some n := fun ⟨i, hi⟩ => nus hi (usf hisf)
        have hmu := mu_f hn1 hnk hisf
        have hblk : ∀ {b : Nat}, owns E n b → E'.ok b ∧ E2.w.heap[b]? = E.w.heap[b]? := by
          intro b hb
          refine ⟨.inr ⟨env2.oki b (.inr ⟨n, hb, hk, by
            rw [← hfz, hf]
            simp only [fzL, fzOk, argF_iff, hmm, Bool.true_and]
            rcases hr with ⟨e', xs, h1, _⟩ | ⟨m, h1, _⟩ <;> simp [isMp, h1]⟩), ?_⟩, notB (henv.own n b hb).2.1 fun m hm => ?_⟩
          · rintro ⟨m, hm, _, hmf⟩
            rw [henv.inj m n b hm hb] at hmf
            exact hmf hisf
          · rw [henv.inj m n b hm hb]; exact hnk
        have hww : ∀ b, E.ok b → E2.w.heap[b]? = E.w.heap[b]? := fun b hb => notB (henv.okl b hb).1 fun m hm => absurd hb (henv.own m b hm).2.2
        rcases hr with ⟨e', xs, h1, hr⟩ | ⟨m, h1, hr⟩
        · simp only [Option.some.injEq] at hr
          subst hr
          obtain ⟨hO, _, hu3⟩ := hobs.obj n _ h1
          refine ⟨?_, by simp [AO.nm], .inl hu3⟩
          obtain ⟨L, c1, c2, c3⟩ := hO
          refine ⟨{ L with own := false }, by rw [hmu, c1]; rfl, c2, rfl, ?_, ?_⟩
          · rcases c3 with c3 | ⟨b, cs, T, fr, d1, _⟩
            · exact .inl c3.1
            · exact .inr ⟨b, d1⟩
          · simp only [LRs]
            rcases c3 with ⟨d1, d2, d3⟩ | ⟨b, cs, T, fr, d1, d2, d3, d4, d5, d6, d7⟩
            · exact ⟨L.base, L.cap, rfl, by omega, .inl d2⟩
            · have hb := hblk (b := b) ⟨L, c1, d2, d1⟩
              refine ⟨L.base, L.cap, rfl, d5, .inr ⟨b, 0, d1, hb.1, fun i hi => ⟨_, LRs.length e' _ _ (d7 i hi), ?_, LRs.mono hww (fun b hb => Or.inl hb) _ _ _ (d7 i hi)⟩⟩⟩
              exact (((cells_row d3).drop (i * e'.size)).take e'.size).mono hb.2
        · simp only [Option.some.injEq] at hr
          subst hr
          obtain ⟨hO, hon, hu3⟩ := hobs.obj n _ h1
          refine ⟨?_, AO.nm_mono (fun _ h => .inl h) _ hon, .inl hu3⟩
          obtain ⟨b, cs, T, fr, c1, c2, c3, c4⟩ := hO
          have hb := hblk (b := b) ⟨_, c1, rfl, rfl⟩
          refine ⟨b, cs, T, fr, by rw [hmu, c1]; rfl, hb.1, hb.2.trans c2, ?_⟩
          refine VRL.mono (us := us) (E := E) (E' := backE E E2 nr rn isFz) ⟨hww, fun b hb => Or.inl hb, fun k hk' L' hL' => ?_⟩ _ _ hon c4
          have hk1 : ¬ ∃ i, lkA nr i = some k := fun ⟨i, hi⟩ => nus hi hk'
          by_cases hn2 : ∃ i, lkA rn i = some k
          · obtain ⟨i, hi⟩ := hn2
            rw [mu_k hi] at hL'
            obtain ⟨L0, c1, c2, c3, c4⟩ := env2.li i L' hL' (klt hi)
            simp only [convE] at c1
            split at c1
            · rw [hi] at c1
              exact ⟨L0, c1, c2, c3, c4⟩
            · simp at c1
          · by_cases hn3 : isFz k
            · rw [mu_f hk1 hn2 hn3] at hL'
              simp only [Option.map_eq_some_iff] at hL'
              obtain ⟨L, c1, rfl⟩ := hL'
              exact ⟨L, c1, rfl, rfl, rfl⟩
            · rw [mu_o hk1 hn2 hn3] at hL'
              exact ⟨L', hL', rfl, rfl, rfl⟩
    · intro b hb hno
      refine notB hb fun n hn => ?_
      rintro ⟨i, hi⟩
      have hnu := hno n hn
      cases hd : domO e.D.rob i with
      | true =>
        obtain ⟨r, hr⟩ := hrobmem hd
        have h16 := klt hi
        rw [re_k hi, hnu] at hr; simp at hr
      | false =>
        obtain ⟨r, hr⟩ := hin2 (updDrop_mem (keysIn_spec hkeys hi) hd hi)
        rw [hnu] at hr; simp at hr
  · -- the result
    refine oneA_conv (l := tmVs e.D.res y) (by rw [mapA_eq, List.length_map]) hz fun vs hv => tms_re mv w7 hres2 hv
  · -- its names
    have hlf : ∀ (d : LD) (y : d.T), inDom e.D.rob d = true → (re1 (reF nr rn nm) (d.enc y)).nm (usn us nm) := by
      intro d y hd
      cases d <;> simp only [LD.enc, re1, AV.nm] <;> first | trivial | exact hnames _ hd
    have hls : ∀ {R : Type} (ds : List LD) (y : ldsTo ds R), ldsIn e.D.rob ds = true → AV.nms (usn us nm) (mapA (re1 (reF nr rn nm)) (ldsEnc ds y).1) := by
      intro R ds
      induction ds with
      | nil => intro y _; simp [ldsEnc, mapA, AV.nms]
      | cons d ds ih =>
        intro y hds
        simp only [ldsIn, Bool.and_eq_true] at hds
        simp only [ldsEnc, mapA, AV.nms]
        exact ⟨hlf d _ hds.1, ih _ hds.2⟩
    have hvd : ∀ {R : Type} (d : VD) (y : d.To R), d.inD e.D.rob = true → (re2 (reF nr rn nm) (d.enc y).1).nm (usn us nm) := by
      intro R d y hd
      cases d with
      | leaf d => have := hlf d (hdC d y) hd; cases d <;> exact this
      | grp s => simp only [VD.enc, re2, AV.nm, encs_re]; exact enc_nms _ _ _
      | agg l => simp only [VD.enc, re2, AV.nm]; exact hls l y hd
      | fn F a b =>
        simp only [VD.inD, Bool.and_eq_true] at hd
        simp only [VD.enc, re2, AV.nm]
        exact ⟨hls a y hd.1, hls b _ hd.2⟩
      | arr s => simp [VD.enc, re2, re1, AV.nm]
    have htm : ∀ {R : Type} (l : List (Nat × VD)) (y : tmTo l R), tmIn e.D.rob l = true → AV.nms (usn us nm) (mapA (re2 (reF nr rn nm)) (tmVs l y)) := by
      intro R l
      induction l with
      | nil => intro y _; simp [tmVs, tmEnc, mapA, AV.nms]
      | cons a l ih =>
        obtain ⟨t, d⟩ := a
        intro y hl
        simp only [tmIn, Bool.and_eq_true] at hl
        have e1 : tmVs ((t, d) :: l) y = (d.enc y).1 :: tmVs l (d.enc y).2 := rfl
        rw [e1]
        simp only [mapA, AV.nms]
        exact ⟨hvd d y hl.1, ih _ hl.2⟩
    have hall := htm e.D.res y w7
    generalize mapA (re2 (reF nr rn nm)) (tmVs e.D.res y) = l at hall
    match l, hall with
    | [], _ => simp [oneA, AV.nm, AV.nms]
    | [v], hall => simp only [AV.nms] at hall; exact hall.1
    | v :: v' :: l, hall => exact hall
theorem coE_pre {e : Ent} {args : List AV} {ob : Nat → Option AO} {nm : Nat} {full : Bool} {p : Pre e.D} (h : preE full e.D e.fz args ob nm = some p) :
    coE std full e args ob nm = some ⟨e.D.Out, chks std p.q (e.f p.x), e.dflt, p.res, p.upd, fun _ _ y k => k y, fun _ _ _ => rfl⟩ := by
  unfold preE at h
  unfold coE
  cases hl : Nat.beq (lenA args) (lenA e.D.par) with
  | false => simp [hl] at h
  | true =>
    simp only [hl] at h ⊢
    rw [frcR_eq, frcR_eq] at h ⊢
    split at h
    · split at h
      · rename_i q x hd
        simp only [Option.some.injEq] at h
        subst h
        first
          | rfl
          | (simp only [hd])
      · simp at h
    · simp at h
theorem preE_same {par : List (Nat × VD)} {pob : List (Nat × OD)} {r1 r2 : List (Nat × VD)} {o1 o2 : List (Nat × OD)} {fz full : Bool} {args : List AV} {ob : Nat → Option AO} {nm : Nat} {p : Pre ⟨par, pob, r1, o1⟩} {p' : Pre ⟨par, pob, r2, o2⟩}
    (h : preE full ⟨par, pob, r1, o1⟩ fz args ob nm = some p) (h' : preE full ⟨par, pob, r2, o2⟩ fz args ob nm = some p') : p.q = p'.q ∧ p.x = p'.x := by
  unfold preE at h h'
  split at h
  · simp at h
  · rename_i hl
    simp only [hl] at h'
    rw [frcR_eq, frcR_eq] at h h'
    split at h
    · split at h'
      · split at h
        · rename_i q x hd
          simp only [hd] at h'
          simp only [Option.some.injEq] at h h'
          subst h
          subst h'
          exact ⟨rfl, rfl⟩
        · simp at h
      · simp at h'
    · simp at h
theorem coE2_ok {P : Program} [Tabs P] {e : Ent2} (he : e.OK P) {args : List AV} {ob : Nat → Option AO} {nm : Nat} {R : CallR} {full : Bool} (h : coE2 std full e args ob nm = some R) (hv : R.val.isSome = true) :
    CallOK P e.F args ob nm (R.res (R.val.getD R.dflt)) (R.upd (R.val.getD R.dflt)) := by
  have hst := he.st
  simp only [Bool.and_eq_true] at hst
  unfold coE2 at h
  split at h
  · simp at h
  rename_i p hp
  split at h
  · simp at h
  rename_i p' hp'
  simp only [Option.some.injEq] at h
  subst h
  simp only at hv ⊢
  obtain ⟨hqq, hxx⟩ := preE_same (r1 := e.D.res1) (r2 := e.D.res2) (o1 := e.D.rob1) (o2 := e.D.rob2) hp hp'
  obtain ⟨y, hy⟩ := Option.isSome_iff_exists.1 hv
  obtain ⟨hq, hfx⟩ := chks_some hy
  simp only [hy, Option.getD_some]
  cases y with
  | inl a =>
    have h1 := coE_pre (e := e.one) hp
    have hval : chks std p.q (e.one.f p.x) = some a := by
      rw [chks_pos _ _ hq]
      show lftO (e.f p.x) = some a
      rw [hfx]; rfl
    have := coE_ok (e := e.one) ⟨he.fn.1, hst.1⟩ h1 (by simp only; rw [hval]; rfl)
    simp only [hval, Option.getD_some] at this
    exact this
  | inr b =>
    have h1 := coE_pre (e := e.two) hp'
    have hval : chks std p'.q (e.two.f p'.x) = some b := by
      rw [chks_pos _ _ (by rw [← hqq]; exact hq)]
      show rgtO (e.f p'.x) = some b
      rw [← hxx, hfx]; rfl
    have := coE_ok (e := e.two) ⟨he.fn.2, hst.2⟩ h1 (by simp only; rw [hval]; rfl)
    simp only [hval, Option.getD_some] at this
    exact this
theorem coX1_ok {P : Program} [Tabs P] {e : EntX} (he : e.OK P) {args : List AV} {ob : Nat → Option AO} {nm : Nat} {R : CallR} {full : Bool} (h : coX1 std full e args ob nm = some R) (hv : R.val.isSome = true) :
    CallOK P e.F args ob nm (R.res (R.val.getD R.dflt)) (R.upd (R.val.getD R.dflt)) := by
  cases e with
  | one e => exact coE_ok he h hv
  | two e => exact coE2_ok he h hv
  | hand e =>
    have h' : coH std e args ob nm = some R := h
    unfold coH at h'
    split at h'
    · simp at h'
    rename_i q v u hc
    simp only [Option.some.injEq] at h'
    subst h'
    simp only at hv ⊢
    obtain ⟨y, hy⟩ := Option.isSome_iff_exists.1 hv
    exact EntH.OK.ok he _ _ _ _ _ _ hc (chks_some hy).1
theorem coX1_cong {P : Program} [Tabs P] {e : EntX} (he : e.OK P) {args : List AV} {ob ob' : Nat → Option AO} {nm : Nat} (h : ∀ n, AV.hass n args = true → ob n = ob' n) : coX1 std false e args ob nm = coX1 std false e args ob' nm := by
  cases e with
  | one e => exact coE_cong h
  | two e =>
    show coE2 std false e args ob nm = coE2 std false e args ob' nm
    unfold coE2
    rw [preE_cong h, preE_cong h]
  | hand e =>
    show coH std e args ob nm = coH std e args ob' nm
    unfold coH
    rw [EntH.OK.cong he _ _ _ _ h]
theorem coL_ok {P : Program} [Tabs P] {es : List EntX} (hes : ∀ e ∈ es, e.OK P) : CtxsOK P fun b => ctxOf (coL std es b) := by
  have key : ∀ (full : Bool) (l : List EntX), (∀ e ∈ l, e.OK P) → ∀ F args ob nm R, coL.go std full F args ob nm l = some R → R.val.isSome = true → CallOK P F args ob nm (R.res (R.val.getD R.dflt)) (R.upd (R.val.getD R.dflt)) := by
    intro full l
    induction l with
    | nil => intro _ F args ob nm R h; simp [coL.go] at h
    | cons e r ih =>
      intro hl F args ob nm R h hv
      simp only [coL.go] at h
      split at h
      · rename_i hb
        split at h
        · rename_i R' hR
          simp only [Option.some.injEq] at h
          subst h
          rw [beq_true hb]
          exact coX1_ok (hl e (by simp)) hR hv
        · exact ih (fun e he => hl e (by simp [he])) F args ob nm R h hv
      · exact ih (fun e he => hl e (by simp [he])) F args ob nm R h hv
  have ok : ∀ b, CtxOK1 P (ctxOf (coL std es b)) := fun b => ⟨fun F args ob nm p r u h hp => by
    unfold ctxOf at h
    split at h
    · simp at h
    · rename_i R hR
      simp only [Option.some.injEq, Prod.mk.injEq] at h
      obtain ⟨rfl, rfl, rfl⟩ := h
      exact key _ es hes F args ob nm R hR hp⟩
  refine ⟨ok false, { ok true with cong := fun F args ob ob' nm h => ?_ }⟩
  have hc : ∀ (l : List EntX), (∀ e ∈ l, e.OK P) → coL.go std false F args ob nm l = coL.go std false F args ob' nm l := by
    intro l
    induction l with
    | nil => intro _; rfl
    | cons e r ih =>
      intro hl
      simp only [coL.go]
      rw [coX1_cong (hl e (by simp)) h, ih fun e he => hl e (by simp [he])]
  unfold ctxOf
  simp only [coL, Bool.not_true, hc es hes]
theorem FnX.ok {P : Program} [Tabs P] {F : FuncId} {D : FD} {f : D.In → Option D.Out} (h : FnX P F D f) (hp : D.pob = []) (hr : D.rob = []) {x : D.In} {y : D.Out} (hy : f x = some y) : FnOK P F (tmVs D.par x) (oneA (tmVs D.res y)) := by
  refine ⟨h.1, fun w ok vs hG hok hvs => ?_⟩
  have hno : ∀ (n b : Nat), ¬ owns ⟨w, fun _ => none, ok⟩ n b := by rintro n b ⟨L, h1, _⟩; simp at h1
  refine Calls.mono (h.2 x y hy ⟨w, fun _ => none⟩ ⟨w, fun _ => none, ok⟩ vs rfl (Tabs.mono _ _ _ _ (fun b hb => ⟨⟨hb, fun n => hno n b⟩, rfl⟩) hG) (fun n m b h1 _ => absurd h1 (hno n b)) (fun n b h1 => absurd h1 (hno n b)) hok (fun n L hL => by simp at hL) (fun n o ho => ?_) hvs) fun e w' hq => ?_
  · have hpe : ∀ (l : List (Nat × OD)) (z : obTo l Unit), l = [] → (obEnc l z).1 = [] := by
      intro l z hl; subst hl; rfl
    rw [hpe _ _ hp] at ho
    simp at ho
  · obtain ⟨z, E', rfl, rfl, h1, h2, h3, h4⟩ := hq
    have hmu : E'.mu = fun _ => none := by
      funext n
      cases hh : E'.mu n with
      | none => rfl
      | some L =>
        have := h3 n L hh
        rw [hr] at this
        simp [domO] at this
    refine ⟨z, E'.ok, rfl, ⟨fun b hb => h4.fr b hb ?_, h4.sz, h4.os, h4.tape, h4.output⟩, h4.oki, fun b hb => ?_, ?_⟩
    · rintro (⟨n, hn⟩ | hB)
      · exact hno n b hn
      · exact absurd hB (Nat.not_le.2 hb)
    · obtain ⟨c1, c2⟩ := h4.okl b hb
      refine ⟨c1, ?_⟩
      rcases c2 with c2 | ⟨n, c2⟩ | c2
      · exact .inl c2
      · exact absurd c2 (hno n b)
      · exact .inr c2
    · have : E' = ⟨E'.w, fun _ => none, E'.ok⟩ := by rw [← hmu]
      rw [← this]; exact h1
end Go.Tr
namespace Go.Tr
open Go
def mkL (h : StD) (exit : Nat) (p : StD) : LoopD := ⟨h.T, h.dec, h.enc, exit, p.T, p.dec, p.enc⟩
theorem mkL_ok {h p : StD} {exit : Nat} (hw : (h.wf && p.wf) = true) : (mkL h exit p).OK := by
  simp only [Bool.and_eq_true] at hw
  exact ⟨fun g q s hd hq => StD.sound hw.1 hd hq, fun g q s hd hq => StD.sound hw.2 hd hq⟩
def loopsWf : List (Nat × StD × Nat × StD) → Bool
  | [] => true
  | (_, h, _, p) :: r => h.wf && p.wf && loopsWf r
def mkLs : List (Nat × StD × Nat × StD) → List (Nat × LoopD)
  | [] => []
  | (k, h, e, p) :: r => (k, mkL h e p) :: mkLs r
theorem mkLs_ok : ∀ {l : List (Nat × StD × Nat × StD)}, loopsWf l = true → ∀ n D, (n, D) ∈ mkLs l → D.OK
  | [], _, n, D, h => by simp [mkLs] at h
  | (k, hd, e, p) :: r, hw, n, D, h => by
    simp only [loopsWf, Bool.and_eq_true] at hw
    simp only [mkLs] at h
    rcases List.mem_cons.1 h with h | h
    · simp only [Prod.mk.injEq] at h
      obtain ⟨rfl, rfl⟩ := h
      exact mkL_ok (by simp only [Bool.and_eq_true]; exact hw.1)
    · exact mkLs_ok hw.2 n D h
def OKs (P : Program) [Tabs P] : List EntX → Prop
  | [] => True
  | e :: r => e.OK P ∧ OKs P r
theorem OKs.mem {P : Program} [Tabs P] : ∀ {l : List EntX}, OKs P l → ∀ e ∈ l, e.OK P
  | [], _, e, h => by simp at h
  | a :: r, ho, e, h => by
    rcases List.mem_cons.1 h with rfl | h
    · exact ho.1
    · exact OKs.mem ho.2 e h
end Go.Tr
namespace Go.Tr
open Go
set_option linter.unusedVariables false
universe u v
@[simp] theorem cnd_true {X : Type} (x y : Option X) : cnd true x y = x := rfl
@[simp] theorem cnd_false {X : Type} (x y : Option X) : cnd false x y = y := rfl
theorem cnd_ite {X : Type} (b : Bool) (x y : Option X) : cnd b x y = if b = true then x else y := by cases b <;> rfl
@[simp] theorem chk_true {X : Type} (x : Option X) : chk True x = x := chk_pos trivial x
@[simp] theorem chk_same {X : Type} (p : Prop) (x : Option X) : chk (p → p) x = x := chk_pos (fun h => h) x
@[simp] theorem chk_nn {X : Type} (b : Bool) (x : Option X) : chk (b = false → (!b) = true) x = x := chk_pos (by cases b <;> simp) x
@[simp] theorem chk_and {X : Type} (a b : Bool) (x : Option X) : chk (a = true → b = true → (a && b) = true) x = x := chk_pos (by cases a <;> cases b <;> simp) x
theorem ltO_def {α X : Type} (v : α) (f : α → Option X) : ltO v f = f v := rfl
@[simp] theorem bnd_val {Y X : Type} (y : Y) (f : Y → Option X) : bnd (some y) f = f y := rfl
@[simp] theorem bndG_val {Y X : Type} (c : Bool) (y d : Y) (f : Y → Option X) : bndG c (some y) d f = f y := by
  unfold bndG; rw [chk_pos (by simp)]; rfl
@[simp] theorem bndG_false {Y X : Type} (y : Option Y) (d : Y) (f : Y → Option X) : bndG false y d f = f (y.getD d) := by
  unfold bndG; rw [chk_pos (by simp)]
theorem bndG_true {Y X : Type} (y : Option Y) (d : Y) (f : Y → Option X) : bndG true y d f = bnd y f := by
  cases y with
  | none => unfold bndG; rw [chk_neg (by simp)]; rfl
  | some y => simp
@[simp] theorem sumO_inl {A B X : Type} (a : A) (f : A → Option X) (h : B → Option X) : sumO (.inl a) f h = f a := rfl
@[simp] theorem sumO_inr {A B X : Type} (b : B) (f : A → Option X) (h : B → Option X) : sumO (.inr b) f h = h b := rfl
theorem loopM_next {S Y : Type} {f : S → Option (S ⊕ Y)} {s s' : S} (h : f s = some (.inl s')) : loopM f s = loopM f s' := by
  rw [loopM_eq, h]
theorem loopM_last {S Y : Type} {f : S → Option (S ⊕ Y)} {s : S} {y : Y} (h : f s = some (.inr y)) : loopM f s = some y := by
  rw [loopM_eq, h]
theorem loopM_steps {S Y : Type} {f : S → Option (S ⊕ Y)} (St : Nat → S) {a n : Nat} (han : a ≤ n) (h : ∀ i, a ≤ i → i < n → f (St i) = some (.inl (St (i + 1)))) : loopM f (St a) = loopM f (St n) := by
  induction n with
  | zero => rw [show a = 0 from by omega]
  | succ n ih =>
    by_cases e : a = n + 1
    · rw [e]
    · rw [ih (by omega) fun i h1 h2 => h i h1 (by omega), loopM_next (h n (by omega) (by omega))]
def Ok {X : Type} (x : Option X) (Q : X → Prop) : Prop := ∃ y, x = some y ∧ Q y
theorem Ok.mono {X : Type} {x : Option X} {Q R : X → Prop} (h : Ok x Q) (hq : ∀ y, Q y → R y) : Ok x R := by
  obtain ⟨y, h1, h2⟩ := h; exact ⟨y, h1, hq y h2⟩
theorem Ok.some {X : Type} {y : X} {Q : X → Prop} (h : Q y) : Ok (some y) Q := ⟨y, rfl, h⟩
theorem Ok.chk {X : Type} {p : Prop} {x : Option X} {Q : X → Prop} (hp : p) (h : Ok x Q) : Ok (chk p x) Q := by
  rw [chk_pos hp]; exact h
theorem Ok.chks {X : Type} {p : Prop} {x : Option X} {Q : X → Prop} (h : Ok x Q) : Ok (Go.Tr.chk (p → p) x) Q := by
  rw [chk_pos fun h => h]; exact h
theorem Ok.lt {α X : Type} {v : α} {f : α → Option X} {Q : X → Prop} (h : ∀ x, x = v → Ok (f x) Q) : Ok (ltO v f) Q := h v rfl
theorem Ok.cnd {X : Type} {b : Bool} {x y : Option X} {Q : X → Prop} (h1 : b = true → Ok x Q) (h2 : b = false → Ok y Q) : Ok (cnd b x y) Q := by
  cases b with
  | true => exact h1 rfl
  | false => exact h2 rfl
theorem Ok.bnd {Y X : Type} {y : Option Y} {f : Y → Option X} {R : Y → Prop} {Q : X → Prop} (h : Ok y R) (h2 : ∀ z, R z → Ok (f z) Q) : Ok (bnd y f) Q := by
  obtain ⟨z, rfl, hz⟩ := h; exact h2 z hz
theorem Ok.bndG {Y X : Type} {c : Bool} {y : Option Y} {d : Y} {f : Y → Option X} {R : Y → Prop} {Q : X → Prop} (h : c = true → Ok y R) (h2 : ∀ z, (c = true → R z) → Ok (f z) Q) : Ok (bndG c y d f) Q := by
  unfold Go.Tr.bndG
  refine Ok.chk (fun hc => ?_) (h2 _ fun hc => ?_)
  · obtain ⟨z, rfl, hz⟩ := h hc; rfl
  · obtain ⟨z, rfl, hz⟩ := h hc; exact hz
theorem Ok.loop {S Y : Type} {f : S → Option (S ⊕ Y)} {Q : Y → Prop} (I : S → Prop) (μ : S → Nat) {s : S} (hs : I s)
    (h : ∀ s, I s → Ok (f s) fun r => match r with
      | .inl s' => I s' ∧ μ s' < μ s
      | .inr y => Q y) : Ok (loopM f s) Q := by
  suffices H : ∀ n s, μ s < n → I s → Ok (loopM f s) Q from H _ s (Nat.lt_succ_self _) hs
  intro n
  induction n with
  | zero => intro s hn; omega
  | succ n ih =>
    intro s hn hI
    obtain ⟨r, hr, hq⟩ := h s hI
    cases r with
    | inl s' => rw [loopM_next hr]; exact ih s' (by have := hq.2; omega) hq.1
    | inr y => exact ⟨y, loopM_last hr, hq⟩
@[simp] theorem room1 (n : Nat) : room 1 n ↔ n * 1 ≤ 140737488355328 := Iff.rfl
end Go.Tr
namespace Go.Tr
open Go
set_option linter.unusedVariables false
theorem w64 {n : Int} (h0 : -9223372036854775808 ≤ n) (h1 : n ≤ 9223372036854775807) : IntKind.i64.wrap n = n := by rw [i64_wrap]; omega
theorem wu32 {n : Int} (h0 : 0 ≤ n) (h1 : n ≤ 4294967295) : IntKind.u32.wrap n = n := by rw [u32_wrap]; omega
theorem shr_eq {k : IntKind} {a : Int} (n : Nat) (h : n ≤ k.bits) : shrI k a (n : Int) = a / 2 ^ n := by
  unfold shrI
  rw [Int.toNat_natCast, Nat.min_eq_left h, Int.fdiv_eq_ediv_of_nonneg _ (by exact_mod_cast Nat.zero_le (2 ^ n))]
theorem shl_eq {k : IntKind} {a : Int} (n : Nat) (h : n ≤ k.bits) : shlI k a (n : Int) = k.wrap (a * 2 ^ n) := by
  unfold shlI
  rw [Int.toNat_natCast, Nat.min_eq_left h]
theorem ofInt_nat {b n : Nat} : (BitVec.ofInt b (n : Int)).toNat = n % 2 ^ b := by
  rw [BitVec.ofInt_natCast, BitVec.toNat_ofNat]
theorem and_high {w j a : Nat} (hj : j ≤ w) (ha : a < 2 ^ w) : a &&& (2 ^ w - 2 ^ j) = 2 ^ j * (a / 2 ^ j) := by
  apply Nat.eq_of_testBit_eq
  intro i
  have hp : 0 < 2 ^ j := Nat.two_pow_pos j
  have hle : 2 ^ j ≤ 2 ^ w := Nat.pow_le_pow_right (by omega) hj
  have e : 2 ^ w - 2 ^ j = 2 ^ w - ((2 ^ j - 1) + 1) := by omega
  rw [Nat.testBit_and, e, Nat.testBit_two_pow_sub_succ (by omega), Nat.testBit_two_pow_sub_one, Nat.testBit_two_pow_mul, Nat.testBit_div_two_pow]
  by_cases h : j ≤ i
  · rw [show i - j + j = i from by omega]
    by_cases hi : i < w
    · simp [h, hi, Nat.not_lt.2 h]
    · have : a.testBit i = false := Nat.testBit_lt_two_pow (Nat.lt_of_lt_of_le ha (Nat.pow_le_pow_right (by omega) (by omega)))
      simp [this]
  · simp [h, Nat.lt_of_not_le h]
theorem band_high {k : IntKind} {a m : Int} (j : Nat) (h : 0 ≤ a) (ha : a < 2 ^ k.bits) (hm : m = 2 ^ k.bits - 2 ^ j) (hj : j ≤ k.bits) : bandI k a m = a - a % 2 ^ j := by
  obtain ⟨n, rfl⟩ := Int.eq_ofNat_of_zero_le h
  have hn : n < 2 ^ k.bits := by exact_mod_cast ha
  have hle : 2 ^ j ≤ 2 ^ k.bits := Nat.pow_le_pow_right (by omega) hj
  have hp : 0 < 2 ^ j := Nat.two_pow_pos j
  have e : m = ((2 ^ k.bits - 2 ^ j : Nat) : Int) := by rw [hm, Int.natCast_sub hle]; simp
  unfold bandI
  rw [e, BitVec.toNat_and, ofInt_nat, ofInt_nat, Nat.mod_eq_of_lt hn, Nat.mod_eq_of_lt (by omega : 2 ^ k.bits - 2 ^ j < 2 ^ k.bits), and_high hj hn]
  have h2 : ((2 ^ j : Nat) : Int) = (2 : Int) ^ j := by simp
  have h1 := Nat.div_add_mod n (2 ^ j)
  rw [← h2]
  have : ((2 ^ j * (n / 2 ^ j) : Nat) : Int) + ((n % 2 ^ j : Nat) : Int) = (n : Int) := by exact_mod_cast h1
  have e3 : ((n % 2 ^ j : Nat) : Int) = (n : Int) % ((2 ^ j : Nat) : Int) := by simp
  rw [e3] at this
  omega
theorem bandn_high {k : IntKind} {a m : Int} (j : Nat) (h : 0 ≤ a) (hm : m = 2 ^ k.bits - 2 ^ j) (hj : j ≤ k.bits) : bandnI k a m = a % 2 ^ j := by
  have hle : 2 ^ j ≤ 2 ^ k.bits := Nat.pow_le_pow_right (by omega) hj
  have hp : 0 < 2 ^ j := Nat.two_pow_pos j
  have e : m = ((2 ^ k.bits - 2 ^ j : Nat) : Int) := by rw [hm, Int.natCast_sub hle]; simp
  have hn : ~~~ BitVec.ofInt k.bits m = BitVec.ofInt k.bits (2 ^ j - 1) := by
    have e2 : ((2 : Int) ^ j - 1) = ((2 ^ j - 1 : Nat) : Int) := by rw [Int.natCast_sub Nat.one_le_two_pow]; simp
    apply BitVec.eq_of_toNat_eq
    rw [e2, e, BitVec.toNat_not, ofInt_nat, ofInt_nat, Nat.mod_eq_of_lt (by omega : 2 ^ k.bits - 2 ^ j < 2 ^ k.bits), Nat.mod_eq_of_lt (by omega : 2 ^ j - 1 < 2 ^ k.bits)]
    omega
  unfold bandnI
  rw [hn]
  exact and_mask j h rfl hj
end Go.Tr
namespace Go.Tr
abbrev TSweep : Type := (Int × Int) × Int × Int
abbrev TCfg : Type := Int × Int × Int × Int × Int × Int × Int × Int × Int
@[reducible] def zSweep : TSweep := ((0, 0), 0, 0)
abbrev sBk : Sh := .pair (.int .u32) (.int .i64)
abbrev sMc : Sh := .pair (.int .u8) (.pair (.int .u8) (.pair (.int .u8) (.pair (.int .u8) (.pair (.int .u8) (.int .u8)))))
abbrev sSw : Sh := .pair sBk (.pair (.int .i64) (.int .i64))
abbrev sCf : Sh := .pair (.int .i64) (.pair (.int .i64) (.pair (.int .i64) (.pair (.int .i64) (.pair (.int .i64) (.pair (.int .i64) (.pair (.int .i64) (.pair (.int .i64) (.int .i64))))))))
end Go.Tr
namespace Go.Tr
open Go
set_option linter.unusedVariables false
noncomputable def clone {α : Type} (k : Nat) (xs : List α) : Option (List α × Unit) := chk (xs.length * k ≤ 140737488355328) (some (xs, ()))
def sortLt {α : Type} (cmp : α → α → Option (Int × Unit)) (x y : α) : Bool :=
  match cmp x y with
  | some (c, _) => decide (c < 0)
  | none => false
def OrdOn {α : Type} (lt : α → α → Bool) (xs : List α) : Prop :=
  (∀ x ∈ xs, lt x x = false) ∧ (∀ x ∈ xs, ∀ y ∈ xs, ∀ z ∈ xs, lt x y = true → lt y z = true → lt x z = true) ∧
  (∀ x ∈ xs, ∀ y ∈ xs, ∀ z ∈ xs, lt x y = false → lt y z = false → lt x z = false) ∧ (∀ x ∈ xs, ∀ y ∈ xs, lt x y = false → lt y x = false → x = y)
noncomputable def sortF {α : Type} (cmp : α → α → Option (Int × Unit)) (xs : List α) : Option (List α × Unit) :=
  chk (1 ≤ xs.length ∧ xs.length < 4611686018427387904 ∧ OrdOn (sortLt cmp) xs) (some (xs.mergeSort (fun x y => !sortLt cmp y x), ()))
end Go.Tr
