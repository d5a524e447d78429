/- Regions whose order is open: whatever the order, they come to what the order of the text comes to.
   Conditions: none. -/
import Derived.Test.YtbdgfpfafcjmgaaDoorTrQ
namespace Go.Tr
open Go
set_option linter.unusedVariables false
set_option linter.unusedSimpArgs false

/-! ### What some of a region's operations have laid -/

section fold
variable {V : Type} (W : Tr → Nat → Option V)

def foldW : (Nat → V) → List Tr → Nat → (Nat → Bool) → Nat → V
  | f, [], _, _ => f
  | f, x :: r, i, S => foldW (if S i then (fun k => (W x k).getD (f k)) else f) r (i + 1) S

theorem foldW_congr {k : Nat} : ∀ (tr : List Tr) (i : Nat) (S S' : Nat → Bool) (f f' : Nat → V), f k = f' k → (∀ j x, tr[j]? = some x → (W x k).isSome = true → S (i + j) = S' (i + j)) → foldW W f tr i S k = foldW W f' tr i S' k
  | [], i, S, S', f, f', hf, _ => hf
  | x :: r, i, S, S', f, f', hf, h => by
    simp only [foldW]
    refine foldW_congr r (i + 1) S S' _ _ ?_ fun j y hj hy => by have := h (j + 1) y (by simpa using hj) hy; rwa [show i + (j + 1) = i + 1 + j by omega] at this
    cases hw : W x k with
    | none =>
      have e1 : (if S i then (fun k => (W x k).getD (f k)) else f) k = f k := by split <;> simp [hw]
      have e2 : (if S' i then (fun k => (W x k).getD (f' k)) else f') k = f' k := by split <;> simp [hw]
      rw [e1, e2, hf]
    | some v =>
      have := h 0 x rfl (by simp [hw])
      simp only [Nat.add_zero] at this
      rw [this]
      split
      · simp [hw]
      · exact hf

theorem foldW_keep {k : Nat} (tr : List Tr) (i : Nat) (S : Nat → Bool) (f : Nat → V) (h : ∀ j x, tr[j]? = some x → (W x k).isSome = true → S (i + j) = false) : foldW W f tr i S k = f k := by
  have h0 : ∀ (tr : List Tr) (i : Nat) (f : Nat → V), foldW W f tr i (fun _ => false) = f := by
    intro tr
    induction tr with
    | nil => intro i f; rfl
    | cons x r ih => intro i f; simp only [foldW, Bool.false_eq_true, if_false]; exact ih _ _
  rw [foldW_congr W tr i S (fun _ => false) f f rfl h, h0]

theorem foldW_last {k : Nat} {v : V} : ∀ (tr : List Tr) (i j : Nat) (S : Nat → Bool) (f : Nat → V) (x : Tr), tr[j]? = some x → W x k = some v → S (i + j) = true → (∀ m y, j < m → tr[m]? = some y → (W y k).isSome = true → S (i + m) = false) →
    foldW W f tr i S k = v
  | [], i, j, S, f, x, hj, _, _, _ => by simp at hj
  | y :: r, i, 0, S, f, x, hj, hw, hS, h => by
    simp only [List.getElem?_cons_zero, Option.some.injEq] at hj
    subst hj
    simp only [Nat.add_zero] at hS
    simp only [foldW, hS, if_true]
    rw [foldW_keep W r (i + 1) S _ fun m z hm hz => by have := h (m + 1) z (by omega) (by simpa using hm) hz; rwa [show i + (m + 1) = i + 1 + m by omega] at this]
    simp [hw]
  | y :: r, i, j + 1, S, f, x, hj, hw, hS, h => by
    simp only [foldW]
    refine foldW_last r (i + 1) j S _ x (by simpa using hj) hw (by rwa [show i + 1 + j = i + (j + 1) by omega]) fun m z hlt hm hz => ?_
    have := h (m + 1) z (by omega) (by simpa using hm) hz
    rwa [show i + (m + 1) = i + 1 + m by omega] at this

theorem foldW_shift : ∀ (tr : List Tr) (i : Nat) (S : Nat → Bool) (f : Nat → V), foldW W f tr (i + 1) S = foldW W f tr i fun k => S (k + 1)
  | [], i, S, f => rfl
  | x :: r, i, S, f => by simp only [foldW]; exact foldW_shift r (i + 1) S _

end fold

def wT (x : Tr) (t : Nat) : Option (Option AV) :=
  match x.o.dst with
  | some d => match Nat.beq t d with
    | true => some (some x.v)
    | false => none
  | none => none
def wO (x : Tr) (n : Nat) : Option (Option AO) := lkA x.u n

theorem updT_w (x : Tr) (tm : Nat → Option AV) : updT x.o.dst x.v tm = fun t => (wT x t).getD (tm t) := by
  funext t
  unfold updT wT
  cases x.o.dst with
  | none => rfl
  | some d => simp only; cases Nat.beq t d <;> rfl
theorem updO_w (x : Tr) (ob : Nat → Option AO) : updO x.u ob = fun n => (wO x n).getD (ob n) := by
  funext n
  unfold updO wO
  cases lkA x.u n <;> rfl

def vT (tm : Nat → Option AV) (tr : List Tr) (S : Nat → Bool) : Nat → Option AV := foldW wT tm tr 0 S
def vO (ob : Nat → Option AO) (tr : List Tr) (S : Nat → Bool) : Nat → Option AO := foldW wO ob tr 0 S

/-- Each operation, as it was met, ahead of it all that stands ahead of it in the text. -/
theorem runs_met {P : Program} {C : Ctx} {all : List Oper} {base i : Nat} {ops : List Oper} {g g' : Ga} {tr : List Tr} (h : Runs P C all base i ops g tr g') :
    tr.map (·.o) = ops ∧ (∀ j x, tr[j]? = some x → Met P C all (base + (i + j)) (vT (lkA g.tmps) tr fun k => decide (k < j)) (vO (lkO g.objs) tr fun k => decide (k < j)) g.nt x) ∧
      lkA g'.tmps = vT (lkA g.tmps) tr (fun k => decide (k < tr.length)) ∧ lkO g'.objs = vO (lkO g.objs) tr (fun k => decide (k < tr.length)) := by
  have hfalse : ∀ {V : Type} (W : Tr → Nat → Option V) (tr : List Tr) (i : Nat) (f : Nat → V), foldW W f tr i (fun k => decide (k < 0)) = f := by
    intro V W tr i f
    funext k
    exact foldW_keep W tr i _ f fun _ _ _ _ => by simp
  induction h with
  | nil i g => exact ⟨rfl, fun j x hj => by simp at hj, (hfalse _ _ _ _).symm, (hfalse _ _ _ _).symm⟩
  | cons i r g x tr g' hm hr ih =>
    obtain ⟨h1, h2, h3, h4⟩ := ih
    rw [appG_tm, appG_nt, appG_ob] at h2
    rw [appG_tm] at h3
    rw [appG_ob] at h4
    have stepT : ∀ (S : Nat → Bool), S 0 = true → vT (lkA g.tmps) (x :: tr) S = vT (updT x.o.dst x.v (lkA g.tmps)) tr fun k => S (k + 1) := by
      intro S hS
      simp only [vT, foldW, hS, if_true, updT_w]
      exact foldW_shift wT tr 0 S _
    have stepO : ∀ (S : Nat → Bool), S 0 = true → vO (lkO g.objs) (x :: tr) S = vO (updO x.u (lkO g.objs)) tr fun k => S (k + 1) := by
      intro S hS
      simp only [vO, foldW, hS, if_true, updO_w]
      exact foldW_shift wO tr 0 S _
    refine ⟨by simp [h1], fun j y hj => ?_, ?_, ?_⟩
    · cases j with
      | zero =>
        simp only [List.getElem?_cons_zero, Option.some.injEq] at hj
        subst hj
        have e1 : vT (lkA g.tmps) (x :: tr) (fun k => decide (k < 0)) = lkA g.tmps := hfalse _ _ _ _
        have e2 : vO (lkO g.objs) (x :: tr) (fun k => decide (k < 0)) = lkO g.objs := hfalse _ _ _ _
        rw [e1, e2]
        exact hm
      | succ j =>
        have := h2 j y (by simpa using hj)
        rw [stepT _ (by simp), stepO _ (by simp)]
        simp only [Nat.add_lt_add_iff_right]
        rwa [show base + (i + 1 + j) = base + (i + (j + 1)) by omega] at this
    · rw [h3, stepT _ (by simp)]
      simp only [List.length_cons, Nat.add_lt_add_iff_right]
    · rw [h4, stepO _ (by simp)]
      simp only [List.length_cons, Nat.add_lt_add_iff_right]

/-! ### The check -/

/-- All edges of an operation that bind lead to what is in S. -/
def depsIn (S : Nat → Bool) (o : Oper) : Prop := ∀ e ∈ o.after.toList, Region.binds .any e = true → S e.on = true

theorem nthN_eq (l : List Nat) (n : Nat) : nthN l n = l.getD n 0 := by
  induction l generalizing n with
  | nil => simp [nthN]
  | cons a r ih => cases n <;> simp [nthN, ih]

theorem maskA_bit {acc : List Nat} {i : Nat} : ∀ {es : List Edge} {m : Nat}, (maskA acc es m).testBit i = true → m.testBit i = true ∨ ∃ e ∈ es, Region.binds .any e = true ∧ (i = e.on ∨ (acc.getD e.on 0).testBit i = true)
  | [], m, h => .inl h
  | e :: r, m, h => by
    simp only [maskA] at h
    split at h
    · rename_i hb
      rcases maskA_bit h with h | ⟨e', h1, h2, h3⟩
      · have h' : ((m ||| (1 <<< e.on)) ||| nthN acc e.on).testBit i = true := h
        rw [Nat.testBit_or, Nat.testBit_or, Bool.or_eq_true, Bool.or_eq_true, nthN_eq] at h'
        rcases h' with (h' | h') | h'
        · exact .inl h'
        · refine .inr ⟨e, by simp, hb, .inl ?_⟩
          rw [Nat.testBit_shiftLeft] at h'
          simp only [Bool.and_eq_true, decide_eq_true_eq] at h'
          obtain ⟨ha, hb2⟩ := h'
          have : i - e.on = 0 := by
            rcases Nat.eq_zero_or_pos (i - e.on) with h0 | h0
            · exact h0
            · obtain ⟨q, hq⟩ : ∃ q, i - e.on = q + 1 := ⟨i - e.on - 1, by omega⟩
              rw [hq] at hb2
              simp [Nat.testBit_succ] at hb2
          omega
        · exact .inr ⟨e, by simp, hb, .inr h'⟩
      · exact .inr ⟨e', by simp [h1], h2, h3⟩
    · rcases maskA_bit h with h | ⟨e', h1, h2, h3⟩
      · exact .inl h
      · exact .inr ⟨e', by simp [h1], h2, h3⟩

theorem masksA_get : ∀ (ops : List Oper) (acc : List Nat), ∃ l, masksA ops acc = acc ++ l ∧ l.length = ops.length ∧ ∀ j o, ops[j]? = some o → l[j]? = some (maskA ((acc ++ l).take (acc.length + j)) o.after.toList 0)
  | [], acc => ⟨[], by simp [masksA], rfl, fun j o h => by simp at h⟩
  | o :: r, acc => by
    obtain ⟨l, h1, h2, h3⟩ := masksA_get r (appA acc [maskA acc o.after.toList 0])
    rw [appA_eq] at h1 h3
    refine ⟨maskA acc o.after.toList 0 :: l, by simp only [masksA, appA_eq, h1]; simp, by simp [h2], fun j p hj => ?_⟩
    cases j with
    | zero =>
      simp only [List.getElem?_cons_zero, Option.some.injEq] at hj
      subst hj
      simp
    | succ j =>
      have := h3 j p (by simpa using hj)
      simp only [List.getElem?_cons_succ, this, List.length_append, List.length_singleton]
      rw [show acc.length + 1 + j = acc.length + (j + 1) by omega]
      simp

/-- What stands ahead of an operation by its edges, of a row that leads back, is in S, if S is closed. -/
theorem mask_in {ops : List Oper} {S : Nat → Bool} (hcl : ∀ j o, ops[j]? = some o → S j = true → depsIn S o) :
    ∀ (j : Nat) (o : Oper), ops[j]? = some o → depsIn S o → ∀ i, ((masksA ops []).getD j 0).testBit i = true → S i = true := by
  obtain ⟨l, h1, h2, h3⟩ := masksA_get ops []
  rw [h1, List.nil_append]
  intro j
  induction j using Nat.strongRecOn with
  | _ j ih =>
    intro o ho hdep i hi
    have hm := h3 j o ho
    simp only [List.nil_append, List.length_nil, Nat.zero_add] at hm
    rw [List.getD_eq_getElem?_getD, hm] at hi
    simp only [Option.getD_some] at hi
    rcases maskA_bit hi with hi | ⟨e, g1, g2, g3⟩
    · simp at hi
    · have hS := hdep e g1 g2
      rcases g3 with g3 | g3
      · rw [g3]; exact hS
      · have hlt : e.on < j := by
          rcases Nat.lt_or_ge e.on j with hlt | hge
          · exact hlt
          · rw [List.getD_eq_getElem?_getD, List.getElem?_eq_none (by simp; omega)] at g3
            simp at g3
        have hjl : j < ops.length := by
          rcases Nat.lt_or_ge j ops.length with h | h
          · exact h
          · rw [List.getElem?_eq_none h] at ho; simp at ho
        have ho' : ops[e.on]? = some (ops[e.on]'(by omega)) := List.getElem?_eq_getElem _
        refine ih e.on hlt _ ho' (hcl _ _ ho' hS) i ?_
        rw [List.getD_eq_getElem?_getD] at g3 ⊢
        rwa [List.getElem?_take, if_pos hlt] at g3

theorem chkRow_spec {all : List Oper} {m : Nat} {y : Tr} : ∀ {tr : List Tr} {i : Nat}, chkRow all m y i tr = true → ∀ k x, tr[k]? = some x → confA all x y = true ∨ confA all y x = true → m.testBit (i + k) = true
  | [], i, _, k, x, hk, _ => by simp at hk
  | z :: r, i, h, k, x, hk, hc => by
    simp only [chkRow, Bool.and_eq_true, Bool.or_eq_true, Bool.not_eq_true', Bool.or_eq_false_iff] at h
    cases k with
    | zero =>
      simp only [List.getElem?_cons_zero, Option.some.injEq] at hk
      subst hk
      rcases h.1 with h1 | h1
      · simpa using h1
      · rcases hc with hc | hc
        · rw [h1.1] at hc; simp at hc
        · rw [h1.2] at hc; simp at hc
    | succ k =>
      have := chkRow_spec h.2 k x (by simpa using hk) hc
      rwa [show i + (k + 1) = i + 1 + k by omega]

theorem chkRows_spec {all : List Oper} : ∀ {ms : List Nat} {tr seen : List Tr} {j : Nat}, chkRows all ms tr seen j = true → seen.length = j →
    ∀ k y, tr[k]? = some y → backA (j + k) y.o.after.toList = true ∧ ∀ i x, i < j + k → (seen ++ tr)[i]? = some x → confA all x y = true ∨ confA all y x = true → (ms.getD k 0).testBit i = true
  | ms, [], seen, j, _, _, k, y, hk => by simp at hk
  | [], z :: r, seen, j, h, _, k, y, hk => by simp [chkRows] at h
  | m :: ms, z :: r, seen, j, h, hlen, k, y, hk => by
    simp only [chkRows, Bool.and_eq_true] at h
    obtain ⟨⟨h1, h2⟩, h3⟩ := h
    rw [appA_eq] at h3
    cases k with
    | zero =>
      simp only [List.getElem?_cons_zero, Option.some.injEq] at hk
      subst hk
      refine ⟨h1, fun i x hi hx hc => ?_⟩
      have hx' : seen[i]? = some x := by
        rw [List.getElem?_append_left (by omega)] at hx; exact hx
      simpa using chkRow_spec h2 i x hx' hc
    | succ k =>
      obtain ⟨g1, g2⟩ := chkRows_spec h3 (by simp [hlen]) k y (by simpa using hk)
      rw [show j + 1 + k = j + (k + 1) by omega] at g1 g2
      refine ⟨g1, fun i x hi hx hc => ?_⟩
      simpa using g2 i x hi (by simpa using hx) hc

theorem backA_spec {j : Nat} : ∀ {es : List Edge}, backA j es = true → ∀ e ∈ es, Region.binds .any e = true → e.on < j
  | [], _, e, he, _ => by simp at he
  | f :: r, h, e, he, hb => by
    simp only [backA] at h
    split at h
    · simp at h
    · rename_i hne
      rcases List.mem_cons.1 he with rfl | he
      · cases hlt : Nat.blt e.on j with
        | true => exact Nat.le_of_ble_eq_true hlt
        | false => exact absurd hlt (hne hb)
      · exact backA_spec h e he hb

theorem chkA_spec {all : List Oper} {tr : List Tr} (h : chkA all tr = true) : ∀ j y, tr[j]? = some y →
    (∀ e ∈ y.o.after.toList, Region.binds .any e = true → e.on < j) ∧ ∀ i x, i < j → tr[i]? = some x → confA all x y = true ∨ confA all y x = true → ((masksA all []).getD j 0).testBit i = true := by
  intro j y hj
  obtain ⟨h1, h2⟩ := chkRows_spec h rfl j y hj
  rw [Nat.zero_add] at h1 h2
  exact ⟨backA_spec h1, fun i x hi hx hc => h2 i x hi (by simpa using hx) hc⟩

/-! ### What is met does not hang on the order -/

theorem memN_iff {n : Nat} : ∀ {l : List Nat}, memN n l = true ↔ n ∈ l
  | [] => by simp [memN]
  | m :: r => by
    simp only [memN, List.mem_cons]
    split
    · rename_i h; simp [beq_true h]
    · rename_i h; simp [beq_false h, memN_iff (l := r)]

theorem mem_tmpsOf {t : Nat} : ∀ {l : List Operand}, .tmp t ∈ l → t ∈ tmpsOf l
  | [], h => by simp at h
  | x :: r, h => by
    rcases List.mem_cons.1 h with rfl | h
    · simp [tmpsOf]
    · have := mem_tmpsOf h
      cases x <;> simp only [tmpsOf, List.mem_cons] <;> first | exact .inr this | exact this

theorem looks_sub {all : List Oper} {o : Oper} {t : Nat} (h : t ∈ tmpsOf o.op.operands.toList) : t ∈ looksA all o := by
  unfold looksA
  split
  · exact h
  · split
    · split <;> simp [h]
    · exact h

theorem anyU_iff {u : Upd} {p : Nat → Bool} : anyU u p = true ↔ ∃ n r, (n, r) ∈ u ∧ p n = true := by
  induction u with
  | nil => simp [anyU]
  | cons x r ih =>
    obtain ⟨n, q⟩ := x
    simp only [anyU, Bool.or_eq_true, ih, List.mem_cons, Prod.mk.injEq]
    constructor
    · rintro (h | ⟨m, s, h1, h2⟩)
      · exact ⟨n, q, .inl ⟨rfl, rfl⟩, h⟩
      · exact ⟨m, s, .inr h1, h2⟩
    · rintro ⟨m, s, ⟨rfl, rfl⟩ | h1, h2⟩
      · exact .inl h2
      · exact .inr ⟨m, s, h1, h2⟩

theorem lkA_mem {α : Type} {l : List (Nat × α)} {n : Nat} (h : (lkA l n).isSome = true) : ∃ r, (n, r) ∈ l := by
  induction l with
  | nil => simp [lkA] at h
  | cons x r ih =>
    obtain ⟨m, y⟩ := x
    simp only [lkA] at h
    split at h
    · rename_i hb; exact ⟨y, by simp [beq_true hb]⟩
    · obtain ⟨q, hq⟩ := ih h; exact ⟨q, by simp [hq]⟩

theorem conf_tmp {all : List Oper} {x y : Tr} {t : Nat} (ht : t ∈ looksA all x.o ∨ x.o.dst = some t) (hw : (wT y t).isSome = true) : confA all x y = true := by
  unfold wT at hw
  unfold confA
  cases hd : y.o.dst with
  | none => rw [hd] at hw; simp at hw
  | some d =>
    rw [hd] at hw
    simp only at hw
    split at hw
    · rename_i hb
      have := beq_true hb
      subst this
      rcases ht with ht | ht
      · simp [memN_iff.2 ht]
      · simp [ht, beq_self]
    · simp at hw

theorem conf_obj {all : List Oper} {x y : Tr} {n : Nat} (ht : AV.hass n x.a = true ∨ (wO x n).isSome = true) (hw : (wO y n).isSome = true) : confA all x y = true := by
  unfold confA
  obtain ⟨r, hr⟩ := lkA_mem hw
  have : anyU y.u (fun n => AV.hass n x.a || touchA x.u n) = true := by
    refine anyU_iff.2 ⟨n, r, hr, ?_⟩
    rcases ht with ht | ht
    · simp [ht]
    · unfold wO at ht
      unfold touchA
      cases hl : lkA x.u n with
      | none => rw [hl] at ht; simp at ht
      | some q => simp
  rw [this]
  simp

section
variable {P : Program} [Tabs P] {C : Ctx} {tm0 : Nat → Option AV} {ob0 : Nat → Option AO} {nt base : Nat} {tr : List Tr} {all : List Oper}

/-- Of what concerns an operation S has what stands ahead of it in the text. -/
theorem agree (hall : tr.map (·.o) = all) (hchk : chkA all tr = true) {S : Nat → Bool} (hcl : ∀ j o, all[j]? = some o → S j = true → depsIn S o) {i : Nat} {x : Tr} (hi : tr[i]? = some x) (hdep : depsIn S x.o) (hSi : S i = false)
    {j : Nat} {y : Tr} (hj : tr[j]? = some y) (hc : confA all x y = true) : S j = decide (j < i) := by
  have hget : ∀ (k : Nat) (z : Tr), tr[k]? = some z → all[k]? = some z.o := by
    intro k z hk
    rw [← hall, List.getElem?_map, hk]
    rfl
  rcases Nat.lt_trichotomy j i with hlt | heq | hgt
  · rw [decide_eq_true hlt]
    exact mask_in hcl i x.o (hget i x hi) hdep j ((chkA_spec hchk i x hi).2 j y hlt hj (.inr hc))
  · subst heq
    rw [hSi]
    simp
  · rw [decide_eq_false (by omega)]
    cases hS : S j with
    | false => rfl
    | true =>
      have := mask_in hcl j y.o (hget j y hj) (hcl j y.o (hget j y hj) hS) i ((chkA_spec hchk j y hj).2 i x hgt hi (.inl hc))
      rw [hSi] at this
      simp at this

theorem met_any (hC : CtxOK P C) (hall : tr.map (·.o) = all) (hchk : chkA all tr = true) {S : Nat → Bool} (hcl : ∀ j o, all[j]? = some o → S j = true → depsIn S o) {i nm : Nat} {x : Tr} (hi : tr[i]? = some x) (hdep : depsIn S x.o) (hSi : S i = false)
    (hm : Met P C all nm (vT tm0 tr fun k => decide (k < i)) (vO ob0 tr fun k => decide (k < i)) nt x) : Met P C all nm (vT tm0 tr S) (vO ob0 tr S) nt x := by
  have hag := fun {j y} => agree (j := j) (y := y) hall hchk hcl hi hdep hSi
  have hT : ∀ t, t ∈ looksA all x.o → vT tm0 tr S t = vT tm0 tr (fun k => decide (k < i)) t := fun t ht =>
    foldW_congr wT tr 0 _ _ _ _ rfl fun j y hj hw => by rw [Nat.zero_add]; exact hag hj (conf_tmp (.inl ht) hw)
  have hO : ∀ n, AV.hass n x.a = true → vO ob0 tr S n = vO ob0 tr (fun k => decide (k < i)) n := fun n hn =>
    foldW_congr wO tr 0 _ _ _ _ rfl fun j y hj hw => by rw [Nat.zero_add]; exact hag hj (conf_obj (.inl hn) hw)
  have hopv : ∀ z ∈ x.o.op.operands.toList, opv (vT tm0 tr fun k => decide (k < i)) z = opv (vT tm0 tr S) z := by
    intro z hz
    cases z with
    | tmp t => simp only [opv, hT t (looks_sub (mem_tmpsOf hz))]
    | _ => rfl
  have hopvs : opvs (vT tm0 tr fun k => decide (k < i)) x.o.op.operands.toList = opvs (vT tm0 tr S) x.o.op.operands.toList := by
    have : ∀ l : List Operand, (∀ z ∈ l, opv (vT tm0 tr fun k => decide (k < i)) z = opv (vT tm0 tr S) z) → opvs (vT tm0 tr fun k => decide (k < i)) l = opvs (vT tm0 tr S) l := by
      intro l
      induction l with
      | nil => intro _; rfl
      | cons z r ih => intro h; simp only [opvs]; rw [h z (by simp), ih fun y hy => h y (by simp [hy])]
    exact this _ hopv
  obtain ⟨h1, h2, h3⟩ := hm
  have hop : opA P C (vT tm0 tr fun k => decide (k < i)) (vO ob0 tr fun k => decide (k < i)) nm x.o = opA P C (vT tm0 tr S) (vO ob0 tr S) nm x.o :=
    opA_congr hC hopv fun n hn => (hO n (by rw [h2]; exact hn)).symm
  have hgc : gcA all (vT tm0 tr fun k => decide (k < i)) x.o = gcA all (vT tm0 tr S) x.o := by
    unfold gcA
    cases hg : x.o.guard with
    | none => rfl
    | some jw =>
      obtain ⟨j, want⟩ := jw
      simp only
      cases hj : nth all j with
      | none => rfl
      | some oj =>
        simp only
        cases hd : oj.dst with
        | none => rfl
        | some t =>
          simp only
          rw [hT t (by unfold looksA; simp [hg, hj, hd])]
  refine ⟨h1, h2.trans hopvs, ?_⟩
  rw [← hop, ← hgc]
  exact h3

theorem view_next (hall : tr.map (·.o) = all) (hchk : chkA all tr = true) {S S' : Nat → Bool} (hcl : ∀ j o, all[j]? = some o → S j = true → depsIn S o) {i : Nat} {x : Tr} (hi : tr[i]? = some x) (hdep : depsIn S x.o) (hSi : S i = false)
    (hS' : ∀ k, S' k = if k = i then true else S k) : updT x.o.dst x.v (vT tm0 tr S) = vT tm0 tr S' ∧ updO x.u (vO ob0 tr S) = vO ob0 tr S' := by
  have hag := fun {j y} => agree (j := j) (y := y) hall hchk hcl hi hdep hSi
  have gen : ∀ {V : Type} (W : Tr → Nat → Option V) (f : Nat → V), (∀ k, (W x k).isSome = true → ∀ (j : Nat) (y : Tr), tr[j]? = some y → (W y k).isSome = true → confA all x y = true) →
      (fun k => (W x k).getD (foldW W f tr 0 S k)) = foldW W f tr 0 S' := by
    intro V W f hconf
    funext k
    cases hw : W x k with
    | none =>
      simp only [Option.getD_none]
      refine foldW_congr W tr 0 S S' f f rfl fun j y hj hy => ?_
      rw [Nat.zero_add, hS']
      split
      · rename_i hji
        subst hji
        rw [hi] at hj
        simp only [Option.some.injEq] at hj
        subst hj
        rw [hw] at hy
        simp at hy
      · rfl
    | some v =>
      simp only [Option.getD_some]
      refine (foldW_last W tr 0 i S' f x hi hw (by rw [Nat.zero_add, hS']; simp) fun m y hlt hm hy => ?_).symm
      rw [Nat.zero_add, hS', if_neg (by omega), hag hm (hconf k (by simp [hw]) m y hm hy)]
      simp; omega
  refine ⟨?_, ?_⟩
  · rw [updT_w]
    refine gen wT tm0 fun k hk j y hj hy => conf_tmp (.inr ?_) hy
    unfold wT at hk
    cases hd : x.o.dst with
    | none => rw [hd] at hk; simp at hk
    | some d =>
      rw [hd] at hk
      simp only at hk
      split at hk
      · rename_i hb; rw [beq_true hb]
      · simp at hk
  · rw [updO_w]
    exact gen wO ob0 fun k hk j y hj hy => conf_obj (.inr hk) hy

end

/-- The names that are in use when some of a region's operations are carried out. -/
def usS (base : Nat) (S : Nat → Bool) (n : Nat) : Prop := n < base ∨ ∃ i, S i = true ∧ n = base + i

theorem any_sound {P : Program} [Tabs P] {C : Ctx} (hC : CtxOK P C) {W0 : WX} {okIn B : Nat → Prop} (hT : TabIn P W0 B) {all : List Oper} {base nt : Nat} {tm0 : Nat → Option AV} {ob0 : Nat → Option AO} {tr : List Tr} {Q : Exit → Act → World → Prop}
    (hall : tr.map (·.o) = all) (hchk : chkA all tr = true) (hmet : ∀ j x, tr[j]? = some x → Met P C all (base + j) (vT tm0 tr fun k => decide (k < j)) (vO ob0 tr fun k => decide (k < j)) nt x)
    (hQ : ∀ E a, SimE W0 okIn B (fun n => n < base + tr.length) (vT tm0 tr fun k => decide (k < tr.length)) (vO ob0 tr fun k => decide (k < tr.length)) nt E a → Q .normal a E.w) :
    ∀ (fuel : Nat) (listed : Array Bool), listed.size = all.length → all.length ≤ fuel + (listed.toList.filter id).length →
      (∀ j o, all[j]? = some o → listed.getD j false = true → depsIn (fun k => listed.getD k false) o) →
      ∀ (E : Env) (a : Act), SimE W0 okIn B (usS base fun k => listed.getD k false) (vT tm0 tr fun k => listed.getD k false) (vO ob0 tr fun k => listed.getD k false) nt E a →
      wpAny P .any all.toArray Q fuel listed a E.w := by
  have hlen : tr.length = all.length := by rw [← hall]; simp
  -- nothing is ready: all is done
  have done : ∀ (listed : Array Bool), listed.size = all.length → Region.ready .any all.toArray listed = [] → ∀ k, k < all.length → listed.getD k false = true := by
    intro listed hsz hr k
    induction k using Nat.strongRecOn with
    | _ k ih =>
      intro hk
      cases hl : listed.getD k false with
      | true => rfl
      | false =>
        exfalso
        have hko : all[k]? = some all[k] := List.getElem?_eq_getElem hk
        have htr : tr[k]? = some (tr[k]'(by omega)) := List.getElem?_eq_getElem _
        have hoo : (tr[k]'(by omega)).o = all[k] := by
          have : (tr.map (·.o))[k]? = some all[k] := by rw [hall]; exact hko
          rw [List.getElem?_map, htr] at this
          simpa using this
        have hback := (chkA_spec hchk k _ htr).1
        rw [hoo] at hback
        have hmem : k ∈ Region.ready .any all.toArray listed := by
          unfold Region.ready
          rw [List.mem_filter]
          refine ⟨by simpa using hk, ?_⟩
          have e1 : listed.getD k true = false := by
            rw [Array.getD_eq_getD_getElem?] at hl ⊢
            rw [Array.getElem?_eq_getElem (by omega)] at hl ⊢
            simpa using hl
          have e2 : all.toArray[k]? = some all[k] := by rw [List.getElem?_toArray]; exact hko
          rw [e1, e2]
          simp only [Bool.not_false, Bool.true_and, Option.map_some, Option.getD_some]
          rw [← Array.all_toList, List.all_eq_true]
          intro e he
          cases hb : Region.binds .any e with
          | false => rfl
          | true =>
            have := hback e he hb
            rw [ih e.on this (by omega)]
            rfl
        rw [hr] at hmem
        simp at hmem
  have finish : ∀ (listed : Array Bool), listed.size = all.length → Region.ready .any all.toArray listed = [] → ∀ (E : Env) (a : Act),
      SimE W0 okIn B (usS base fun k => listed.getD k false) (vT tm0 tr fun k => listed.getD k false) (vO ob0 tr fun k => listed.getD k false) nt E a → Q .normal a E.w := by
    intro listed hsz hr E a hs
    have hd := done listed hsz hr
    have hfun : (fun k => listed.getD k false) = fun k => decide (k < tr.length) := by
      funext k
      by_cases hk : k < all.length
      · rw [hd k hk, decide_eq_true (by omega)]
      · rw [decide_eq_false (by omega), Array.getD_eq_getD_getElem?, Array.getElem?_eq_none (by omega)]
        rfl
    rw [hfun] at hs
    refine hQ E a (hs.weak fun n hn => ?_)
    rcases hn with hn | ⟨i, hi, rfl⟩
    · omega
    · have := of_decide_eq_true hi
      omega
  intro fuel
  induction fuel with
  | zero =>
    intro listed hsz hcount hcl E a hs
    have hall' : ∀ b ∈ listed.toList, b = true := by
      have hle := List.length_filter_le id listed.toList
      have hl : listed.toList.length = all.length := by simpa using hsz
      have heq : (listed.toList.filter id).length = listed.toList.length := by omega
      intro b hb
      have := (List.length_filter_eq_length_iff.1 heq) b hb
      simpa using this
    have hr : Region.ready .any all.toArray listed = [] := by
      unfold Region.ready
      rw [List.filter_eq_nil_iff]
      intro k hk
      have hk' : k < listed.size := by simp at hk; omega
      have : listed.getD k true = true := by
        rw [Array.getD_eq_getD_getElem?, Array.getElem?_eq_getElem hk']
        exact hall' _ (by simp)
      simp [this]
    exact ⟨hr, finish listed hsz hr E a hs⟩
  | succ fuel ih =>
    intro listed hsz hcount hcl E a hs
    refine ⟨fun hr => finish listed hsz hr E a hs, fun i hi => ?_⟩
    unfold Region.ready at hi
    rw [List.mem_filter] at hi
    obtain ⟨hi1, hi2⟩ := hi
    have hin : i < all.length := by simpa using hi1
    simp only [Bool.and_eq_true, Bool.not_eq_true'] at hi2
    obtain ⟨hnl, hdeps⟩ := hi2
    have hko : all[i]? = some all[i] := List.getElem?_eq_getElem hin
    have htr : tr[i]? = some (tr[i]'(by omega)) := List.getElem?_eq_getElem _
    generalize hx : tr[i]'(by omega) = x at htr
    have hoo : x.o = all[i] := by
      have : (tr.map (·.o))[i]? = some all[i] := by rw [hall]; exact hko
      rw [List.getElem?_map, htr] at this
      simpa using this
    have e2 : all.toArray[i]? = some x.o := by rw [hoo, List.getElem?_toArray]; exact hko
    have hSi : listed.getD i false = false := by
      rw [Array.getD_eq_getD_getElem?] at hnl ⊢
      rw [Array.getElem?_eq_getElem (by omega)] at hnl ⊢
      simpa using hnl
    have hdep : depsIn (fun k => listed.getD k false) x.o := by
      intro e he hb
      rw [e2] at hdeps
      simp only [Option.map_some, Option.getD_some] at hdeps
      rw [← Array.all_toList, List.all_eq_true] at hdeps
      have := hdeps e he
      rw [hb] at this
      simpa using this
    have hS' : ∀ k, (listed.setIfInBounds i true).getD k false = if k = i then true else listed.getD k false := by
      intro k
      rw [Array.getD_eq_getD_getElem?, Array.getD_eq_getD_getElem?, Array.getElem?_setIfInBounds]
      by_cases hki : k = i
      · subst hki
        simp [show k < listed.size by omega]
      · rw [if_neg (Ne.symm hki), if_neg hki]
    obtain ⟨v1, v2⟩ := view_next (tm0 := tm0) (ob0 := ob0) hall hchk hcl htr hdep hSi hS'
    have hm := met_any hC hall hchk hcl htr hdep hSi (hmet i x htr)
    have hnm : ¬ usS base (fun k => listed.getD k false) (base + i) := by
      rintro (h | ⟨j, hj, hij⟩)
      · omega
      · have : j = i := by omega
        subst this
        have hj' : listed.getD j false = true := hj
        rw [hSi] at hj'
        simp at hj'
    unfold wpOp
    simp only [e2]
    refine met_step hC hT hs hnm hm _ Q fun E' a' hs' => ?_
    refine ih (listed.setIfInBounds i true) (by simpa using hsz) ?_ ?_ E' a' ?_
    · -- one more is listed
      have hil : i < listed.toList.length := by simp; omega
      have hcnt : ∀ (l : List Bool) (i : Nat) (h : i < l.length), l[i] = false → ((l.set i true).filter id).length = (l.filter id).length + 1 := by
        intro l
        induction l with
        | nil => intro i h; simp at h
        | cons b r ihl =>
          intro i h hb
          cases i with
          | zero =>
            simp only [List.getElem_cons_zero] at hb
            subst hb
            simp
          | succ i =>
            have := ihl i (by simpa using h) (by simpa using hb)
            cases b <;> simp [this]
      have hb : listed.toList[i] = false := by
        rw [Array.getD_eq_getD_getElem?, Array.getElem?_eq_getElem (by omega)] at hSi
        simpa using hSi
      rw [Array.toList_setIfInBounds, hcnt _ i hil hb]
      omega
    · intro j o hj hSj e he hb
      show (listed.setIfInBounds i true).getD e.on false = true
      have hSj' : (listed.setIfInBounds i true).getD j false = true := hSj
      rw [hS'] at hSj' ⊢
      split
      · rfl
      · split at hSj'
        · rename_i hji
          subst hji
          rw [hko] at hj
          simp only [Option.some.injEq] at hj
          subst hj
          rw [← hoo] at he
          exact hdep e he hb
        · exact hcl j o hj hSj' e he hb
    · have hfun : (fun k => (listed.setIfInBounds i true).getD k false) = fun k => (listed.setIfInBounds i true).getD k false := rfl
      rw [v1, v2] at hs'
      refine hs'.weak fun n hn => ?_
      rcases hn with hn | hn
      · rcases hn with hn | ⟨j, hj, rfl⟩
        · exact .inl hn
        · refine .inr ⟨j, ?_, rfl⟩
          show (listed.setIfInBounds i true).getD j false = true
          rw [hS']
          split
          · rfl
          · exact hj
      · refine .inr ⟨i, ?_, hn⟩
        show (listed.setIfInBounds i true).getD i false = true
        rw [hS']
        simp

end Go.Tr
