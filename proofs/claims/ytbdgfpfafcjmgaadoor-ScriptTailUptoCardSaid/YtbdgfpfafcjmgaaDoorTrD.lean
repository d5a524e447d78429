/- Operations that turn nothing: what the evaluator says of them is what the model does.
   Conditions: none. -/
import Derived.Test.YtbdgfpfafcjmgaaDoorTrC
import Derived.Laws.Entries
import Derived.ChangeKeysEq
namespace Go.Tr
open Go
universe u
set_option linter.unusedVariables false
set_option linter.unusedSimpArgs false

theorem fv0_eq {α : Sort u} (v : AV) (k : AV → α) : fv0 v k = k v := by cases v <;> rfl
theorem fvl_eq {α : Sort u} (l : List AV) (k : List AV → α) : fvl l k = k l := by
  induction l generalizing k with
  | nil => rfl
  | cons a r ih => rw [fvl_cons, fv0_eq, ih]
theorem fv_eq {α : Sort u} (v : AV) (k : AV → α) : fv v k = k v := by
  cases v <;> simp only [fv, fv0_eq, fvl_eq]
theorem appA_eq {α : Type} (l m : List α) : appA l m = l ++ m := by
  induction l with
  | nil => rfl
  | cons a r ih => simp [appA, ih]
theorem takeA_eq {α : Type} (n : Nat) (l : List α) : takeA n l = l.take n := by
  induction n generalizing l with
  | zero => simp [takeA]
  | succ n ih => cases l <;> simp [takeA, ih]
theorem dropA_eq {α : Type} (n : Nat) (l : List α) : dropA n l = l.drop n := by
  induction n generalizing l with
  | zero => simp [dropA]
  | succ n ih => cases l <;> simp [dropA, ih]
theorem lenA_eq {α : Type} (l : List α) : lenA l = l.length := by
  induction l with
  | nil => rfl
  | cons a r ih => simp [lenA, ih]
theorem nth_eq {α : Type} (l : List α) (n : Nat) : nth l n = l[n]? := by
  induction l generalizing n with
  | nil => simp [nth]
  | cons a r ih => cases n <;> simp [nth, ih]

theorem fvls_eq {α : Sort u} : ∀ (l : List AV) (k : List AV → α), fvls l k = k l
  | [], k => rfl
  | a :: r, k => by rw [fvls_cons, fv_eq, fvls_eq r]

theorem fvd_eq {α : Sort u} (v : AV) (k : AV → α) : fvd v k = k v := by
  unfold fvd
  split
  · rw [fvls_eq]
  · rw [fv_eq]

def usn (us : Nat → Prop) (nm n : Nat) : Prop := us n ∨ n = nm

theorem cvals_nm (p : Nat → Prop) : ∀ l : List Value, AV.nms p (cvals l)
  | [] => by simp [cvals, AV.nms]
  | v :: r => by
    have : (cval v).nm p := by unfold cval; split <;> simp [AV.nm]
    simp only [cvals, AV.nms]; exact ⟨this, cvals_nm p r⟩

theorem cval_sound (E : Env) (v : Value) (p : Nat → Prop) : VR E (cval v) v ∧ (cval v).nm p := by
  unfold cval
  split <;> simp [VR, AV.nm]

theorem cvals_sound (E : Env) : ∀ l : List Value, VRL E (cvals l) l
  | [] => by simp [cvals, VRL]
  | v :: r => by
    simp only [cvals, VRL]
    exact ⟨v, r, rfl, (cval_sound E v fun _ => True).1, cvals_sound E r⟩

section
variable {W0 : WX} {okIn B us : Nat → Prop} {tm : Nat → Option AV} {ob : Nat → Option AO} {nt : Nat} {E : Env} {a : Act}

theorem opv_sound (hs : SimE W0 okIn B us tm ob nt E a) (x : Operand) : VR E (opv tm x) (a.eval x) ∧ (opv tm x).nm us := by
  cases x with
  | tmp t =>
    simp only [opv, Act.eval]
    cases h : tm t with
    | none => simp [VR, AV.nm]
    | some v => exact hs.tmp t v h
  | const v => exact cval_sound E v us
  | global g => simp [opv, VR, AV.nm]
  | func f => exact ⟨⟨[], [], rfl, by simp [VRL], by simp [VRL]⟩, by simp [opv, AV.nm, AV.nms]⟩

theorem fe_sound {α : Type} (hs : SimE W0 okIn B us tm ob nt E a) {x : Operand} {k : List Prop → AV → Option α} {r : α} (h : fe tm x k = some r) :
    ∃ p v, k p v = some r ∧ ((∀ q ∈ p, q) → VR E v (a.eval x)) ∧ ((∀ q ∈ p, q) → v.nm us) := by
  have hx := opv_sound hs x
  unfold fe at h
  split at h
  · rename_i g v hv
    rw [fv_eq] at h
    rw [hv] at hx
    simp only [VR, AV.nm] at hx
    exact ⟨[g = true], v, h, fun hq => hx.1.1 (hq _ (by simp)), fun hq => hx.2 (hq _ (by simp))⟩
  · rw [fv_eq] at h
    exact ⟨[], _, h, fun _ => hx.1, fun _ => hx.2⟩

theorem fel_sound {α : Type} (hs : SimE W0 okIn B us tm ob nt E a) : ∀ {xs : List Operand} {k : List Prop → List AV → Option α} {r : α}, fel tm xs k = some r →
    ∃ p vs, k p vs = some r ∧ ((∀ q ∈ p, q) → VRL E vs (xs.map a.eval)) ∧ ((∀ q ∈ p, q) → AV.nms us vs)
  | [], k, r, h => ⟨[], [], h, fun _ => by simp [VRL], fun _ => by simp [AV.nms]⟩
  | x :: xs, k, r, h => by
    simp only [fel] at h
    obtain ⟨p, v, h1, h2, h3⟩ := fe_sound hs h
    obtain ⟨q, vs, g1, g2, g3⟩ := fel_sound hs h1
    refine ⟨p ++ q, v :: vs, g1, fun hq => ?_, fun hq => ⟨h3 fun r hr => hq r (by simp [hr]), g3 fun r hr => hq r (by simp [hr])⟩⟩
    simp only [List.map_cons, VRL]
    exact ⟨_, _, rfl, h2 fun r hr => hq r (by simp [hr]), g2 fun r hr => hq r (by simp [hr])⟩

theorem VRL.nth {E : Env} : ∀ {l : List AV} {vs : List Value} {i : Nat} {a : AV}, VRL E l vs → l[i]? = some a → ∃ v, vs[i]? = some v ∧ VR E a v
  | [], vs, i, a, h, hi => by simp at hi
  | b :: l, vs, i, a, h, hi => by
    simp only [VRL] at h
    obtain ⟨v, r, rfl, h1, h2⟩ := h
    cases i with
    | zero => simp at hi; subst hi; exact ⟨v, rfl, h1⟩
    | succ i => simpa using VRL.nth h2 (by simpa using hi)

theorem VRL.length {E : Env} : ∀ {l : List AV} {vs : List Value}, VRL E l vs → vs.length = l.length
  | [], vs, h => by simp [VRL] at h; simp [h]
  | b :: l, vs, h => by
    simp only [VRL] at h
    obtain ⟨v, r, rfl, h1, h2⟩ := h
    simp [VRL.length h2]

theorem VRL.take {E : Env} : ∀ {l : List AV} {vs : List Value} (n : Nat), VRL E l vs → VRL E (l.take n) (vs.take n)
  | [], vs, n, h => by simp [VRL] at h; simp [h, VRL]
  | b :: l, vs, n, h => by
    simp only [VRL] at h
    obtain ⟨v, r, rfl, h1, h2⟩ := h
    cases n with
    | zero => simp [VRL]
    | succ n => simp only [List.take_succ_cons, VRL]; exact ⟨v, _, rfl, h1, VRL.take n h2⟩

theorem VRL.drop {E : Env} : ∀ {l : List AV} {vs : List Value} (n : Nat), VRL E l vs → VRL E (l.drop n) (vs.drop n)
  | [], vs, n, h => by simp [VRL] at h; simp [h, VRL]
  | b :: l, vs, n, h => by
    cases n with
    | zero => simpa using h
    | succ n =>
      simp only [VRL] at h
      obtain ⟨v, r, rfl, h1, h2⟩ := h
      simpa using VRL.drop n h2

theorem VRL.append {E : Env} : ∀ {l m : List AV} {vs us : List Value}, VRL E l vs → VRL E m us → VRL E (l ++ m) (vs ++ us)
  | [], m, vs, us, h, g => by simp [VRL] at h; simpa [h] using g
  | b :: l, m, vs, us, h, g => by
    simp only [VRL] at h
    obtain ⟨v, r, rfl, h1, h2⟩ := h
    simp only [List.cons_append, VRL]
    exact ⟨v, _, rfl, h1, VRL.append h2 g⟩

theorem nms_take {p : Nat → Prop} : ∀ {l : List AV} (n : Nat), AV.nms p l → AV.nms p (l.take n)
  | [], n, h => by simp [AV.nms]
  | b :: l, n, h => by
    simp only [AV.nms] at h
    cases n with
    | zero => simp [AV.nms]
    | succ n => simp only [List.take_succ_cons, AV.nms]; exact ⟨h.1, nms_take n h.2⟩
theorem nms_drop {p : Nat → Prop} : ∀ {l : List AV} (n : Nat), AV.nms p l → AV.nms p (l.drop n)
  | [], n, h => by simp [AV.nms]
  | b :: l, n, h => by
    cases n with
    | zero => simpa using h
    | succ n => simp only [AV.nms] at h; simpa using nms_drop n h.2
theorem nms_append {p : Nat → Prop} : ∀ {l m : List AV}, AV.nms p l → AV.nms p m → AV.nms p (l ++ m)
  | [], m, _, g => by simpa using g
  | b :: l, m, h, g => by simp only [List.cons_append, AV.nms] at h ⊢; exact ⟨h.1, nms_append h.2 g⟩
theorem nms_nth {p : Nat → Prop} : ∀ {l : List AV} {i : Nat} {a : AV}, AV.nms p l → l[i]? = some a → a.nm p
  | [], i, a, _, h => by simp at h
  | b :: l, i, a, h, hi => by
    simp only [AV.nms] at h
    cases i with
    | zero => simp at hi; subst hi; exact h.1
    | succ i => exact nms_nth h.2 (by simpa using hi)

/-- An operation's step, as the walk wants it. -/
def StepOK (P : Program) (o : Oper) (a : Act) (W0 : WX) (okIn B us : Nat → Prop) (nm : Nat) (E : Env) (v : AV) (u : Upd) : Prop :=
  ∀ (K : Act → World → Prop) (Q : Exit → Act → World → Prop),
    (∀ E' x, Evo W0 okIn B us (usn us nm) E E' u → VR E' v x → v.nm (usn us nm) → K (a.put o.dst x) E'.w) → o.wp P a E.w K Q

theorem Evo.refl' {nm : Nat} (he : EnvOk W0 okIn B E) : Evo W0 okIn B us (usn us nm) E E [] :=
  { Evo.refl (us := us) he with sub := fun _ h => .inl h, obj := fun n o h => by simp [lkA] at h }

theorem StepOK.value {P : Program} {o : Oper} {nm : Nat} {v : AV} {x : Value} (hs : SimE W0 okIn B us tm ob nt E a)
    (hr : (execOp a.eval o).run P E.w = .ok (.value x) E.w) (hx : VR E v x) (hn : v.nm us) : StepOK P o a W0 okIn B us nm E v [] := by
  intro K Q hK
  unfold Oper.wp
  rw [hr]
  exact hK E x (Evo.refl' hs.env) hx (AV.nm_mono (fun _ h => .inl h) _ hn)

theorem StepOK.skip {P : Program} {o : Oper} {nm : Nat} {u : Upd} {E' : Env}
    (hr : (execOp a.eval o).run P E.w = .ok .skip E'.w) (hv : Evo W0 okIn B us (usn us nm) E E' u) : StepOK P o a W0 okIn B us nm E .unk u := by
  intro K Q hK
  unfold Oper.wp
  rw [hr]
  exact hK E' undef hv (by simp [VR]) (by simp [AV.nm])

theorem StepOK.valueE {P : Program} {o : Oper} {nm : Nat} {u : Upd} {E' : Env} {v : AV} {x : Value}
    (hr : (execOp a.eval o).run P E.w = .ok (.value x) E'.w) (hv : Evo W0 okIn B us (usn us nm) E E' u) (hx : VR E' v x) (hn : v.nm (usn us nm)) :
    StepOK P o a W0 okIn B us nm E v u := by
  intro K Q hK
  unfold Oper.wp
  rw [hr]
  exact hK E' x hv hx hn

/-! ### Parts of cells -/

theorem run_isAgg {P : Program} {t : TypeId} {b : Bool} (w : World) (h : isAggT P t = some b) : (isAgg t).run P w = .ok b w := by
  unfold isAggT at h
  split at h <;> simp at h <;> subst h <;> rename_i hu
  · simp [isAgg, run_underlying hu]
  · simp [isAgg, run_underlying hu]
  · rename_i h1 h2
    simp only [isAgg, Sem.run_bind, run_underlying hu, Result.andThen_ok]
    rfl

theorem sizeT_info {P : Program} {t : TypeId} {n : Nat} (h : sizeT P t = some n) : ∃ i, P.info? t = some i ∧ i.size = n := by
  unfold sizeT at h
  split at h
  · rename_i i hi; exact ⟨i, hi, by simpa using h⟩
  · simp at h

theorem run_sizeT {P : Program} {t : TypeId} {n : Nat} (w : World) (h : sizeT P t = some n) : (sizeOf t).run P w = .ok n w := by
  obtain ⟨i, hi, hn⟩ := sizeT_info h
  simp [sizeOf, typeInfo, hi, hn]

theorem partA_cases {P : Program} {t : TypeId} {off : Nat} {l : List AV} {v : AV} (h : partA P t off l = some v) :
    (∃ n, isAggT P t = some true ∧ sizeT P t = some n ∧ off + n ≤ l.length ∧ v = .agg ((l.drop off).take n)) ∨
    (isAggT P t = some false ∧ l[off]? = some v) := by
  unfold partA at h
  split at h
  · rename_i n h1 h2
    split at h
    · rename_i hb
      rw [lenA_eq] at hb
      simp only [Option.some.injEq, takeA_eq, dropA_eq] at h
      exact .inl ⟨n, h1, h2, Nat.le_of_ble_eq_true hb, h.symm⟩
    · simp at h
  · rename_i h1
    rw [nth_eq] at h
    exact .inr ⟨h1, h⟩
  · simp at h

theorem part_sound {P : Program} {t : TypeId} {off : Nat} {l : List AV} {v : AV} {vs : List Value} (h : partA P t off l = some v) (hl : VRL E l vs)
    (w : World) : ∃ x, (part t vs.toArray off).run P w = .ok x w ∧ VR E v x := by
  rcases partA_cases h with ⟨n, h1, h2, h3, rfl⟩ | ⟨h1, h2⟩
  · refine ⟨.agg ((vs.drop off).take n).toArray, ?_, ⟨_, rfl, (hl.drop off).take n⟩⟩
    simp [part, run_isAgg w h1, run_sizeT w h2]
  · obtain ⟨x, hx, hv⟩ := hl.nth h2
    refine ⟨x, ?_, hv⟩
    simp [part, run_isAgg w h1, hx]

theorem partA_nm {P : Program} {t : TypeId} {off : Nat} {l : List AV} {v : AV} {p : Nat → Prop} (h : partA P t off l = some v) (hn : AV.nms p l) : v.nm p := by
  rcases partA_cases h with ⟨n, h1, h2, h3, rfl⟩ | ⟨h1, h2⟩
  · exact nms_take _ (nms_drop _ hn)
  · exact nms_nth hn h2

/-! ### Equality -/

theorem eqA_sound {P : Program} (w : World) : ∀ (d : Nat) (t : TypeId) (x y : AV) (b : Bool), eqA P d t x y = some b → ∀ (D : Nat), d ≤ D → ∀ (u v : Value), VR E x u → VR E y v →
    (Op.equalIn D t u v).run P w = .ok b w := by
  intro d
  induction d with
  | zero => intro t x y b h; simp [eqA] at h
  | succ d ih =>
    intro t x y b h D hD u v hu hv
    obtain ⟨D, rfl⟩ : ∃ m, D = m + 1 := ⟨D - 1, by omega⟩
    have hD' : d ≤ D := by omega
    unfold eqA at h
    split at h
    · rename_i k hk
      split at h
      · split at h
        · rename_i hkk
          subst hkk
          simp only [VR] at hu hv
          subst hu; subst hv
          simp only [Option.some.injEq] at h
          subst h
          exact run_equalIn_int w D t _ _ _ _ hk
        · simp at h
      · simp at h
    · rename_i hk
      split at h
      · simp only [VR] at hu hv
        subst hu; subst hv
        simp only [Option.some.injEq] at h
        subst h
        exact run_equalIn_bool w D t _ _ hk
      · simp at h
    · rename_i hk
      split at h
      · simp only [VR] at hu hv
        subst hu; subst hv
        simp only [Option.some.injEq] at h
        subst h
        rw [run_equalIn_string w D t _ _ hk]
        simp
      · simp at h
    · rename_i n e hk
      split at h
      · rename_i xs ys s hs
        simp only [VR] at hu hv
        obtain ⟨us, rfl, hu⟩ := hu
        obtain ⟨vs, rfl, hv⟩ := hv
        obtain ⟨i, hi, hsz⟩ := sizeT_info hs
        rw [run_equalIn_array w D _ _ hk hi]
        have hc : P.cellsOf e = s := by simp [Program.cellsOf, hi, hsz]
        rw [hc]
        generalize List.range n = is at h ⊢
        clear hk
        induction is generalizing b with
        | nil => simp [eqItemsA] at h; subst h; simp [Op.eqItems]
        | cons j is ihs =>
          unfold eqItemsA at h
          split at h
          · rename_i x1 y1 hx1 hy1
            obtain ⟨p1, hp1, hq1⟩ := part_sound hx1 hu w
            obtain ⟨p2, hp2, hq2⟩ := part_sound hy1 hv w
            split at h
            · rename_i p hp
              have hr := ih _ _ _ _ hp D hD' p1 p2 hq1 hq2
              split at h
              · simp only [Option.some.injEq] at h
                subst h
                simp only [Op.eqItems, Sem.run_bind, hp1, hp2, hr, Result.andThen_ok]
                cases p <;> simp
              · split at h
                · rename_i q hq
                  simp only [Option.some.injEq] at h
                  subst h
                  simp only [Op.eqItems, Sem.run_bind, hp1, hp2, hr, Result.andThen_ok]
                  cases p
                  · simp
                  · have := ihs _ hq
                    simpa using this
                · simp at h
            · simp at h
          · simp at h
      · simp at h
    · rename_i fs hk
      split at h
      · rename_i xs ys hp
        simp only [VR] at hu hv
        obtain ⟨us, rfl, hu⟩ := hu
        obtain ⟨vs, rfl, hv⟩ := hv
        have hf : P.fieldsOf t = fs := by simp [Program.fieldsOf, hk]
        rw [run_equalIn_struct w D t _ _ (by rw [hf]; exact hk) hp, hf]
        generalize fs.toList = gs at h ⊢
        clear hk hf
        induction gs generalizing b with
        | nil => simp [eqFieldsA] at h; subst h; simp [Op.eqFields]
        | cons g gs ihs =>
          unfold eqFieldsA at h
          split at h
          · simp at h
          · rename_i hname
            have hname' : g.name ≠ "_" := by simpa using hname
            split at h
            · rename_i x1 y1 hx1 hy1
              obtain ⟨p1, hp1, hq1⟩ := part_sound hx1 hu w
              obtain ⟨p2, hp2, hq2⟩ := part_sound hy1 hv w
              split at h
              · rename_i p hp
                have hr := ih _ _ _ _ hp D hD' p1 p2 hq1 hq2
                split at h
                · simp only [Option.some.injEq] at h
                  subst h
                  simp only [Op.eqFields, hname', ne_eq, not_false_eq_true, if_true, Sem.run_bind, hp1, hp2, hr, Result.andThen_ok]
                  cases p <;> simp
                · split at h
                  · rename_i q hq
                    simp only [Option.some.injEq] at h
                    subst h
                    simp only [Op.eqFields, hname', ne_eq, not_false_eq_true, if_true, Sem.run_bind, hp1, hp2, hr, Result.andThen_ok]
                    cases p
                    · simp
                    · have := ihs _ hq
                      simpa using this
                  · simp at h
              · simp at h
            · simp at h
      · simp at h
    · simp at h

/-! ### binOp -/

theorem VR.int {E : Env} {k : IntKind} {n : Int} : VR E (.int k n) (.int k n) := by simp [VR]
theorem VR.bool {E : Env} {b : Bool} : VR E (.bool b) (.bool b) := by simp [VR]
theorem VR.str {E : Env} {l : List UInt8} : VR E (.str l) (.string ⟨l.toArray⟩) := by simp [VR]

theorem binI_sound {P : Program} (w : World) {op : BinOp} {T : TypeId} {k : IntKind} {m n : Int} {q : List Prop} {r : AV} (h : binI op k m n = some (q, r)) (hq : ∀ p ∈ q, p) :
    ∃ z, (binOp op T (.int k m) (.int k n)).run P w = .ok z w ∧ VR E r z ∧ (∀ p, r.nm p) := by
  unfold binI at h
  cases op <;> simp only [Option.some.injEq, Prod.mk.injEq, reduceCtorEq] at h
  all_goals (obtain ⟨rfl, rfl⟩ := h)
  all_goals (refine ⟨_, ?_, (by first | exact VR.int | exact VR.bool | exact VR.str), by simp [AV.nm]⟩)
  all_goals (simp only [binOp_add, binOp_sub, binOp_mul, binOp_quo, binOp_rem, binOp_and, binOp_or, binOp_xor, binOp_andNot, binOp_eql, binOp_neq, binOp_lss, binOp_leq, binOp_gtr, binOp_geq, Op.intArith, Op.intBits])
  all_goals (try rfl)
  all_goals (have h0 := hq _ (List.Mem.head _); simp [Op.intDiv, h0])

theorem binS_sound {P : Program} (w : World) {op : BinOp} {T : TypeId} {l m : List UInt8} {q : List Prop} {r : AV} (h : binS op l m = some (q, r)) (hq : ∀ p ∈ q, p) :
    ∃ z, (binOp op T (.string ⟨l.toArray⟩) (.string ⟨m.toArray⟩)).run P w = .ok z w ∧ VR E r z ∧ (∀ p, r.nm p) := by
  unfold binS at h
  cases op <;> simp only [Option.some.injEq, Prod.mk.injEq, reduceCtorEq] at h
  all_goals (obtain ⟨rfl, rfl⟩ := h)
  all_goals (refine ⟨_, ?_, (by first | exact VR.int | exact VR.bool | exact VR.str), by simp [AV.nm]⟩)
  case add =>
    have h0 := hq _ (List.Mem.head _)
    simp only [binOp_string_add, Op.stringOp]
    have hs1 : (⟨l.toArray⟩ : ByteArray).size = l.length := by simp [ByteArray.size]
    have hs2 : (⟨m.toArray⟩ : ByteArray).size = m.length := by simp [ByteArray.size]
    rw [if_neg (by rw [hs1, hs2, IntKind.max_i64]; omega)]
    have : ((⟨l.toArray⟩ : ByteArray) ++ ⟨m.toArray⟩) = ⟨(l ++ m).toArray⟩ := by
      apply ByteArray.ext
      simp [ByteArray.data_append]
    rw [this]
    rfl
  all_goals (simp [binOp, Op.stringOp])

theorem binOp_equal {P : Program} {w : World} {op : BinOp} {T : TypeId} {x y : Value} {b : Bool} {r : AV} (hr : notIf op b = some r)
    (hb : ∀ op, binOp op T x y = match op with | .eql => (do pure (.bool (← Op.equal T x y))) | .neq => (do pure (.bool (!(← Op.equal T x y)))) | o => binOp o T x y)
    (he : (Op.equal T x y).run P w = .ok b w) : ∃ z, (binOp op T x y).run P w = .ok z w ∧ VR E r z ∧ (∀ p, r.nm p) := by
  unfold notIf at hr
  cases op <;> simp only [Option.some.injEq, reduceCtorEq] at hr
  all_goals (subst hr; refine ⟨_, ?_, VR.bool, by simp [AV.nm]⟩; rw [hb]; simp [he])

theorem equalIn_pp {P : Program} (w : World) (d : Nat) {T e : TypeId} (h : P.underlying T = some (.pointer e)) (b : Option Addr) :
    (Op.equalIn (d + 1) T (.pointer none) (.pointer b)).run P w = .ok b.isNone w := by
  simp [Op.equalIn, run_underlying h]
theorem equalIn_pp' {P : Program} (w : World) (d : Nat) {T e : TypeId} (h : P.underlying T = some (.pointer e)) (a : Addr) :
    (Op.equalIn (d + 1) T (.pointer (some a)) (.pointer none)).run P w = .ok false w := by
  simp [Op.equalIn, run_underlying h]
theorem equalIn_in {P : Program} (w : World) (d : Nat) {T : TypeId} {ms : Array (String × TypeId)} (h : P.underlying T = some (.interface ms)) (t : TypeId) (z : Value) :
    (Op.equalIn (d + 1) T (.iface t z) .nilIface).run P w = .ok false w := by
  simp [Op.equalIn, run_underlying h]
theorem equalIn_ni {P : Program} (w : World) (d : Nat) {T : TypeId} {ms : Array (String × TypeId)} (h : P.underlying T = some (.interface ms)) (t : TypeId) (z : Value) :
    (Op.equalIn (d + 1) T .nilIface (.iface t z)).run P w = .ok false w := by
  simp [Op.equalIn, run_underlying h]

theorem opBin_sound {P : Program} (w : World) {op : BinOp} {T : TypeId} {x y : AV} {u v : Value} {q : List Prop} {r : AV} (ox oy : Operand)
    (h : opBin P op T x y = some (q, r)) (hq : ∀ p ∈ q, p) (hx : VR E x u) (hy : VR E y v) :
    ∃ z, ((do eqGuard op T ox oy u v; binOp op T u v) : Sem Value).run P w = .ok z w ∧ VR E r z ∧ (∀ p, r.nm p) := by
  unfold opBin at h
  split at h
  · simp only [VR] at hx hy
    subst hx; subst hy
    simp only [eqGuard_at_int, Sem.run_bind, Sem.run_pure, Result.andThen_ok]
    split at h
    · simp only [Option.some.injEq, Prod.mk.injEq] at h
      obtain ⟨rfl, rfl⟩ := h
      have h0 : (0 : Int) ≤ _ := hq _ (List.Mem.head _)
      refine ⟨_, ?_, VR.int, by simp [AV.nm]⟩
      rw [binOp_shl, Op.shift, if_neg (by omega)]
      rfl
    · simp only [Option.some.injEq, Prod.mk.injEq] at h
      obtain ⟨rfl, rfl⟩ := h
      have h0 : (0 : Int) ≤ _ := hq _ (List.Mem.head _)
      refine ⟨_, ?_, VR.int, by simp [AV.nm]⟩
      rw [binOp_shr, Op.shift, if_neg (by omega)]
      rfl
    · split at h
      · rename_i hk
        subst hk
        exact binI_sound w h hq
      · simp at h
  · simp only [VR] at hx hy
    subst hx; subst hy
    simp only [eqGuard_at_string, Sem.run_bind, Sem.run_pure, Result.andThen_ok]
    exact binS_sound w h hq
  · simp only [VR] at hx hy
    subst hx; subst hy
    simp only [eqGuard_at_bool, Sem.run_bind, Sem.run_pure, Result.andThen_ok]
    split at h
    · rename_i hu hn
      simp only [Option.some.injEq, Prod.mk.injEq] at h
      obtain ⟨rfl, rfl⟩ := h
      refine binOp_equal hn (fun o => by cases o <;> rfl) ?_
      exact run_equalIn_bool w 9999 T _ _ hu
    · simp at h
  · split at h
    · rename_i hg he
      split at h
      · rename_i hn
        simp only [Option.some.injEq, Prod.mk.injEq] at h
        obtain ⟨rfl, rfl⟩ := h
        have := eqA_sound w 8 T _ _ _ he 10000 (by omega) u v hx hy
        simp only [VR] at hx hy
        obtain ⟨xs, rfl, hx⟩ := hx
        obtain ⟨ys, rfl, hy⟩ := hy
        simp only [Sem.run_bind, run_eqGuard_agg w op T ox oy _ _ hg, Result.andThen_ok]
        exact binOp_equal hn (fun o => by cases o <;> rfl) this
      · simp at h
    · simp at h
  · split at h
    · rename_i e hu
      split at h
      · simp only [VR] at hx hy
        subst hx; subst hy
        simp only [Option.map_eq_some_iff, Prod.mk.injEq] at h
        obtain ⟨z, hz, rfl, rfl⟩ := h
        simp only [eqGuard_at_pointer, Sem.run_bind, Sem.run_pure, Result.andThen_ok]
        refine binOp_equal hz (fun o => by cases o <;> rfl) ?_
        exact equalIn_pp w 9999 hu none
      · simp only [VR] at hx hy
        subst hx
        obtain ⟨b, o, cs, rfl, _⟩ := hy
        simp only [Option.map_eq_some_iff, Prod.mk.injEq] at h
        obtain ⟨z, hz, rfl, rfl⟩ := h
        simp only [eqGuard_at_pointer, Sem.run_bind, Sem.run_pure, Result.andThen_ok]
        refine binOp_equal hz (fun o => by cases o <;> rfl) ?_
        exact equalIn_pp w 9999 hu _
      · simp only [VR] at hx hy
        subst hy
        obtain ⟨b, o, cs, rfl, _⟩ := hx
        simp only [Option.map_eq_some_iff, Prod.mk.injEq] at h
        obtain ⟨z, hz, rfl, rfl⟩ := h
        simp only [eqGuard_at_pointer, Sem.run_bind, Sem.run_pure, Result.andThen_ok]
        refine binOp_equal hz (fun o => by cases o <;> rfl) ?_
        exact equalIn_pp' w 9999 hu _
      · simp at h
    · rename_i ms hu
      split at h
      · simp only [VR] at hx hy
        subst hy
        obtain ⟨a, rfl, _⟩ := hx
        simp only [Option.map_eq_some_iff, Prod.mk.injEq] at h
        obtain ⟨z, hz, rfl, rfl⟩ := h
        simp only [eqGuard_at_iface, Sem.run_bind, Sem.run_pure, Result.andThen_ok]
        refine binOp_equal hz (fun o => by cases o <;> rfl) ?_
        exact equalIn_in w 9999 hu _ _
      · simp only [VR] at hx hy
        subst hx
        obtain ⟨a, rfl, _⟩ := hy
        simp only [Option.map_eq_some_iff, Prod.mk.injEq] at h
        obtain ⟨z, hz, rfl, rfl⟩ := h
        simp only [eqGuard_nil_iface, Sem.run_bind, Sem.run_pure, Result.andThen_ok]
        refine binOp_equal hz (fun o => by cases o <;> rfl) ?_
        exact equalIn_ni w 9999 hu _ _
      · simp at h
    · simp at h

end
end Go.Tr
