/- Functions: what a call answers, of closed data; calls among functions.
   Conditions: none. -/
import Derived.Test.YthbkpjlimmckaaaTrT
namespace Go.Tr
open Go
set_option linter.unusedVariables false
set_option linter.unusedSimpArgs false

/-! ### Results -/

noncomputable def resA' (P : Program) (tm : Nat → Option AV) (ob : Nat → Option AO) : List ResultVar → Option (List Prop × List AV)
  | [] => some ([], [])
  | .tmp t :: r => match resA' P tm ob r with
    | some (q, l) => match tm t with
      | some v => some (q, v :: l)
      | none => none
    | none => none
  | .cell t T :: r => match resA' P tm ob r with
    | some (q, l) => match tm t with
      | some v => match opLoad P T ob v with
        | some (p, w) => some (appA p q, w :: l)
        | none => none
      | none => none
    | none => none

def oneA (l : List AV) : AV :=
  match l with
  | [v] => v
  | l => .tup l

/-- A result whose own rows are frozen. -/
def frzA (ob : Nat → Option AO) (v : AV) : Option (List Prop × AV) :=
  match v with
  | .rsl n e off len => match readA ob e (.rsl n e off len) with
    | some (xs, q) => some (q, .fsl e xs)
    | none => none
  | .int k n => some ([], .int k n)
  | .bool b => some ([], .bool b)
  | .str l => some ([], .str l)
  | .nilp => some ([], .nilp)
  | .nilsl => some ([], .nilsl)
  | .nilif => some ([], .nilif)
  | .nilf => some ([], .nilf)
  | .fsl e xs => some ([], .fsl e xs)
  | .fpt e x off => some ([], .fpt e x off)
  | .arr e xs => some ([], .arr e xs)
  | _ => none
def frzAs (ob : Nat → Option AO) : List AV → Option (List Prop × List AV)
  | [] => some ([], [])
  | v :: r => match frzA ob v, frzAs ob r with
    | some (p, w), some (q, l) => some (appA p q, w :: l)
    | _, _ => none
def frzR (ob : Nat → Option AO) (v : AV) : Option (List Prop × AV) :=
  match v with
  | .tup l => match frzAs2 l with
    | some (q, l') => some (q, .tup l')
    | none => none
  | .agg l => match frzAs ob l with
    | some (q, l') => some (q, .agg l')
    | none => none
  | v => frzA ob v
where
  frzAs2 : List AV → Option (List Prop × List AV)
    | [] => some ([], [])
    | .agg l :: r => match frzAs ob l, frzAs2 r with
      | some (p, l'), some (q, r') => some (appA p q, .agg l' :: r')
      | _, _ => none
    | v :: r => match frzA ob v, frzAs2 r with
      | some (p, w), some (q, r') => some (appA p q, w :: r')
      | _, _ => none

mutual
/-- The second says no more than the first. -/
def leA : AV → AV → Prop
  | .nilsl, .fsl _ xs => xs.length = 0
  | .tup l, .tup m => leAs l m
  | .agg l, .agg m => leAs l m
  | v, w => v = w
def leAs : List AV → List AV → Prop
  | [], [] => True
  | a :: l, b :: m => leA a b ∧ leAs l m
  | _, _ => False
end

mutual
theorem leA_sound {E : Env} : ∀ {a b : AV} {x : Value}, leA a b → VR E a x → VR E b x
  | a, b, x, h, hx => by
    cases a <;> cases b <;> first
      | (simp only [leA] at h; cases h; exact hx)
      | (simp only [leA] at h; simp at h; done)
      | skip
    case nilsl.fsl e xs =>
      simp only [leA] at h
      simp only [VR] at hx ⊢
      subst hx
      exact ⟨none, 0, by rw [h], by omega, .inl h⟩
    case tup.tup l m =>
      simp only [leA] at h
      simp only [VR] at hx ⊢
      obtain ⟨vs, rfl, hv⟩ := hx
      exact ⟨vs, rfl, leAs_sound h hv⟩
    case agg.agg l m =>
      simp only [leA] at h
      simp only [VR] at hx ⊢
      obtain ⟨vs, rfl, hv⟩ := hx
      exact ⟨vs, rfl, leAs_sound h hv⟩
theorem leAs_sound {E : Env} : ∀ {l m : List AV} {vs : List Value}, leAs l m → VRL E l vs → VRL E m vs
  | [], [], vs, _, hv => hv
  | [], b :: m, vs, h, _ => by simp [leAs] at h
  | a :: l, [], vs, h, _ => by simp [leAs] at h
  | a :: l, b :: m, vs, h, hv => by
    simp only [leAs] at h
    simp only [VRL] at hv ⊢
    obtain ⟨v, r, rfl, h1, h2⟩ := hv
    exact ⟨v, r, rfl, leA_sound h.1 h1, leAs_sound h.2 h2⟩
end

section
variable {W0 : World} {okIn B us : Nat → Prop} {tm : Nat → Option AV} {ob : Nat → Option AO} {nt : Nat} {E : Env} {a : Act}

/-- All that is owned is frozen. -/
def froze (E : Env) : Env := ⟨E.w, fun _ => none, okF E⟩

theorem froze_goes : Goes (fun _ => True) E (froze E) := ⟨fun _ _ => rfl, fun b h => .inl h, fun n _ L h => by simp [froze] at h⟩

theorem frzA_sound (hs : SimE W0 okIn B us tm ob nt E a) {v w : AV} {q : List Prop} {x : Value} (h : frzA ob v = some (q, w)) (hq : ∀ p ∈ q, p) (hx : VR E v x) : VR (froze E) w x := by
  unfold frzA at h
  have mono : ∀ {u : AV}, VR E u x → (u.nm fun _ => True) → VR (froze E) u x := fun hu hn => VR.mono froze_goes _ _ hn hu
  split at h
  · split at h
    · rename_i xs q' hr
      simp only [Option.some.injEq, Prod.mk.injEq] at h
      obtain ⟨rfl, rfl⟩ := h
      obtain ⟨base, cap, rfl, hc, hrest⟩ := readA_sound hs hr hq hx
      simp only [VR, LRs]
      refine ⟨base, cap, rfl, hc, ?_⟩
      rcases hrest with h0 | ⟨b, o, rfl, hb, hrow⟩
      · exact .inl h0
      · refine .inr ⟨b, o, rfl, hb, fun i hi => ?_⟩
        obtain ⟨cs, c1, c2, c3⟩ := hrow i hi
        exact ⟨cs, c1, c2, LRs.mono (fun _ _ => rfl) (fun _ h => .inl h) _ _ _ c3⟩
    · simp at h
  all_goals first
    | (simp only [Option.some.injEq, Prod.mk.injEq] at h; obtain ⟨rfl, rfl⟩ := h; exact mono hx (by simp [AV.nm]))
    | simp at h

theorem frzAs_sound (hs : SimE W0 okIn B us tm ob nt E a) : ∀ {l m : List AV} {q : List Prop} {vs : List Value}, frzAs ob l = some (q, m) → (∀ p ∈ q, p) → VRL E l vs → VRL (froze E) m vs
  | [], m, q, vs, h, hq, hv => by
    simp only [frzAs, Option.some.injEq, Prod.mk.injEq] at h
    obtain ⟨rfl, rfl⟩ := h
    simpa [VRL] using hv
  | v :: r, m, q, vs, h, hq, hv => by
    unfold frzAs at h
    split at h
    · rename_i p w q' l h1 h2
      simp only [Option.some.injEq, Prod.mk.injEq] at h
      obtain ⟨rfl, rfl⟩ := h
      simp only [VRL] at hv ⊢
      obtain ⟨y, ys, rfl, g1, g2⟩ := hv
      exact ⟨y, ys, rfl, frzA_sound hs h1 (hq_l hq) g1, frzAs_sound hs h2 (hq_r hq) g2⟩
    · simp at h

theorem frzAs2_sound (hs : SimE W0 okIn B us tm ob nt E a) : ∀ {l m : List AV} {q : List Prop} {vs : List Value}, frzR.frzAs2 ob l = some (q, m) → (∀ p ∈ q, p) → VRL E l vs → VRL (froze E) m vs
  | [], m, q, vs, h, hq, hv => by
    simp only [frzR.frzAs2, Option.some.injEq, Prod.mk.injEq] at h
    obtain ⟨rfl, rfl⟩ := h
    simpa [VRL] using hv
  | v :: r, m, q, vs, h, hq, hv => by
    unfold frzR.frzAs2 at h
    split at h
    · rename_i heq; simp at heq
    · rename_i l' r' heq
      simp only [List.cons.injEq] at heq
      obtain ⟨rfl, rfl⟩ := heq
      split at h
      · rename_i p w q' l h1 h2
        simp only [Option.some.injEq, Prod.mk.injEq] at h
        obtain ⟨rfl, rfl⟩ := h
        simp only [VRL, VR] at hv ⊢
        obtain ⟨y, ys, rfl, ⟨z, rfl, g1⟩, g2⟩ := hv
        exact ⟨_, ys, rfl, ⟨z, rfl, frzAs_sound hs h1 (hq_l hq) g1⟩, frzAs2_sound hs h2 (hq_r hq) g2⟩
      · simp at h
    · rename_i v' r' hne heq
      simp only [List.cons.injEq] at heq
      obtain ⟨rfl, rfl⟩ := heq
      split at h
      · rename_i p w q' l h1 h2
        simp only [Option.some.injEq, Prod.mk.injEq] at h
        obtain ⟨rfl, rfl⟩ := h
        simp only [VRL] at hv ⊢
        obtain ⟨y, ys, rfl, g1, g2⟩ := hv
        exact ⟨y, ys, rfl, frzA_sound hs h1 (hq_l hq) g1, frzAs2_sound hs h2 (hq_r hq) g2⟩
      · simp at h

theorem frzR_sound (hs : SimE W0 okIn B us tm ob nt E a) {v w : AV} {q : List Prop} {x : Value} (h : frzR ob v = some (q, w)) (hq : ∀ p ∈ q, p) (hx : VR E v x) : VR (froze E) w x := by
  unfold frzR at h
  split at h
  · split at h
    · rename_i q' l' h1
      simp only [Option.some.injEq, Prod.mk.injEq] at h
      obtain ⟨rfl, rfl⟩ := h
      simp only [VR] at hx ⊢
      obtain ⟨vs, rfl, hv⟩ := hx
      exact ⟨vs, rfl, frzAs2_sound hs h1 hq hv⟩
    · simp at h
  · split at h
    · rename_i q' l' h1
      simp only [Option.some.injEq, Prod.mk.injEq] at h
      obtain ⟨rfl, rfl⟩ := h
      simp only [VR] at hx ⊢
      obtain ⟨vs, rfl, hv⟩ := hx
      exact ⟨vs, rfl, frzAs_sound hs h1 hq hv⟩
    · simp at h
  · exact frzA_sound hs h hq hx

theorem run_asAddr {P : Program} {T : TypeId} {v z : Value} {w w' : World} (h : (Instr.loadAt T v).run P w = .ok z w') : ((do loadVar T (← asAddr v)) : Sem Value).run P w = .ok z w' := by
  cases v <;> simp only [Instr.loadAt, Instr.sureAddr, Sem.run_bind, run_stuck, Result.andThen_halt, reduceCtorEq] at h
  rename_i p
  cases p with
  | none => simp at h
  | some ad => simpa [asAddr] using h

theorem resA'_sound {P : Program} (hs : SimE W0 okIn B us tm ob nt E a) : ∀ {rs : List ResultVar} {l : List AV} {q : List Prop}, resA' P tm ob rs = some (q, l) → (∀ p ∈ q, p) →
    ∃ vs, (rs.mapM (fun | .tmp t => pure (a.tmps.getD t undef) | .cell b t => do loadVar t (← asAddr (a.tmps.getD b undef)) : ResultVar → Sem Value)).run P E.w = .ok vs E.w ∧ VRL E l vs
  | [], l, q, h, _ => by
    simp only [resA', Option.some.injEq, Prod.mk.injEq] at h
    obtain ⟨rfl, rfl⟩ := h
    exact ⟨[], by simp, by simp [VRL]⟩
  | .tmp t :: r, l, q, h, hq => by
    unfold resA' at h
    split at h
    · rename_i q' l' h1
      split at h
      · rename_i v hv
        simp only [Option.some.injEq, Prod.mk.injEq] at h
        obtain ⟨rfl, rfl⟩ := h
        obtain ⟨vs, g1, g2⟩ := resA'_sound hs h1 hq
        refine ⟨a.tmps.getD t undef :: vs, ?_, ?_⟩
        · simp only [List.mapM_cons, Sem.run_bind, Sem.run_pure, Result.andThen_ok, g1]
        · simp only [VRL]; exact ⟨_, _, rfl, (hs.tmp t v hv).1, g2⟩
      · simp at h
    · simp at h
  | .cell t T :: r, l, q, h, hq => by
    unfold resA' at h
    split at h
    · rename_i q' l' h1
      split at h
      · rename_i v hv
        split at h
        · rename_i p w hl
          simp only [Option.some.injEq, Prod.mk.injEq] at h
          obtain ⟨rfl, rfl⟩ := h
          obtain ⟨vs, g1, g2⟩ := resA'_sound hs h1 (hq_r hq)
          obtain ⟨z, k1, k2, k3⟩ := opLoad_sound hs hl (hq_l hq) (hs.tmp t v hv).1
          refine ⟨z :: vs, ?_, ?_⟩
          · have := run_asAddr k1
            simp only [List.mapM_cons, Sem.run_bind] at this ⊢
            simp only [this, Result.andThen_ok, g1, Sem.run_pure]
          · simp only [VRL]; exact ⟨_, _, rfl, k2, g2⟩
        · simp at h
      · simp at h
    · simp at h

theorem results_run {P : Program} {fn : Func} (hs : SimE W0 okIn B us tm ob nt E a) {l : List AV} {q : List Prop} (h : resA' P tm ob fn.results.toList = some (q, l)) (hq : ∀ p ∈ q, p) :
    ∃ x, (results fn a.tmps).run P E.w = .ok x E.w ∧ VR E (oneA l) x := by
  obtain ⟨vs, h1, h2⟩ := resA'_sound hs h hq
  have hm : (fn.results.mapM (fun | .tmp t => pure (a.tmps.getD t undef) | .cell b t => do loadVar t (← asAddr (a.tmps.getD b undef)) : ResultVar → Sem Value)).run P E.w = .ok vs.toArray E.w := by
    rw [Array.mapM_eq_mapM_toList, Sem.run_map, h1]; rfl
  have hr : (results fn a.tmps).run P E.w = .ok (if h : vs.toArray.size = 1 then vs.toArray[0] else .tuple vs.toArray) E.w := by
    have e1 : (results fn a.tmps).run P E.w = ((fn.results.mapM (fun | .tmp t => pure (a.tmps.getD t undef) | .cell b t => do loadVar t (← asAddr (a.tmps.getD b undef)) : ResultVar → Sem Value)).run P E.w).andThen
        fun vs w' => (pure (if h : vs.size = 1 then vs[0] else .tuple vs) : Sem Value).run P w' := by
      unfold results
      rw [Sem.run_bind]
      rfl
    rw [e1, hm]
    rfl
  refine ⟨_, hr, ?_⟩
  cases l with
  | nil => simp only [VRL] at h2; subst h2; exact ⟨[], rfl, by simp [VRL]⟩
  | cons v l =>
    cases l with
    | nil =>
      simp only [VRL] at h2
      obtain ⟨x, r, rfl, hx, rfl⟩ := h2
      exact hx
    | cons v' l =>
      have hvs := h2
      simp only [VRL] at h2
      obtain ⟨x, r, rfl, hx, x', r', rfl, hx', hr'⟩ := h2
      exact ⟨_, by simp, hvs⟩

end

/-! ### Functions -/

def callable (P : Program) (F : FuncId) : Prop := ∃ fn, P.funcs[F]? = some fn ∧ (fn.name == "runtime.NumGoroutine") = false ∧ fn.body.isNone = false

/-- What was there is as it was. -/
structure Keeps (w w' : World) : Prop where
  heap : ∀ b, b < w.heap.size → w'.heap[b]? = w.heap[b]?
  size : w.heap.size ≤ w'.heap.size
  os : w'.os = w.os
  tape : w'.tape = w.tape
  output : w'.output = w.output

/-- Of closed arguments the function answers a closed result, and turns nothing that was there. -/
def FnOK (P : Program) (F : FuncId) (args : List AV) (r : AV) : Prop :=
  callable P F ∧ ∀ (w : World) (ok : Nat → Prop) (vs : List Value), (∀ b, ok b → b < w.heap.size) → VRL ⟨w, fun _ => none, ok⟩ args vs →
    Calls P F vs.toArray w fun e w' => ∃ x ok', e = .returned x ∧ Keeps w w' ∧ (∀ b, ok b → ok' b) ∧ (∀ b, ok' b → b < w'.heap.size ∧ (ok b ∨ w.heap.size ≤ b)) ∧ VR ⟨w', fun _ => none, ok'⟩ r x

def argT (i : Nat) : List AV → List (Nat × AV)
  | [] => []
  | a :: r => (i, a) :: argT (i + 1) r

def resOK (P : Program) (rs : List ResultVar) (r : AV) (g : Ga) : Prop :=
  match resA' P (lkA g.tmps) (lkO g.objs) rs with
  | some (q, l) => match frzR (lkO g.objs) (oneA l) with
    | some (q', v) => evObs q (evObs q' (fvd v fun v => Obe (leA v r)))
    | none => False
  | none => False

def retK (P : Program) (rs : List ResultVar) (r : AV) (e : Exit) (g : Ga) : Prop :=
  match e with
  | .normal => resOK P rs r g
  | .ret => resOK P rs r g
  | _ => False

theorem lkA_argT {l : List AV} {vs : List Value} {E : Env} (h : VRL E l vs) : ∀ (i t : Nat) (v : AV), lkA (argT i l) t = some v → i ≤ t ∧ ∃ x, vs[t - i]? = some x ∧ VR E v x ∧ v ∈ l := by
  induction l generalizing vs with
  | nil => intro i t v h; simp [argT, lkA] at h
  | cons a r ih =>
    intro i t v hv
    simp only [VRL] at h
    obtain ⟨x, ys, rfl, h1, h2⟩ := h
    simp only [argT, lkA] at hv
    split at hv
    · rename_i hb
      simp only [Option.some.injEq] at hv
      subst hv
      rw [beq_true hb]
      exact ⟨Nat.le_refl _, x, by simp, h1, by simp⟩
    · obtain ⟨g1, y, g2, g3, g4⟩ := ih h2 (i + 1) t v hv
      refine ⟨by omega, y, ?_, g3, by simp [g4]⟩
      rw [show t - i = (t - (i + 1)) + 1 by omega]
      simpa using g2

theorem nms_mem {p : Nat → Prop} : ∀ {l : List AV} {v : AV}, AV.nms p l → v ∈ l → v.nm p
  | b :: l, v, h, hv => by
    simp only [AV.nms] at h
    rcases List.mem_cons.1 hv with rfl | hv
    · exact h.1
    · exact nms_mem h.2 hv

theorem FnOK.of_ev {P : Program} {C : Ctx} (hC : CtxOK P C) (hmix : P.follows .mixedOrders = true) {F : FuncId} {fn : Func} {c : Code} {args : List AV} {r : AV} (hf : P.funcs[F]? = some fn) (hb : fn.body = some c)
    (hname : (fn.name == "runtime.NumGoroutine") = false) (hcl : AV.nms (fun _ => False) args) (hle : args.length ≤ fn.ntmps) (h : ev P C c ⟨argT 0 args, [], 0, fn.ntmps⟩ (retK P fn.results.toList r)) : FnOK P F args r := by
  refine ⟨⟨fn, hf, hname, by rw [hb]; rfl⟩, fun w ok vs hok hvs => ?_⟩
  have hlen := hvs.length
  have hs : SimG w ok (fun b => w.heap.size ≤ b) ⟨argT 0 args, [], 0, fn.ntmps⟩ ⟨w, fun _ => none, ok⟩ { tmps := vs.toArray ++ Array.replicate (fn.ntmps - vs.toArray.size) undef, defers := [] } := by
    refine ⟨rfl, by simp; omega, fun t v ht => ?_, fun n o ho => by simp [lkO, lkA] at ho, fun n L hL => by simp at hL, ?_⟩
    · obtain ⟨h1, x, h2, h3, h4⟩ := lkA_argT hvs 0 t v ht
      rw [Nat.sub_zero] at h2
      have hlt : t < vs.length := by
        rcases Nat.lt_or_ge t vs.length with hlt | hge
        · exact hlt
        · rw [List.getElem?_eq_none hge] at h2; simp at h2
      refine ⟨?_, AV.nm_mono (fun _ h => h.elim) _ (nms_mem hcl h4)⟩
      have : (vs.toArray ++ Array.replicate (fn.ntmps - vs.toArray.size) undef).getD t undef = x := by
        rw [Array.getD_eq_getD_getElem?, Array.getElem?_append_left (by simpa using hlt)]
        simp [h2]
      rw [this]; exact h3
    · exact ⟨fun n m b h => by obtain ⟨L, h, _⟩ := h; simp at h, fun n b h => by obtain ⟨L, h, _⟩ := h; simp at h, fun b hb => ⟨hok b hb, .inl hb⟩, fun b hb => hb, fun _ _ _ => rfl, Nat.le_refl _, fun b hb => hb, rfl, rfl, rfl⟩
  have key : ∀ {g' : Ga} {E' : Env} {a' : Act}, resOK P fn.results.toList r g' → SimG w ok (fun b => w.heap.size ≤ b) g' E' a' →
      a'.defers = [] ∧ ∃ x, (results fn a'.tmps).run P E'.w = .ok x E'.w ∧ ∃ y ok', Ending.returned x = .returned y ∧ Keeps w E'.w ∧ (∀ b, ok b → ok' b) ∧ (∀ b, ok' b → b < E'.w.heap.size ∧ (ok b ∨ w.heap.size ≤ b)) ∧ VR ⟨E'.w, fun _ => none, ok'⟩ r y := by
    intro g' E' a' hr hs'
    unfold resOK at hr
    split at hr
    · rename_i q l hres
      split at hr
      · rename_i q' v hfr
        obtain ⟨h1, hr⟩ := evObs_iff.1 hr
        obtain ⟨h2, hle⟩ := evObs_iff.1 hr
        rw [fvd_eq] at hle
        obtain ⟨hle⟩ := hle
        obtain ⟨x, g1, g2⟩ := results_run hs' hres h1
        have g3 := frzR_sound hs' hfr h2 g2
        have he := hs'.env
        refine ⟨hs'.defers, x, g1, x, okF E', rfl, ⟨fun b hb => he.fr b hb (by omega), he.sz, he.os, he.tape, he.output⟩, fun b hb => .inl (he.oki b hb), fun b hb => ?_, leA_sound hle g3⟩
        rcases hb with hb | ⟨n, hn⟩
        · exact he.okl b hb
        · exact ⟨(he.own n b hn).2.1, .inr (he.own n b hn).1⟩
      · exact hr.elim
    · exact hr.elim
  refine calls_of_wp hf hb ?_
  refine wp_mono (ev_sound hC hmix c _ _ h w ok (fun b => w.heap.size ≤ b) _ _ hs) fun e a' w' hq => ?_
  obtain ⟨g', E', h1, rfl, h3⟩ := hq
  cases e with
  | normal =>
    obtain ⟨k1, x, k2, k3⟩ := key h1 h3
    exact ⟨k1, x, k2, k3⟩
  | ret =>
    obtain ⟨k1, x, k2, k3⟩ := key h1 h3
    exact ⟨k1, x, k2, k3⟩
  | exit id => exact h1.elim
  | goto l => exact h1.elim
  | panic ch => exact h1.elim
  | outgrown => exact h1.elim

/-! ### Calls of functions of closed data -/

/-- A closed datum of leaves, from the right. -/
def shV : List AV → Option ((e : Sh) × e.T)
  | [] => none
  | [v] => leaf v
  | v :: r => match leaf v, shV r with
    | some ⟨a, x⟩, some ⟨b, y⟩ => some ⟨.pair a b, (x, y)⟩
    | _, _ => none
where
  leaf : AV → Option ((e : Sh) × e.T)
    | .int k n => some ⟨.int k, n⟩
    | .bool b => some ⟨.bool, b⟩
    | .str l => some ⟨.str, l⟩
    | .fsl e xs => some ⟨.sl e, xs⟩
    | _ => none

/-- An argument, frozen; what turns by that. -/
def frzArg (ob : Nat → Option AO) (v : AV) : Option (List Prop × AV × Upd) :=
  match v with
  | .rsl n e off len => match ob n with
    | some (.rows e' xs) => if h : e' = e then some ([off + len ≤ xs.length], .fsl e (sliceA off (off + len) (h ▸ xs)), [(n, some (.frz e' xs))]) else none
    | some (.frz e' xs) => if h : e' = e then some ([off + len ≤ xs.length], .fsl e (sliceA off (off + len) (h ▸ xs)), []) else none
    | _ => none
  | .ptr n off => match ob n with
    | some (.cells l) => match shV l with
      | some ⟨e, x⟩ => some ([], .fpt e x off, [(n, some (.fcl l))])
      | none => none
    | some (.fcl l) => match shV l with
      | some ⟨e, x⟩ => some ([], .fpt e x off, [])
      | none => none
    | _ => none
  | .int k n => some ([], .int k n, [])
  | .bool b => some ([], .bool b, [])
  | .str l => some ([], .str l, [])
  | .nilp => some ([], .nilp, [])
  | .nilsl => some ([], .nilsl, [])
  | .nilif => some ([], .nilif, [])
  | .nilf => some ([], .nilf, [])
  | .fsl e xs => some ([], .fsl e xs, [])
  | .fpt e x off => some ([], .fpt e x off, [])
  | .arr e xs => some ([], .arr e xs, [])
  | _ => none
def frzArgs (ob : Nat → Option AO) : List AV → Option (List Prop × List AV × Upd)
  | [] => some ([], [], [])
  | v :: r => match frzArg ob v, frzArgs ob r with
    | some (p, w, u), some (q, l, u') => some (appA p q, w :: l, appA u u')
    | _, _ => none
/-- Arguments; a struct's cells, and what a function value holds, are frozen too. -/
def frzTop (ob : Nat → Option AO) : List AV → Option (List Prop × List AV × Upd)
  | [] => some ([], [], [])
  | .agg l :: r => match frzArgs ob l, frzTop ob r with
    | some (p, w, u), some (q, l, u') => some (appA p q, .agg w :: l, appA u u')
    | _, _ => none
  | .fn f x y :: r => match frzArgs ob x, frzArgs ob y, frzTop ob r with
    | some (p, x', u), some (p', y', u'), some (q, l, u'') => some (appA p (appA p' q), .fn f x' y' :: l, appA u (appA u' u''))
    | _, _, _ => none
  | v :: r => match frzArg ob v, frzTop ob r with
    | some (p, w, u), some (q, l, u') => some (appA p q, w :: l, appA u u')
    | _, _ => none

def allP : List Prop → Prop
  | [] => True
  | [p] => p
  | p :: r => p ∧ allP r

/-- A table of pure functions: closed arguments, closed results. -/
abbrev Pure := FuncId → List AV → Option (Prop × AV)
structure PureOK (P : Program) (T : Pure) : Prop where
  ok : ∀ F args p r, T F args = some (p, r) → p → FnOK P F args r
  closed : ∀ F args p r, T F args = some (p, r) → r.nm (fun _ => False)

def ctxQ (q : List Prop) (p : Prop) (r : AV) (u : Upd) : Option (Prop × AV × Upd) :=
  match q with
  | [] => some (p, r, u)
  | _ => some (allP (appA q [p]), r, u)

/-- The calls of a table of pure functions. -/
def ctxP (T : Pure) : Ctx := fun F args ob _ => match frzTop ob args with
  | some (q, args', u) => match T F args' with
    | some (p, r) => ctxQ q p r u
    | none => none
  | none => none

end Go.Tr
