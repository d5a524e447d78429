/- Functions: what a call answers, of closed data; calls among functions.
   Conditions: none. -/
import Derived.Test.YtdbpknejbpiebaaBC
namespace Go.Tr
open Go
set_option linter.unusedVariables false
set_option linter.unusedSimpArgs false
noncomputable def resA' (P : Program) (tm : Nat → Option AV) (ob : Nat → Option AO) : List ResultVar → Option (List Prop × List AV)
  | [] => some ([], [])
  | .tmp t :: r => match resA' P tm ob r with
    | some (q, l) => match tm t with
      | some v => some (q, v :: l)
      | none => none
    | none => none
  | .cell t T :: r => match resA' P tm ob r with
    | some (q, l) => match tm t with
      | some v => match opLoad P T ob v with
        | some (p, w) => some (appA p q, w :: l)
        | none => none
      | none => none
    | none => none
def oneA (l : List AV) : AV :=
  match l with
  | [v] => v
  | l => .tup l
section
variable {W0 : WX} {okIn B us : Nat → Prop} {tm : Nat → Option AV} {ob : Nat → Option AO} {nt : Nat} {E : Env} {a : Act}
theorem run_asAddr {P : Program} {T : TypeId} {v z : Value} {w w' : World} (h : (Instr.loadAt T v).run P w = .ok z w') : ((do loadVar T (← asAddr v)) : Sem Value).run P w = .ok z w' := by
  cases v <;> simp only [Instr.loadAt, Instr.sureAddr, Sem.run_bind, run_stuck, Result.andThen_halt, reduceCtorEq] at h
  rename_i p
  cases p with
  | none => simp at h
  | some ad => simpa [asAddr] using h
theorem resA'_sound {P : Program} (hs : SimE W0 okIn B us tm ob nt E a) : ∀ {rs : List ResultVar} {l : List AV} {q : List Prop}, resA' P tm ob rs = some (q, l) → (∀ p ∈ q, p) →
    ∃ vs, (rs.mapM (fun | .tmp t => pure (a.tmps.getD t undef) | .cell b t => do loadVar t (← asAddr (a.tmps.getD b undef)) : ResultVar → Sem Value)).run P E.w = .ok vs E.w ∧ VRL E l vs
  | [], l, q, h, _ => by
    simp only [resA', Option.some.injEq, Prod.mk.injEq] at h
    obtain ⟨rfl, rfl⟩ := h
    exact ⟨[], by simp, by simp [VRL]⟩
  | .tmp t :: r, l, q, h, hq => by
    unfold resA' at h
    split at h
    · rename_i q' l' h1
      split at h
      · rename_i v hv
        simp only [Option.some.injEq, Prod.mk.injEq] at h
        obtain ⟨rfl, rfl⟩ := h
        obtain ⟨vs, g1, g2⟩ := resA'_sound hs h1 hq
        refine ⟨a.tmps.getD t undef :: vs, ?_, ?_⟩
        · simp only [List.mapM_cons, Sem.run_bind, Sem.run_pure, Result.andThen_ok, g1]
        · simp only [VRL]; exact ⟨_, _, rfl, (hs.tmp t v hv).1, g2⟩
      · simp at h
    · simp at h
  | .cell t T :: r, l, q, h, hq => by
    unfold resA' at h
    split at h
    · rename_i q' l' h1
      split at h
      · rename_i v hv
        split at h
        · rename_i p w hl
          simp only [Option.some.injEq, Prod.mk.injEq] at h
          obtain ⟨rfl, rfl⟩ := h
          obtain ⟨vs, g1, g2⟩ := resA'_sound hs h1 (hq_r hq)
          obtain ⟨z, k1, k2, k3⟩ := opLoad_sound hs hl (hq_l hq) (hs.tmp t v hv).1
          refine ⟨z :: vs, ?_, ?_⟩
          · have := run_asAddr k1
            simp only [List.mapM_cons, Sem.run_bind] at this ⊢
            simp only [this, Result.andThen_ok, g1, Sem.run_pure]
          · simp only [VRL]; exact ⟨_, _, rfl, k2, g2⟩
        · simp at h
      · simp at h
    · simp at h
theorem results_run {P : Program} {fn : Func} (hs : SimE W0 okIn B us tm ob nt E a) {l : List AV} {q : List Prop} (h : resA' P tm ob fn.results.toList = some (q, l)) (hq : ∀ p ∈ q, p) :
    ∃ x, (results fn a.tmps).run P E.w = .ok x E.w ∧ VR E (oneA l) x := by
  obtain ⟨vs, h1, h2⟩ := resA'_sound hs h hq
  have hm : (fn.results.mapM (fun | .tmp t => pure (a.tmps.getD t undef) | .cell b t => do loadVar t (← asAddr (a.tmps.getD b undef)) : ResultVar → Sem Value)).run P E.w = .ok vs.toArray E.w := by
    rw [Array.mapM_eq_mapM_toList, Sem.run_map, h1]; rfl
  have hr : (results fn a.tmps).run P E.w = .ok (if h : vs.toArray.size = 1 then vs.toArray[0] else .tuple vs.toArray) E.w := by
    have e1 : (results fn a.tmps).run P E.w = ((fn.results.mapM (fun | .tmp t => pure (a.tmps.getD t undef) | .cell b t => do loadVar t (← asAddr (a.tmps.getD b undef)) : ResultVar → Sem Value)).run P E.w).andThen
        fun vs w' => (pure (if h : vs.size = 1 then vs[0] else .tuple vs) : Sem Value).run P w' := by
      unfold results
      rw [Sem.run_bind]
      rfl
    rw [e1, hm]
    rfl
  refine ⟨_, hr, ?_⟩
  cases l with
  | nil => simp only [VRL] at h2; subst h2; exact ⟨[], rfl, by simp [VRL]⟩
  | cons v l =>
    cases l with
    | nil =>
      simp only [VRL] at h2
      obtain ⟨x, r, rfl, hx, rfl⟩ := h2
      exact hx
    | cons v' l =>
      have hvs := h2
      simp only [VRL] at h2
      obtain ⟨x, r, rfl, hx, x', r', rfl, hx', hr'⟩ := h2
      exact ⟨_, by simp, hvs⟩
end
def callable (P : Program) (F : FuncId) : Prop := ∃ fn, P.funcs[F]? = some fn ∧ (fn.name == "runtime.NumGoroutine") = false ∧ fn.body.isNone = false
structure Keeps (w w' : World) : Prop where
  heap : ∀ b, b < w.heap.size → w'.heap[b]? = w.heap[b]?
  size : w.heap.size ≤ w'.heap.size
  os : w'.os = w.os
  tape : w'.tape = w.tape
  output : w'.output = w.output
def FnOK (P : Program) [Tabs P] (F : FuncId) (args : List AV) (r : AV) : Prop :=
  callable P F ∧ ∀ (w : World) (ok : Nat → Prop) (vs : List Value), Tabs.G P w (fun b => b < w.heap.size) → (∀ b, ok b → b < w.heap.size) → VRL ⟨w, fun _ => none, ok⟩ args vs →
    Calls P F vs.toArray w fun e w' => ∃ x ok', e = .returned x ∧ Keeps w w' ∧ (∀ b, ok b → ok' b) ∧ (∀ b, ok' b → b < w'.heap.size ∧ (ok b ∨ w.heap.size ≤ b)) ∧ VR ⟨w', fun _ => none, ok'⟩ r x
end Go.Tr
