/- The evaluator in typed form: what code comes to, as an optional value; loops as fixed points; calls by their answers. Shapes of states: closed data out of a state, and back; a state so laid anew says no more. Contracts of functions: typed arguments, typed results, objects that are handed over. Calls by contracts: a table of contracts is a table of calls. Conditions: none but those that each theorem states. -/
import Derived.Test.YtdbpknejbpiebaaTrX
namespace Go.Tr
open Go
set_option linter.unusedVariables false
set_option linter.unusedSimpArgs false
universe u
def cnd {X : Type} (b : Bool) (x y : Option X) : Option X :=
  match b with
  | true => x
  | false => y
noncomputable def chk {X : Type} (p : Prop) (x : Option X) : Option X := @ite _ p (Classical.propDecidable p) x none
def ltO {α X : Type} (v : α) (f : α → Option X) : Option X := f v
def bnd {Y X : Type} (y : Option Y) (f : Y → Option X) : Option X :=
  match y with
  | some y => f y
  | none => none
noncomputable def bndG {Y X : Type} (c : Bool) (y : Option Y) (d : Y) (f : Y → Option X) : Option X := chk (c = true → y.isSome = true) (f (y.getD d))
def sumO {A B X : Type} (s : A ⊕ B) (f : A → Option X) (h : B → Option X) : Option X :=
  match s with
  | .inl a => f a
  | .inr b => h b
def iterM {S Y : Type} (f : S → Option (S ⊕ Y)) : Nat → S → Option Y
  | 0, _ => none
  | n + 1, s => match f s with
    | none => none
    | some (.inl s') => iterM f n s'
    | some (.inr y) => some y
open Classical in
noncomputable def loopM {S Y : Type} (f : S → Option (S ⊕ Y)) (s : S) : Option Y := if h : ∃ n y, iterM f n s = some y then some h.choose_spec.choose else none
structure Prims where
  cnd : {X : Type} → Bool → Option X → Option X → Option X
  chk : {X : Type} → Prop → Option X → Option X
  lt : {α X : Type} → α → (α → Option X) → Option X
  bnd : {Y X : Type} → Option Y → (Y → Option X) → Option X
  bndG : {Y X : Type} → Bool → Option Y → Y → (Y → Option X) → Option X
  sum : {A B X : Type} → A ⊕ B → (A → Option X) → (B → Option X) → Option X
  loop : {S Y : Type} → (S → Option (S ⊕ Y)) → S → Option Y
noncomputable def std : Prims := ⟨cnd, chk, ltO, bnd, bndG, sumO, loopM⟩
theorem chk_some {X : Type} {p : Prop} {x : Option X} {y : X} (h : chk p x = some y) : p ∧ x = some y := by
  unfold chk at h
  split at h
  · exact ⟨by assumption, h⟩
  · simp at h
theorem chk_pos {X : Type} {p : Prop} (h : p) (x : Option X) : chk p x = x := by
  unfold chk; rw [if_pos h]
theorem chk_neg {X : Type} {p : Prop} (h : ¬ p) (x : Option X) : chk p x = none := by
  unfold chk; rw [if_neg h]
theorem bnd_some {Y X : Type} {y : Option Y} {f : Y → Option X} {x : X} (h : bnd y f = some x) : ∃ z, y = some z ∧ f z = some x := by
  cases y with
  | none => simp [bnd] at h
  | some z => exact ⟨z, rfl, h⟩
theorem iterM_mono {S Y : Type} {f : S → Option (S ⊕ Y)} : ∀ {n : Nat} {s : S} {y : Y}, iterM f n s = some y → ∀ {m : Nat}, n ≤ m → iterM f m s = some y
  | 0, s, y, h, m, hm => by simp [iterM] at h
  | n + 1, s, y, h, m, hm => by
    obtain ⟨m, rfl⟩ : ∃ k, m = k + 1 := ⟨m - 1, by omega⟩
    simp only [iterM] at h ⊢
    split at h
    · simp at h
    · exact iterM_mono h (by omega)
    · exact h
theorem loopM_iff {S Y : Type} {f : S → Option (S ⊕ Y)} {s : S} {y : Y} : loopM f s = some y ↔ ∃ n, iterM f n s = some y := by
  unfold loopM
  constructor
  · intro h
    split at h
    · rename_i hh
      exact ⟨hh.choose, by rw [← h]; exact hh.choose_spec.choose_spec⟩
    · simp at h
  · rintro ⟨n, h⟩
    have hh : ∃ n y, iterM f n s = some y := ⟨n, y, h⟩
    rw [dif_pos hh]
    have h2 := hh.choose_spec.choose_spec
    have a := iterM_mono h (Nat.le_max_left n hh.choose)
    have b := iterM_mono h2 (Nat.le_max_right n hh.choose)
    rw [a] at b
    exact b.symm
theorem loopM_eq {S Y : Type} (f : S → Option (S ⊕ Y)) (s : S) : loopM f s = match f s with
    | none => none
    | some (.inl s') => loopM f s'
    | some (.inr y) => some y := by
  apply Option.ext
  intro y
  rw [loopM_iff]
  cases hf : f s with
  | none =>
    constructor
    · rintro ⟨n, h⟩
      cases n <;> simp [iterM, hf] at h
    · intro h; simp at h
  | some z =>
    cases z with
    | inl s' =>
      constructor
      · rintro ⟨n, h⟩
        cases n with
        | zero => simp [iterM] at h
        | succ n => simp only [iterM, hf] at h; exact loopM_iff.2 ⟨n, h⟩
      · intro h
        obtain ⟨n, hn⟩ := loopM_iff.1 h
        exact ⟨n + 1, by simp only [iterM, hf]; exact hn⟩
    | inr y' =>
      constructor
      · rintro ⟨n, h⟩
        cases n with
        | zero => simp [iterM] at h
        | succ n => simp only [iterM, hf] at h; exact h
      · intro h
        exact ⟨1, by simp only [iterM, hf]; exact h⟩
noncomputable def chks (M : Prims) {X : Type} (l : List Prop) (x : Option X) : Option X :=
  List.rec (motive := fun _ => Option X) x (fun p _ ih => M.chk p ih) l
noncomputable def chksC (M : Prims) {X : Type} (c : Bool) (l : List Prop) (x : Option X) : Option X :=
  List.rec (motive := fun _ => Option X) x (fun p _ ih => M.chk (c = true → p) ih) l
theorem chks_some {X : Type} {x : X} : ∀ {l : List Prop} {y : Option X}, chks std l y = some x → (∀ p ∈ l, p) ∧ y = some x
  | [], y, h => ⟨fun p hp => by simp at hp, h⟩
  | p :: l, y, h => by
    have h' : chk p (chks std l y) = some x := h
    obtain ⟨h1, h2⟩ := chk_some h'
    obtain ⟨h3, h4⟩ := chks_some h2
    refine ⟨fun q hq => ?_, h4⟩
    rcases List.mem_cons.1 hq with rfl | hq
    · exact h1
    · exact h3 q hq
theorem chksC_some {X : Type} {x : X} {c : Bool} : ∀ {l : List Prop} {y : Option X}, chksC std c l y = some x → (∀ p ∈ l, c = true → p) ∧ y = some x
  | [], y, h => ⟨by simp, h⟩
  | p :: l, y, h => by
    have h' : chk (c = true → p) (chksC std c l y) = some x := h
    obtain ⟨h1, h2⟩ := chk_some h'
    obtain ⟨h3, h4⟩ := chksC_some h2
    refine ⟨fun q hq => ?_, h4⟩
    rcases List.mem_cons.1 hq with rfl | hq
    · exact h1
    · exact h3 q hq
noncomputable def letV (M : Prims) {X : Type} (b : Bool) (v : AV) (k : AV → Option X) : Option X :=
  match b with
  | true => match v with
    | .int kk n => M.lt n fun n => k (.int kk n)
    | .bool b => M.lt b fun b => k (.bool b)
    | .str l => M.lt l fun l => k (.str l)
    | .fsl e xs => M.lt xs fun xs => k (.fsl e xs)
    | .fpt e x off => M.lt x fun x => k (.fpt e x off)
    | .ite _ _ _ => none
    | v => k v
  | false => match v with
    | .ite _ _ _ => none
    | v => k v
def notIte (v : AV) : Bool :=
  match v with
  | .ite _ _ _ => false
  | _ => true
theorem letV_some {X : Type} {b : Bool} {v : AV} {k : AV → Option X} {x : X} (h : letV std b v k = some x) : notIte v = true ∧ k v = some x := by
  have no : ¬ (none : Option X) = some x := by simp
  cases b <;> cases v <;> first
    | exact ⟨rfl, h⟩
    | exact (no h).elim
theorem splA_of {v : AV} {k : AV → Prop} (h : notIte v = true) (hk : k v) : splA v k := by
  cases v <;> first
    | exact hk
    | simp [notIte] at h
def letOp (o : Op) : Bool :=
  match o with
  | .binOp op _ _ _ _ => match op with
    | .lss => false
    | .leq => false
    | .gtr => false
    | .geq => false
    | _ => true
  | .convert _ _ _ => true
  | .index _ _ _ => true
  | .indexAddr _ _ _ => true
  | .unOp op _ _ => match op with
    | .not => false
    | _ => true
  | .pick _ _ _ => true
  | _ => false
structure CallR where
  Y : Type
  val : Option Y
  dflt : Y
  res : Y → AV
  upd : Y → Upd
  go : (X : Type) → Prims → Y → (Y → Option X) → Option X
  goOk : ∀ (X : Type) (y : Y) (k : Y → Option X), go X std y k = k y
abbrev CtxO := FuncId → List AV → (Nat → Option AO) → Nat → Option CallR
def ctxOf (CO : CtxO) : Ctx := fun F args ob nm => match CO F args ob nm with
  | none => none
  | some R => some (R.val.isSome = true, R.res (R.val.getD R.dflt), R.upd (R.val.getD R.dflt))
def noC : Ctx := fun _ _ _ _ => none
def isCall (o : Oper) : Option (Operand × List Operand) :=
  match o.op with
  | .call c => match c.callee with
    | .value f => some (f, c.args.toList)
    | _ => none
  | _ => none
noncomputable def callA (tm : Nat → Option AV) (f : Operand) (xs : List Operand) : Option (List Prop × List Prop × FuncId × List AV) :=
  fe tm f fun p fv' => fel tm xs fun q args => match fv' with
    | .fn F first cap => some (p, q, F, appA first (appA args cap))
    | _ => none
theorem fe_is (tm : Nat → Option AV) (x : Operand) : ∃ p v, ∀ {α : Type} (k : List Prop → AV → Option α), fe tm x k = k p v := by
  cases h : opv tm x with
  | when g v => exact ⟨[g = true], v, fun k => by simp only [fe, h, fv_eq]⟩
  | _ => exact ⟨[], _, fun k => by simp only [fe, h, fv_eq]; rfl⟩
theorem fel_is (tm : Nat → Option AV) : ∀ (xs : List Operand), ∃ p vs, ∀ {α : Type} (k : List Prop → List AV → Option α), fel tm xs k = k p vs
  | [] => ⟨[], [], fun k => rfl⟩
  | x :: r => by
    obtain ⟨p, v, h⟩ := fe_is tm x
    obtain ⟨q, vs, g⟩ := fel_is tm r
    exact ⟨p ++ q, v :: vs, fun k => by simp only [fel, h, g]⟩
theorem opA_call {P : Program} {C : Ctx} {tm : Nat → Option AV} {ob : Nat → Option AO} {nm : Nat} {o : Oper} {f : Operand} {xs : List Operand} (hc : isCall o = some (f, xs)) {p q : List Prop} {F : FuncId} {args : List AV}
    (ha : callA tm f xs = some (p, q, F, args)) : opA P C tm ob nm o = match C F args ob nm with
      | some (r, v, u) => some ⟨appA p (appA q [r]), v, u⟩
      | none => none := by
  unfold isCall at hc
  split at hc
  · rename_i c hop
    split at hc
    · rename_i f' hcal
      simp only [Option.some.injEq, Prod.mk.injEq] at hc
      obtain ⟨rfl, rfl⟩ := hc
      obtain ⟨p', v, h1⟩ := fe_is tm f'
      obtain ⟨q', vs, h2⟩ := fel_is tm c.args.toList
      unfold callA at ha
      rw [h1, h2] at ha
      split at ha
      · simp only [Option.some.injEq, Prod.mk.injEq] at ha
        obtain ⟨rfl, rfl, rfl, rfl⟩ := ha
        unfold opA
        simp only [hop, hcal, h1, h2]
        split <;> rename_i heq <;> simp only [heq, fv_eq]
      · simp at ha
    · simp at hc
  · simp at hc
theorem opA_noC {P : Program} {C : Ctx} {tm : Nat → Option AV} {ob : Nat → Option AO} {nm : Nat} {o : Oper} (hc : isCall o = none) : opA P C tm ob nm o = opA P noC tm ob nm o := by
  unfold opA
  unfold isCall at hc
  split at hc
  · rename_i c hop
    split at hc
    · simp at hc
    · rename_i hcal
      simp only [hop]
      split <;> first | rfl | (rename_i heq; exact absurd heq (hcal _))
  · rename_i hop
    cases h : o.op <;> first | rfl | (exact absurd h (hop _))
noncomputable def evOpO (M : Prims) (P : Program) (CO : CtxO) {X : Type} (all : List Oper) (o : Oper) (ih : Nat → Ga → (List Tr → Ga → Option X) → Option X) (i : Nat) (g : Ga) (k : List Tr → Ga → Option X) : Option X :=
  match g with
  | ⟨tm, ob, nx, nt⟩ => match dstOk nt o.dst with
    | false => none
    | true => match gcA all (lkA tm) o with
      | none => none
      | some none => frcN (nx + 16 * i) fun nm => match isCall o with
        | some (f, xs) => match callA (lkA tm) f xs with
          | some (p, q, F, args) => match CO F args (lkO ob) nm with
            | some R => chks M p (chks M q (M.bnd R.val fun y => R.go X M y fun y => fv (R.res y) fun v => match notIte v with
              | true => Ga.app ⟨tm, ob, nx, nt⟩ o.dst v (R.upd y) fun g1 => ih (i + 1) g1 fun tr g' => k (⟨o, v, R.upd y, opvs (lkA tm) o.op.operands.toList⟩ :: tr) g'
              | false => none))
            | none => none
          | none => none
        | none => match opA P noC (lkA tm) (lkO ob) nm o with
          | none => none
          | some ⟨obs, v, u⟩ => chks M obs (letV M (letOp o.op) v fun v' => Ga.app ⟨tm, ob, nx, nt⟩ o.dst v' u fun g1 => ih (i + 1) g1 fun tr g' => k (⟨o, v', u, opvs (lkA tm) o.op.operands.toList⟩ :: tr) g')
      | some (some c) => frcN (nx + 16 * i) fun nm => match isCall o with
        | some (f, xs) => match callA (lkA tm) f xs with
          | some (p, q, F, args) => match CO F args (lkO ob) nm with
            | some R => chksC M c p (chksC M c q (M.bndG c R.val R.dflt fun y => match R.upd y with
              | [] => fv (R.res y) fun v => Ga.app ⟨tm, ob, nx, nt⟩ o.dst (.when c v) [] fun g1 => ih (i + 1) g1 fun tr g' => k (⟨o, .when c v, [], opvs (lkA tm) o.op.operands.toList⟩ :: tr) g'
              | _ => none))
            | none => none
          | none => none
        | none => match opA P noC (lkA tm) (lkO ob) nm o with
          | some ⟨obs, v, []⟩ => chksC M c obs (letV M (letOp o.op) v fun v => Ga.app ⟨tm, ob, nx, nt⟩ o.dst (.when c v) [] fun g1 => ih (i + 1) g1 fun tr g' => k (⟨o, .when c v, [], opvs (lkA tm) o.op.operands.toList⟩ :: tr) g')
          | none => chksC M c [False] (Ga.app ⟨tm, ob, nx, nt⟩ o.dst (.when c (dumA P o.type)) [] fun g1 => ih (i + 1) g1 fun tr g' => k (⟨o, .when c (dumA P o.type), [], opvs (lkA tm) o.op.operands.toList⟩ :: tr) g')
          | _ => none
noncomputable def evOpsO (M : Prims) (P : Program) (CO : CtxO) {X : Type} (all : List Oper) (i : Nat) (ops : List Oper) : Ga → (List Tr → Ga → Option X) → Option X :=
  List.rec (motive := fun _ => Nat → Ga → (List Tr → Ga → Option X) → Option X)
    (fun i g k => match g with
      | ⟨tm, ob, nx, nt⟩ => k [] ⟨tm, ob, nx + 16 * i, nt⟩)
    (fun o _ ih i g k => evOpO M P CO all o ih i g k) ops i
theorem evOpsO_cons (M : Prims) (P : Program) (CO : CtxO) {X : Type} (all : List Oper) (i : Nat) (o : Oper) (r : List Oper) (g : Ga) (k : List Tr → Ga → Option X) :
    evOpsO M P CO all i (o :: r) g k = evOpO M P CO all o (fun i => evOpsO M P CO all i r) i g k := rfl
theorem Ga.app_eq {α : Sort u} (tm : List (Nat × AV)) (ob : Upd) (nx nt : Nat) (d : Option Nat) (v : AV) (u : Upd) (k : Ga → α) : Ga.app ⟨tm, ob, nx, nt⟩ d v u k = match d with
    | some d => k ⟨(d, v) :: tm, u ++ ob, nx, nt⟩
    | none => k ⟨tm, u ++ ob, nx, nt⟩ := by
  simp only [Ga.app, appK_eq, appA_eq]
  cases d <;> rfl
theorem mem_app2 {p q : List Prop} {s : Prop} (hp : ∀ x ∈ p, x) (hq : ∀ x ∈ q, x) (hs : s) : ∀ x ∈ appA p (appA q [s]), x := by
  intro x hx
  rw [appA_eq, appA_eq] at hx
  rcases List.mem_append.1 hx with hx | hx
  · exact hp x hx
  · rcases List.mem_append.1 hx with hx | hx
    · exact hq x hx
    · simp at hx; rw [hx]; exact hs
theorem evOpsO_ev {P : Program} {CO : CtxO} {X : Type} {x : X} {all : List Oper} : ∀ (ops : List Oper) (i : Nat) (g : Ga) (k : List Tr → Ga → Option X), evOpsO std P CO all i ops g k = some x →
    evOps P (ctxOf CO) all i ops g fun tr g' => k tr g' = some x
  | [], i, g, k, h => h
  | o :: r, i, g, k, h => by
    rw [evOpsO_cons] at h
    rw [evOps_cons]
    obtain ⟨tm, ob, nx, nt⟩ := g
    unfold evOpO at h
    unfold evOp
    simp only at h ⊢
    split at h
    · simp at h
    · rename_i hd
      simp only [hd]
      split at h
      · simp at h
      · rename_i hg
        simp only [hg]
        rw [frcN_eq] at h ⊢
        split at h
        · rename_i f xs hc
          split at h
          · rename_i p q F args ha
            split at h
            · rename_i R hR
              rw [opA_call hc ha]
              obtain ⟨h1, h⟩ := chks_some h
              obtain ⟨h2, h⟩ := chks_some h
              obtain ⟨y, hy, h⟩ := bnd_some h
              rw [R.goOk, fv_eq] at h
              split at h
              · rename_i hn
                simp only [ctxOf, hR, hy, Option.isSome_some, Option.getD_some]
                refine evObs_iff.2 ⟨mem_app2 h1 h2 (by simp), splA_of hn ?_⟩
                rw [Ga.app_eq] at h ⊢
                split at h <;> exact evOpsO_ev r _ _ _ h
              · simp at h
            · simp at h
          · simp at h
        · rename_i hc
          rw [opA_noC hc]
          split at h
          · simp at h
          · rename_i obs v u hop
            simp only [hop]
            obtain ⟨h1, h⟩ := chks_some h
            obtain ⟨hn, h⟩ := letV_some h
            refine evObs_iff.2 ⟨h1, splA_of hn ?_⟩
            rw [Ga.app_eq] at h ⊢
            split at h <;> exact evOpsO_ev r _ _ _ h
      · rename_i c hg
        simp only [hg]
        rw [frcN_eq] at h ⊢
        split at h
        · rename_i f xs hc
          split at h
          · rename_i p q F args ha
            split at h
            · rename_i R hR
              rw [opA_call hc ha]
              obtain ⟨h1, h⟩ := chksC_some h
              obtain ⟨h2, h⟩ := chksC_some h
              have h' : chk (c = true → R.val.isSome = true) _ = some x := h
              obtain ⟨h3, h⟩ := chk_some h'
              simp only [ctxOf, hR]
              split at h
              · rename_i hu
                rw [fv_eq] at h
                simp only [hu]
                refine evObsC_iff.2 ⟨fun hcc => ?_, ?_⟩
                · exact mem_app2 (fun z hz => h1 z hz hcc) (fun z hz => h2 z hz hcc) (h3 hcc)
                · rw [Ga.app_eq] at h ⊢
                  split at h <;> exact evOpsO_ev r _ _ _ h
              · simp at h
            · simp at h
          · simp at h
        · rename_i hc
          rw [opA_noC hc]
          split at h
          · rename_i obs v hop
            simp only [hop]
            obtain ⟨h1, h⟩ := chksC_some h
            obtain ⟨hn, h⟩ := letV_some h
            refine evObsC_iff.2 ⟨fun hcc p hp => h1 p hp hcc, ?_⟩
            rw [Ga.app_eq] at h ⊢
            split at h <;> exact evOpsO_ev r _ _ _ h
          · rename_i hop
            simp only [hop]
            obtain ⟨h1, h⟩ := chksC_some h
            refine evObsC_iff.2 ⟨fun hcc p hp => h1 p hp hcc, ?_⟩
            rw [Ga.app_eq] at h ⊢
            split at h <;> exact evOpsO_ev r _ _ _ h
          · simp at h
structure LoopD where
  S : Type
  dec : Ga → Option (List Prop × S)
  enc : S → Ga
  exit : Nat
  T : Type
  edec : Ga → Option (List Prop × T)
  eenc : T → Ga
def SubOK (g g' : Ga) : Prop := ∀ (W0 : WX) (okIn B : Nat → Prop) (E : Env) (a : Act), SimG W0 okIn B g E a → ∃ E', E'.w = E.w ∧ SimG W0 okIn B g' E' a
structure LoopD.OK (D : LoopD) : Prop where
  dec : ∀ g q s, D.dec g = some (q, s) → (∀ p ∈ q, p) → SubOK g (D.enc s)
  edec : ∀ g q s, D.edec g = some (q, s) → (∀ p ∈ q, p) → SubOK g (D.eenc s)
def loopKey : Code → Option Nat
  | .region id _ _ => some id
  | .seq a b => match loopKey a with
    | some i => some i
    | none => loopKey b
  | .cond _ a b => match loopKey a with
    | some i => some i
    | none => loopKey b
  | .block _ c => loopKey c
  | .loop c => loopKey c
  | .scope c => loopKey c
  | _ => none
def lkL (LS : List (Nat × LoopD)) (k : Option Nat) : Option LoopD :=
  match k with
  | some k => go LS k
  | none => none
 where
  go : List (Nat × LoopD) → Nat → Option LoopD
    | [], _ => none
    | (m, x) :: r, n => match Nat.beq n m with
      | true => some x
      | false => go r n
abbrev RetF (R : Type) := (X : Type) → Ga → (R → Option X) → Option X
structure RetF.Nat {R : Type} (ret : RetF R) : Prop where
  nat : ∀ (Y : Type) (g : Ga) (f : R → Option Y) (y : Y), ret Y g f = some y → ∃ r, f r = some y ∧ ∀ (X : Type) (k : R → Option X), ret X g k = k r
noncomputable def bodyK (M : Prims) {R : Type} (D : LoopD) (e : Exit) (g : Ga) : Option (D.S ⊕ (D.T ⊕ R)) :=
  match e with
  | .normal => match D.dec g with
    | some (q, s) => chks M q (some (.inl s))
    | none => none
  | .exit id => match Nat.beq id D.exit with
    | true => match D.edec g with
      | some (q, t) => chks M q (some (.inr (.inl t)))
      | none => none
    | false => none
  | _ => none
noncomputable def evO (M : Prims) (P : Program) (CO : Bool → CtxO) (LS : List (Nat × LoopD)) {R : Type} (ret : RetF R) (c : Code) : (X : Type) → (R → X) → Ga → (Exit → Ga → Option X) → Option X :=
  Code.rec (motive := fun _ => (X : Type) → (R → X) → Ga → (Exit → Ga → Option X) → Option X)
    (skip := fun X inj g k => k .normal g)
    (region := fun _ ops draw X inj g k => match draw with
      | false => evOpsO M P (CO false) ops.toList 0 ops.toList g fun _ g' => g'.frc fun g'' => k .normal g''
      | true => evOpsO M P (CO true) ops.toList 0 ops.toList g fun tr g' => match chkA ops.toList tr with
        | true => g'.frc fun g'' => k .normal g''
        | false => none)
    (seq := fun _ _ iha ihb X inj g k => iha X inj g fun e g' => match e with
      | .normal => ihb X inj g' k
      | e => k e g')
    (cond := fun c _ _ iha ihb X inj g k => match opv (lkA g.tmps) c with
      | .bool t => M.cnd t (iha X inj (g.setB c true) k) (ihb X inj (g.setB c false) k)
      | .when w (.bool t) => M.chk (w = true) (M.cnd t (iha X inj g k) (ihb X inj g k))
      | _ => none)
    (block := fun id _ ih X inj g k => ih X inj g fun e g' => match e with
      | .exit id' => match Nat.beq id' id with
        | true => k .normal g'
        | false => k (.exit id') g'
      | e => k e g')
    (loop := fun c ih X inj g k => match lkL LS (loopKey c) with
      | none => none
      | some D => match D.dec g with
        | none => none
        | some (q, s) => chks M q (M.bnd (M.loop (fun s => (D.enc s).frc fun g' => ih (D.S ⊕ (D.T ⊕ R)) (fun r => .inr (.inr r)) g' (bodyK M D)) s) fun o => M.sum o (fun t => (D.eenc t).frc fun g' => k (.exit D.exit) g') (fun r => some (inj r))))
    (rangeFunc := fun _ _ _ _ _ _ _ _ _ _ => none)
    (exit := fun id X inj g k => k (.exit id) g)
    (scope := fun _ _ _ _ _ _ => none)
    (label := fun _ X inj g k => k .normal g)
    (goto := fun _ _ _ _ _ => none)
    (ret := fun X inj g k => ret X g fun r => some (inj r))
    (refuse := fun _ _ _ _ _ => none) c
def outK {R X : Type} (ret : RetF R) (inj : R → X) (k : Exit → Ga → Option X) (x : X) (e : Exit) (g : Ga) : Prop :=
  match e with
  | .ret => ret X g (fun r => some (inj r)) = some x
  | e => k e g = some x
theorem Trip.loop' {P : Program} [Tabs P] {c : Code} {g : Ga} {k : Exit → Ga → Prop} {ι : Type} (G : ι → Ga) (A : ι → Prop) (m : ι → Nat) (i0 : ι) (h0 : A i0) (hs0 : SubOK g (G i0))
    (hb : ∀ i, A i → Trip P c (G i) fun e g' => match e with
      | .normal => ∃ i', A i' ∧ m i' < m i ∧ SubOK g' (G i')
      | e => ∃ g'', k e g'' ∧ SubOK g' g'') : Trip P (.loop c) g k := by
  intro W0 okIn B E a hT hs
  refine wp_loop_ghost (fun n a w => ∃ i E, m i = n ∧ A i ∧ E.w = w ∧ SimG W0 okIn B (G i) E a) (m i0) ?_ ?_
  · obtain ⟨E', h1, h2⟩ := hs0 W0 okIn B E a hs
    exact ⟨i0, E', rfl, h0, h1, h2⟩
  · rintro n a w ⟨i, E, rfl, hA, rfl, hs⟩
    refine wp_mono (hb i hA W0 okIn B E a hT hs) fun e a' w' hq => ?_
    obtain ⟨g', E', h1, rfl, h3⟩ := hq
    have key : (∃ g'', k e g'' ∧ SubOK g' g'') → ∃ g'' E'', k e g'' ∧ E''.w = E'.w ∧ SimG W0 okIn B g'' E'' a' := by
      rintro ⟨g'', h4, h5⟩
      obtain ⟨E'', h6, h7⟩ := h5 W0 okIn B E' a' h3
      exact ⟨g'', E'', h4, h6, h7⟩
    cases e with
    | normal =>
      obtain ⟨i', h4, h5, h6⟩ := h1
      obtain ⟨E'', h7, h8⟩ := h6 W0 okIn B E' a' h3
      exact ⟨m i', h5, i', E'', rfl, h4, h7, h8⟩
    | _ => exact key h1
theorem SubOK.refl (g : Ga) : SubOK g g := fun _ _ _ E _ h => ⟨E, rfl, h⟩
theorem SubOK.trans {g1 g2 g3 : Ga} (h : SubOK g1 g2) (h' : SubOK g2 g3) : SubOK g1 g3 := fun W0 okIn B E a hs => by
  obtain ⟨E', h1, h2⟩ := h W0 okIn B E a hs
  obtain ⟨E'', h3, h4⟩ := h' W0 okIn B E' a h2
  exact ⟨E'', h3.trans h1, h4⟩
theorem SubOK.nt {g g' : Ga} (h : SubOK g g') {W0 : WX} {okIn B : Nat → Prop} {E : Env} {a : Act} (hs : SimG W0 okIn B g E a) : g'.nt = g.nt := by
  obtain ⟨E', _, h2⟩ := h W0 okIn B E a hs
  exact h2.size.symm.trans hs.size
theorem frc_sub {α : Sort u} (g : Ga) (k : Ga → α) : ∃ g', g.frc k = k g' ∧ SubOK g g' := by
  obtain ⟨g', h1, h2⟩ := frc_spec g k
  exact ⟨g', h1, fun W0 okIn B E a h => ⟨E, rfl, h2 W0 okIn B E a h⟩⟩
theorem Trip.sub {P : Program} [Tabs P] {c : Code} {g g' : Ga} {k : Exit → Ga → Prop} (hs : SubOK g g') (h : Trip P c g' k) : Trip P c g k := by
  intro W0 okIn B E a hT hg
  obtain ⟨E', h1, h2⟩ := hs W0 okIn B E a hg
  rw [← h1]
  exact h W0 okIn B E' a hT h2
universe v
theorem frcT_nat {α : Sort u} {β : Sort v} (f : α → β) : ∀ (l : List (Nat × AV)) (s : Nat) (k : List (Nat × AV) → α), f (frcT s l k) = frcT s l fun l' => f (k l')
  | [], s, k => rfl
  | (n, v) :: r, s, k => by
    rw [frcT_cons, frcT_cons]
    split
    · exact frcT_nat f r s k
    · rw [fv_eq, fv_eq]; exact frcT_nat f r _ _
theorem frcU_nat {α : Sort u} {β : Sort v} (f : α → β) : ∀ (l : Upd) (s : Nat) (k : Upd → α), f (frcU s l k) = frcU s l fun l' => f (k l')
  | [], s, k => rfl
  | (n, o) :: r, s, k => by
    rw [frcU_cons, frcU_cons]
    split
    · exact frcU_nat f r s k
    · simp only [frcN_eq, frcO_eq]
      cases o with
      | none => exact frcU_nat f r _ k
      | some o => exact frcU_nat f r _ _
theorem frc_nat {α : Sort u} {β : Sort v} (f : α → β) (g : Ga) (k : Ga → α) : f (g.frc k) = g.frc fun g' => f (k g') := by
  obtain ⟨tm, ob, nx, nt⟩ := g
  simp only [Ga.frc]
  rw [frcT_nat f]
  congr 1
  funext tm'
  rw [frcU_nat f]
  congr 1
  funext ob'
  rw [frcN_eq, frcN_eq]
theorem evObs_mono {l : List Prop} {q q' : Prop} (h : q → q') (hq : evObs l q) : evObs l q' := by
  obtain ⟨h1, h2⟩ := evObs_iff.1 hq
  exact evObs_iff.2 ⟨h1, h h2⟩
theorem splA_mono {v : AV} {k k' : AV → Prop} (h : ∀ v, k v → k' v) (hk : splA v k) : splA v k' := by
  cases v <;> try exact h _ hk
  rename_i c a b
  simp only [splA, fv_eq] at hk ⊢
  exact ⟨fun hc => h _ (hk.1 hc), fun hc => h _ (hk.2 hc)⟩
theorem app_mono {d : Option Nat} {v : AV} {u : Upd} {k k' : Ga → Prop} {g : Ga} (h : ∀ g, k g → k' g) (hk : Ga.app g d v u k) : Ga.app g d v u k' := by
  obtain ⟨tm, ob, nx, nt⟩ := g
  rw [Ga.app_eq] at hk ⊢
  cases d <;> exact h _ hk
theorem evOps_mono {P : Program} {C : Ctx} {all : List Oper} {k k' : List Tr → Ga → Prop} (h : ∀ tr g, k tr g → k' tr g) : ∀ (ops : List Oper) (i : Nat) (g : Ga), evOps P C all i ops g k → evOps P C all i ops g k' := by
  intro ops
  induction ops generalizing k k' with
  | nil => intro i g hk; exact h _ _ hk
  | cons o r ih =>
    intro i g hk
    rw [evOps_cons] at hk ⊢
    obtain ⟨tm, ob, nx, nt⟩ := g
    unfold evOp at hk ⊢
    simp only at hk ⊢
    split at hk
    · exact hk.elim
    · rename_i hd
      (try simp only [hd])
      split at hk
      · exact hk.elim
      · rename_i hg
        (try simp only [hg])
        rw [frcN_eq] at hk ⊢
        split at hk
        · exact hk.elim
        · rename_i hop
          (try simp only [hop])
          exact evObs_mono (splA_mono fun v => app_mono fun g => ih (fun tr g' => h _ g') _ _) hk
      · rename_i c hg
        (try simp only [hg])
        rw [frcN_eq] at hk ⊢
        split at hk
        · rename_i hop
          (try simp only [hop])
          obtain ⟨h1, h2⟩ := evObsC_iff.1 hk
          exact evObsC_iff.2 ⟨h1, app_mono (fun g => ih (fun tr g' => h _ g') _ _) h2⟩
        · rename_i hop
          (try simp only [hop])
          obtain ⟨h1, h2⟩ := evObsC_iff.1 hk
          exact evObsC_iff.2 ⟨h1, app_mono (fun g => ih (fun tr g' => h _ g') _ _) h2⟩
        · exact hk.elim
theorem frcT_mono : ∀ (l : List (Nat × AV)) (s : Nat) {k k' : List (Nat × AV) → Prop}, (∀ g, k g → k' g) → frcT s l k → frcT s l k'
  | [], s, k, k', h, hk => h _ hk
  | (n, v) :: r, s, k, k', h, hk => by
    rw [frcT_cons] at hk ⊢
    split
    · rename_i hb; simp only [hb] at hk; exact frcT_mono (k := k) (k' := k') r s h hk
    · rename_i hb; simp only [hb, fv_eq] at hk ⊢; exact frcT_mono (k := fun q => k ((n, v) :: q)) (k' := fun q => k' ((n, v) :: q)) r _ (fun g => h _) hk
theorem frcU_mono : ∀ (l : Upd) (s : Nat) {k k' : Upd → Prop}, (∀ g, k g → k' g) → frcU s l k → frcU s l k'
  | [], s, k, k', h, hk => h _ hk
  | (n, o) :: r, s, k, k', h, hk => by
    rw [frcU_cons] at hk ⊢
    split
    · rename_i hb; simp only [hb] at hk; exact frcU_mono (k := k) (k' := k') r s h hk
    · rename_i hb
      simp only [hb, frcN_eq, frcO_eq] at hk ⊢
      cases o with
      | none => exact frcU_mono (k := k) (k' := k') r _ h hk
      | some o => exact frcU_mono (k := fun q => k ((n, some o) :: q)) (k' := fun q => k' ((n, some o) :: q)) r _ (fun g => h _) hk
theorem frc_mono {k k' : Ga → Prop} (h : ∀ g, k g → k' g) {g : Ga} (hk : g.frc k) : g.frc k' := by
  obtain ⟨tm, ob, nx, nt⟩ := g
  simp only [Ga.frc, frcN_eq] at hk ⊢
  exact frcT_mono tm 0 (fun tm' => frcU_mono ob 0 fun ob' => h _) hk
theorem ev_mono {P : Program} [Tabs P] {C : Bool → Ctx} : ∀ {c : Code} {k k' : Exit → Ga → Prop} {g : Ga}, ev P C c g k → (∀ e g, k e g → k' e g) → ev P C c g k' := by
  intro c
  induction c with
  | skip => intro k k' g hk h; exact h _ _ hk
  | label l => intro k k' g hk h; exact h _ _ hk
  | exit id => intro k k' g hk h; exact h _ _ hk
  | ret => intro k k' g hk h; exact h _ _ hk
  | refuse why => intro k k' g hk h; exact hk
  | goto l => intro k k' g hk h; exact hk
  | scope c ih => intro k k' g hk h; exact hk
  | rangeFunc f p x y ih1 ih2 => intro k k' g hk h; exact hk
  | loop c ih => intro k k' g hk h; exact ⟨hk.out.mono h⟩
  | region id ops draw =>
    intro k k' g hk h
    rw [ev_region] at hk ⊢
    cases draw with
    | false => exact evOps_mono (fun tr g' => frc_mono fun g'' => h _ g'') _ _ _ hk
    | true => exact evOps_mono (fun tr g' hh => ⟨hh.1, frc_mono (fun g'' => h _ g'') hh.2⟩) _ _ _ hk
  | seq a b iha ihb =>
    intro k k' g hk h
    rw [ev_seq] at hk ⊢
    refine iha hk fun e g' hh => ?_
    cases e <;> first
      | exact ihb hh h
      | exact h _ _ hh
  | cond c a b iha ihb =>
    intro k k' g hk h
    rw [ev_cond] at hk ⊢
    split at hk
    · rename_i t ht; (try simp only [ht]); exact ⟨fun hh => iha (hk.1 hh) h, fun hh => ihb (hk.2 hh) h⟩
    · rename_i w t ht; (try simp only [ht]); exact ⟨hk.1, fun hh => iha (hk.2.1 hh) h, fun hh => ihb (hk.2.2 hh) h⟩
    · exact hk.elim
  | block id c ih =>
    intro k k' g hk h
    rw [ev_block] at hk ⊢
    refine ih hk fun e g' hh => ?_
    cases e <;> try exact h _ _ hh
    rename_i id'
    revert hh
    show (match Nat.beq id' id with | true => k .normal g' | false => k (.exit id') g') → (match Nat.beq id' id with | true => k' .normal g' | false => k' (.exit id') g')
    cases hb : Nat.beq id' id with
    | true => exact h _ _
    | false => exact h _ _
theorem lkL_mem {LS : List (Nat × LoopD)} {k : Option Nat} {D : LoopD} (h : lkL LS k = some D) : ∃ n, (n, D) ∈ LS := by
  cases k with
  | none => simp [lkL] at h
  | some k =>
    have : ∀ (l : List (Nat × LoopD)), lkL.go l k = some D → ∃ n, (n, D) ∈ l := by
      intro l
      induction l with
      | nil => intro h; simp [lkL.go] at h
      | cons a r ih =>
        intro h
        obtain ⟨m, x⟩ := a
        simp only [lkL.go] at h
        split at h
        · simp only [Option.some.injEq] at h; subst h; exact ⟨m, by simp⟩
        · obtain ⟨n, hn⟩ := ih h; exact ⟨n, by simp [hn]⟩
    exact this LS h
theorem evO_ev {P : Program} [Tabs P] {CO : Bool → CtxO} {LS : List (Nat × LoopD)} {R : Type} {ret : RetF R} (hC : CtxsOK P fun b => ctxOf (CO b)) (hmix : P.follows .mixedOrders = true) (hL : ∀ n D, (n, D) ∈ LS → D.OK) (hr : ret.Nat) :
    ∀ (c : Code) (X : Type) (inj : R → X) (g : Ga) (k : Exit → Ga → Option X) (x : X), evO std P CO LS ret c X inj g k = some x → ev P (fun b => ctxOf (CO b)) c g (outK ret inj k x) := by
  intro c
  induction c with
  | skip => intro X inj g k x h; exact h
  | label l => intro X inj g k x h; exact h
  | exit id => intro X inj g k x h; exact h
  | ret => intro X inj g k x h; exact h
  | refuse why => intro X inj g k x h; exact absurd h (by simp [evO])
  | goto l => intro X inj g k x h; exact absurd h (by simp [evO])
  | scope c ih => intro X inj g k x h; exact absurd h (by simp [evO])
  | rangeFunc f p x y ih1 ih2 => intro X inj g k x h; exact absurd h (by simp [evO])
  | region id ops draw =>
    intro X inj g k x h
    rw [ev_region]
    cases draw with
    | false =>
      refine evOps_mono (fun tr g' hk => ?_) _ _ _ (evOpsO_ev _ _ _ _ h)
      rw [frc_nat (fun z => z = some x)] at hk
      exact hk
    | true =>
      refine evOps_mono (fun tr g' hk => ?_) _ _ _ (evOpsO_ev _ _ _ _ h)
      split at hk
      · rename_i hc
        rw [frc_nat (fun z => z = some x)] at hk
        exact ⟨⟨hc⟩, hk⟩
      · simp at hk
  | seq a b iha ihb =>
    intro X inj g k x h
    rw [ev_seq]
    refine ev_mono (iha X inj g _ x h) fun e g' hk => ?_
    cases e <;> first
      | exact ihb X inj g' k x hk
      | exact hk
  | cond c a b iha ihb =>
    intro X inj g k x h
    rw [ev_cond]
    have h' : (match opv (lkA g.tmps) c with
      | .bool t => cnd t (evO std P CO LS ret a X inj (g.setB c true) k) (evO std P CO LS ret b X inj (g.setB c false) k)
      | .when w (.bool t) => chk (w = true) (cnd t (evO std P CO LS ret a X inj g k) (evO std P CO LS ret b X inj g k))
      | _ => none) = some x := h
    split at h'
    · rename_i t ht
      simp only [ht]
      cases t
      · exact ⟨fun hh => by simp at hh, fun _ => ihb X inj _ k x h'⟩
      · exact ⟨fun _ => iha X inj _ k x h', fun hh => by simp at hh⟩
    · rename_i w t ht
      simp only [ht]
      obtain ⟨hw, h'⟩ := chk_some h'
      refine ⟨⟨hw⟩, ?_⟩
      cases t
      · exact ⟨fun hh => by simp at hh, fun _ => ihb X inj g k x h'⟩
      · exact ⟨fun _ => iha X inj g k x h', fun hh => by simp at hh⟩
    · simp at h'
  | block id c ih =>
    intro X inj g k x h
    rw [ev_block]
    refine ev_mono (ih X inj g _ x h) fun e g' hk => ?_
    cases e <;> try exact hk
    rename_i id'
    revert hk
    show (match Nat.beq id' id with | true => k .normal g' | false => k (.exit id') g') = some x → (match Nat.beq id' id with | true => outK ret inj k x .normal g' | false => outK ret inj k x (.exit id') g')
    cases hb : Nat.beq id' id with
    | true => exact fun h => h
    | false => exact fun h => h
  | loop c ih =>
    intro X inj g k x h
    have h' : (match lkL LS (loopKey c) with
      | none => none
      | some D => match D.dec g with
        | none => none
        | some (q, s) => chks std q (bnd (loopM (fun s => (D.enc s).frc fun g' => evO std P CO LS ret c (D.S ⊕ (D.T ⊕ R)) (fun r => .inr (.inr r)) g' (bodyK std D)) s) fun o => sumO o (fun t => (D.eenc t).frc fun g' => k (.exit D.exit) g') (fun r => some (inj r)))) = some x := h
    split at h'
    · simp at h'
    rename_i D hD
    have hDo := hL _ _ (lkL_mem hD).choose_spec
    split at h'
    · simp at h'
    rename_i q s hdec
    obtain ⟨hq, h'⟩ := chks_some h'
    obtain ⟨o, ho, h'⟩ := bnd_some h'
    obtain ⟨n, hn⟩ := loopM_iff.1 ho
    refine ⟨Trip.loop' (ι := Nat × D.S) (fun p => D.enc p.2) (fun p => iterM (fun s => (D.enc s).frc fun g' => evO std P CO LS ret c (D.S ⊕ (D.T ⊕ R)) (fun r => .inr (.inr r)) g' (bodyK std D)) p.1 p.2 = some o) (fun p => p.1) (n, s) hn (hDo.dec g q s hdec hq) ?_⟩
    rintro ⟨m, s⟩ hm
    simp only at hm
    cases m with
    | zero => simp [iterM] at hm
    | succ m =>
      obtain ⟨g', hg', hsub⟩ := frc_sub (D.enc s) fun g' => evO std P CO LS ret c (D.S ⊕ (D.T ⊕ R)) (fun r => .inr (.inr r)) g' (bodyK std D)
      refine Trip.sub hsub ?_
      simp only [iterM, hg'] at hm
      have key : ∀ y, evO std P CO LS ret c (D.S ⊕ (D.T ⊕ R)) (fun r => .inr (.inr r)) g' (bodyK std D) = some y → (∀ s', y = .inl s' → iterM (fun s => (D.enc s).frc fun g' => evO std P CO LS ret c (D.S ⊕ (D.T ⊕ R)) (fun r => .inr (.inr r)) g' (bodyK std D)) m s' = some o) →
          (∀ z, y = .inr z → z = o) → Trip P c g' fun e g' => match e with
            | .normal => ∃ i' : Nat × D.S, iterM (fun s => (D.enc s).frc fun g' => evO std P CO LS ret c (D.S ⊕ (D.T ⊕ R)) (fun r => .inr (.inr r)) g' (bodyK std D)) i'.1 i'.2 = some o ∧ i'.1 < m + 1 ∧ SubOK g' (D.enc i'.2)
            | e => ∃ g'', outK ret inj k x e g'' ∧ SubOK g' g'' := by
        intro y hy h1 h2
        refine (ev_sound hC hmix _ _ _ (ih _ _ _ _ y hy)).mono fun e g1 hk => ?_
        cases e with
        | normal =>
          have hk' : (match D.dec g1 with
            | some (q, s) => chks std q (some (.inl s))
            | none => none) = some y := hk
          split at hk'
          · rename_i q1 s1 hd1
            obtain ⟨hq1, hy1⟩ := chks_some hk'
            simp only [Option.some.injEq] at hy1
            exact ⟨(m, s1), h1 s1 hy1.symm, Nat.lt_succ_self m, hDo.dec _ _ _ hd1 hq1⟩
          · simp at hk'
        | exit id =>
          have hk' : (match Nat.beq id D.exit with
            | true => match D.edec g1 with
              | some (q, t) => chks std q (some (.inr (.inl t)))
              | none => none
            | false => none) = some y := hk
          split at hk'
          · rename_i hb
            split at hk'
            · rename_i q1 t1 hd1
              obtain ⟨hq1, hy1⟩ := chks_some hk'
              simp only [Option.some.injEq] at hy1
              have := h2 _ hy1.symm
              subst this
              simp only [sumO] at h'
              obtain ⟨g3, hg3, hs3⟩ := frc_sub (D.eenc t1) fun g' => k (.exit D.exit) g'
              rw [hg3] at h'
              refine ⟨g3, ?_, (hDo.edec _ _ _ hd1 hq1).trans hs3⟩
              rw [beq_true hb]
              exact h'
            · simp at hk'
          · simp at hk'
        | ret =>
          have hk' : ret _ g1 (fun r => some (.inr (.inr r))) = some y := hk
          obtain ⟨r, hr1, hr2⟩ := hr.nat _ _ _ _ hk'
          simp only [Option.some.injEq] at hr1
          have := h2 _ hr1.symm
          subst this
          simp only [sumO] at h'
          refine ⟨g1, ?_, SubOK.refl g1⟩
          show ret X g1 _ = some x
          rw [hr2]; exact h'
        | goto l => simp [outK, bodyK] at hk
        | panic ch => simp [outK, bodyK] at hk
        | outgrown => simp [outK, bodyK] at hk
      split at hm
      · simp at hm
      · rename_i s' hs'
        exact key _ hs' (fun s1 h1 => by simp only [Sum.inl.injEq] at h1; subst h1; exact hm) (fun z hz => by simp at hz)
      · rename_i y hy
        exact key _ hy (fun s1 h1 => by simp at h1) (fun z hz => by simp only [Sum.inr.injEq] at hz; subst hz; simpa using hm)
end Go.Tr
namespace Go.Tr
open Go
set_option linter.unusedVariables false
set_option linter.unusedSimpArgs false
inductive LD where
  | int (k : IntKind) | bool | str | sl (e : Sh) | own (n : Nat) (e : Sh) | ptr (n off : Nat) | epr (n : Nat) (e : Sh) (off : Nat) | fpt (e : Sh) (off : Nat)
  | nilp | nilif | nilf | junk | err | mpr (n : Nat)
@[reducible] def LD.T : LD → Type
  | .int _ => Int
  | .bool => Bool
  | .str => List UInt8
  | .sl e => List e.T
  | .epr _ _ _ => Nat
  | .fpt e _ => e.T
  | .err => TErr
  | _ => Unit
def LD.enc : (d : LD) → d.T → AV
  | .int k, n => .int k n
  | .bool, b => .bool b
  | .str, l => .str l
  | .sl e, xs => .fsl e xs
  | .own n e, _ => .own n e
  | .ptr n off, _ => .ptr n off
  | .epr n e off, i => .epr n e i off
  | .fpt e off, x => .fpt e x off
  | .nilp, _ => .nilp
  | .nilif, _ => .nilif
  | .nilf, _ => .nilf
  | .junk, _ => .junk
  | .err, x => .er x
  | .mpr n, _ => .mpr n
@[reducible] def consT (d : LD) (R : Type) : Type :=
  match d with
  | .int _ => Int × R
  | .bool => Bool × R
  | .str => List UInt8 × R
  | .sl e => List e.T × R
  | .epr _ _ _ => Nat × R
  | .fpt e _ => e.T × R
  | .err => TErr × R
  | _ => R
def mkC {R : Type} : (d : LD) → d.T → R → consT d R
  | .int _, a, r => (a, r)
  | .bool, a, r => (a, r)
  | .str, a, r => (a, r)
  | .sl _, a, r => (a, r)
  | .epr _ _ _, a, r => (a, r)
  | .fpt _ _, a, r => (a, r)
  | .err, a, r => (a, r)
  | .own _ _, _, r => r
  | .ptr _ _, _, r => r
  | .nilp, _, r => r
  | .nilif, _, r => r
  | .nilf, _, r => r
  | .junk, _, r => r
  | .mpr _, _, r => r
def hdC {R : Type} : (d : LD) → consT d R → d.T
  | .int _, x => Prod.fst x
  | .bool, x => Prod.fst x
  | .str, x => Prod.fst x
  | .sl _, x => Prod.fst x
  | .epr _ _ _, x => Prod.fst x
  | .fpt _ _, x => Prod.fst x
  | .err, x => Prod.fst x
  | .own _ _, _ => ()
  | .ptr _ _, _ => ()
  | .nilp, _ => ()
  | .nilif, _ => ()
  | .nilf, _ => ()
  | .junk, _ => ()
  | .mpr _, _ => ()
def tlC {R : Type} : (d : LD) → consT d R → R
  | .int _, x => Prod.snd x
  | .bool, x => Prod.snd x
  | .str, x => Prod.snd x
  | .sl _, x => Prod.snd x
  | .epr _ _ _, x => Prod.snd x
  | .fpt _ _, x => Prod.snd x
  | .err, x => Prod.snd x
  | .own _ _, x => x
  | .ptr _ _, x => x
  | .nilp, x => x
  | .nilif, x => x
  | .nilf, x => x
  | .junk, x => x
  | .mpr _, x => x
theorem hd_mk {R : Type} (d : LD) (a : d.T) (r : R) : hdC d (mkC d a r) = a := by cases d <;> rfl
theorem tl_mk {R : Type} (d : LD) (a : d.T) (r : R) : tlC d (mkC d a r) = r := by cases d <;> rfl
def keptB (n : Nat) : List (Nat × Nat) → Bool
  | [] => false
  | (_, m) :: r => match Nat.beq n m with
    | true => true
    | false => keptB n r
def injR : List (Nat × Nat) → Bool
  | [] => true
  | (_, m) :: r => match keptB m r with
    | true => false
    | false => injR r
def lowR : List (Nat × Nat) → Bool
  | [] => true
  | (i, n) :: r => match Nat.blt i 16 with
    | true => match Nat.beq i n with
      | true => lowR r
      | false => false
    | false => lowR r
def nmEq (rn : List (Nat × Nat)) (i n : Nat) : Bool :=
  match lkA rn i with
  | some m => Nat.beq n m
  | none => false
def frzName (v : AV) : Option Nat :=
  match v with
  | .own n _ => some n
  | .rsl n _ _ _ => some n
  | .csl n _ _ => some n
  | .wsl n _ _ _ _ _ _ _ => some n
  | _ => none
def fzOk (fz : Option (List Nat)) (n : Nat) : Bool :=
  match fz with
  | none => true
  | some l => memN n l
def slF (fz : Option (List Nat)) (rn : List (Nat × Nat)) (ob : Nat → Option AO) (e : Sh) (v : AV) : Option (List Prop × List e.T) :=
  match v with
  | .nilsl => some ([], [])
  | .fsl e' xs => if h : e' = e then some ([], h ▸ xs) else none
  | v => match frzName v with
    | some n => match keptB n rn, fzOk fz n with
      | false, true => match readA ob e v with
        | some (xs, q) => some (q, xs)
        | none => none
      | _, _ => none
    | none => none
def ptF (fz : Option (List Nat)) (rn : List (Nat × Nat)) (ob : Nat → Option AO) (e : Sh) (off : Nat) (v : AV) : Option e.T :=
  match v with
  | .fpt e' x off' => match Nat.beq off off' with
    | true => if h : e' = e then some (h ▸ x) else none
    | false => none
  | .ptr n off' => match Nat.beq off off' with
    | true => match keptB n rn, fzOk fz n with
      | false, true => match ob n with
        | some (.cells l) => match decS e l with
          | some (x, []) => some x
          | _ => none
        | some (.fcl l) => match decS e l with
          | some (x, []) => some x
          | _ => none
        | _ => none
      | _, _ => none
    | false => none
  | _ => none
def LD.dec (fz : Option (List Nat)) (rn : List (Nat × Nat)) (ob : Nat → Option AO) : (d : LD) → AV → Option (List Prop × d.T)
  | .int k, v => match v with
    | .int k' n => if k = k' then some ([], n) else none
    | _ => none
  | .bool, v => match v with
    | .bool b => some ([], b)
    | _ => none
  | .str, v => match v with
    | .str l => some ([], l)
    | _ => none
  | .sl e, v => slF fz rn ob e v
  | .own i e, v => match v with
    | .own n e' => match nmEq rn i n with
      | true => if e' = e then some ([], ()) else none
      | false => none
    | .nilsl => match lkA rn i with
      | none => some ([], ())
      | some _ => none
    | _ => none
  | .ptr i off, v => match v with
    | .ptr n off' => match nmEq rn i n, Nat.beq off off' with
      | true, true => some ([], ())
      | _, _ => none
    | _ => none
  | .epr i e off, v => match v with
    | .epr n e' j off' => match nmEq rn i n, Nat.beq off off' with
      | true, true => if e' = e then some ([], j) else none
      | _, _ => none
    | _ => none
  | .fpt e off, v => match ptF fz rn ob e off v with
    | some x => some ([], x)
    | none => none
  | .nilp, v => match v with
    | .nilp => some ([], ())
    | _ => none
  | .nilif, v => match v with
    | .nilif => some ([], ())
    | _ => none
  | .nilf, v => match v with
    | .nilf => some ([], ())
    | _ => none
  | .junk, v => match leafA v with
    | true => some ([], ())
    | false => none
  | .err, v => match errA v with
    | some x => some ([], x)
    | none => none
  | .mpr i, v => match v with
    | .mpr n => match nmEq rn i n with
      | true => some ([], ())
      | false => none
    | _ => none
def decF (fz : Option (List Nat)) (rn : List (Nat × Nat)) (ob : Nat → Option AO) : (s : Sh) → List AV → Option (List Prop × s.T × List AV)
  | .int k, l => match l with
    | .int k' n :: r => if k = k' then some ([], n, r) else none
    | _ => none
  | .bool, l => match l with
    | .bool x :: r => some ([], x, r)
    | _ => none
  | .str, l => match l with
    | .str x :: r => some ([], x, r)
    | _ => none
  | .sl e, l => match l with
    | v :: r => match slF fz rn ob e v with
      | some (q, xs) => some (q, xs, r)
      | none => none
    | [] => none
  | .unit, l => some ([], (), l)
  | .arr _ _, _ => none
  | .pair a b, l => match decF fz rn ob a l with
    | some (p, x, r) => match decF fz rn ob b r with
      | some (q, y, r') => some (appA p q, ((x, y) : a.T × b.T), r')
      | none => none
    | none => none
  | .err, l => match l with
    | v :: r => match errA v with
      | some x => some ([], x, r)
      | none => none
    | [] => none
inductive VD where
  | leaf (d : LD) | grp (s : Sh) | agg (l : List LD) | fn (f : FuncId) (x y : List LD) | arr (e : Sh)
inductive OD where
  | rows (e : Sh) | cells (l : List LD) | grp (s : Sh) | mp (k : IntKind) (e : Sh)
@[reducible] def ldsTo : List LD → Type → Type
  | [], R => R
  | d :: l, R => consT d (ldsTo l R)
def ldsDec {R : Type} (fz : Option (List Nat)) (rn : List (Nat × Nat)) (ob : Nat → Option AO) : (l : List LD) → List AV → Option (List Prop × R) → Option (List Prop × ldsTo l R)
  | [], vs, r => match vs with
    | [] => r
    | _ :: _ => none
  | d :: l, vs, r => match vs with
    | v :: vs => match LD.dec fz rn ob d v, ldsDec fz rn ob l vs r with
      | some (p, x), some (q, y) => some (appA p q, mkC d x y)
      | _, _ => none
    | [] => none
def ldsEnc {R : Type} : (l : List LD) → ldsTo l R → List AV × R
  | [], x => ([], x)
  | d :: l, x => match ldsEnc l (tlC d x) with
    | (vs, r) => (d.enc (hdC d x) :: vs, r)
@[reducible] def VD.To (v : VD) (R : Type) : Type :=
  match v with
  | .leaf d => consT d R
  | .grp s => s.T × R
  | .agg l => ldsTo l R
  | .fn _ x y => ldsTo x (ldsTo y R)
  | .arr e => e.T × R
def VD.dec {R : Type} (fz : Option (List Nat)) (rn : List (Nat × Nat)) (ob : Nat → Option AO) : (v : VD) → AV → Option (List Prop × R) → Option (List Prop × v.To R)
  | .leaf d, a, r => match LD.dec fz rn ob d a, r with
    | some (p, x), some (q, y) => some (appA p q, mkC d x y)
    | _, _ => none
  | .grp s, a, r => match a with
    | .agg l => match s.flat, decF fz rn ob s l, r with
      | true, some (p, x, []), some (q, y) => some (appA p q, (x, y))
      | _, _, _ => none
    | _ => none
  | .agg ds, a, r => match a with
    | .agg l => ldsDec fz rn ob ds l r
    | _ => none
  | .fn f x y, a, r => match a with
    | .fn f' p q => match Nat.beq f' f with
      | true => ldsDec fz rn ob x p (ldsDec fz rn ob y q r)
      | false => none
    | _ => none
  | .arr e, a, r => match a, r with
    | .arr e' x, some (q, y) => if h : e' = e then some (q, ((h ▸ x : e.T), y)) else none
    | _, _ => none
def VD.enc {R : Type} : (v : VD) → v.To R → AV × R
  | .leaf d, x => (d.enc (hdC d x), tlC d x)
  | .grp s, x => (.agg (Go.Tr.enc s (Prod.fst x)), Prod.snd x)
  | .agg ds, x => match ldsEnc ds x with
    | (l, r) => (.agg l, r)
  | .fn f a b, x => match ldsEnc a x with
    | (p, y) => match ldsEnc b y with
      | (q, r) => (.fn f p q, r)
  | .arr e, x => (.arr e (Prod.fst x), Prod.snd x)
@[reducible] def OD.To (o : OD) (R : Type) : Type :=
  match o with
  | .rows e => List e.T × R
  | .cells l => ldsTo l R
  | .grp s => s.T × R
  | .mp _ e => List (Int × e.T) × R
def OD.dec {R : Type} (st : Bool) (fz : Option (List Nat)) (rn : List (Nat × Nat)) (ob : Nat → Option AO) (i : Nat) : (o : OD) → Option (List Prop × R) → Option (List Prop × o.To R)
  | .rows e, r => match lkA rn i with
    | some n => match ob n with
      | some (.rows e' xs) => match r with
        | some (q, y) => if h : e' = e then some (q, (h ▸ xs, y)) else none
        | none => none
      | _ => none
    | none => match st && Nat.blt i 16 with
      | true => none
      | false => match r with
        | some (q, y) => some (q, ([], y))
        | none => none
  | .cells ds, r => match lkA rn i with
    | some n => match ob n with
      | some (.cells l) => ldsDec fz rn ob ds l r
      | _ => none
    | none => none
  | .grp s, r => match lkA rn i with
    | some n => match ob n with
      | some (.cells l) => match s.flat, decF fz rn ob s l, r with
        | true, some (p, x, []), some (q, y) => some (appA p q, (x, y))
        | _, _, _ => none
      | _ => none
    | none => none
  | .mp k e, r => match lkA rn i with
    | some n => match ob n with
      | some (.mp k' e' xs) => match r with
        | some (q, y) => if h : e' = e then if k' = k then some (q, ((h ▸ xs : List (Int × e.T)), y)) else none else none
        | none => none
      | _ => none
    | none => none
def OD.enc {R : Type} : (o : OD) → o.To R → AO × R
  | .rows e, x => (.rows e (Prod.fst x), Prod.snd x)
  | .cells ds, x => match ldsEnc ds x with
    | (l, r) => (.cells l, r)
  | .grp s, x => (.cells (Go.Tr.enc s (Prod.fst x)), Prod.snd x)
  | .mp k e, x => (.mp k e (Prod.fst x), Prod.snd x)
@[reducible] def tmTo : List (Nat × VD) → Type → Type
  | [], R => R
  | (_, v) :: l, R => v.To (tmTo l R)
def tmDec {R : Type} (fz : Option (List Nat)) (rn : List (Nat × Nat)) (ob : Nat → Option AO) (tm : Nat → Option AV) : (l : List (Nat × VD)) → Option (List Prop × R) → Option (List Prop × tmTo l R)
  | [], r => r
  | (t, v) :: l, r => match tm t with
    | some a => VD.dec fz rn ob v a (tmDec fz rn ob tm l r)
    | none => none
def tmEnc {R : Type} : (l : List (Nat × VD)) → tmTo l R → List (Nat × AV) × R
  | [], x => ([], x)
  | (t, v) :: l, x => match v.enc x with
    | (a, y) => match tmEnc l y with
      | (tm, r) => ((t, a) :: tm, r)
@[reducible] def obTo : List (Nat × OD) → Type → Type
  | [], R => R
  | (_, o) :: l, R => o.To (obTo l R)
def obDec {R : Type} (st : Bool) (fz : Option (List Nat)) (rn : List (Nat × Nat)) (ob : Nat → Option AO) : (l : List (Nat × OD)) → Option (List Prop × R) → Option (List Prop × obTo l R)
  | [], r => r
  | (i, o) :: l, r => OD.dec st fz rn ob i o (obDec st fz rn ob l r)
def obEnc {R : Type} : (l : List (Nat × OD)) → obTo l R → Upd × R
  | [], x => ([], x)
  | (i, o) :: l, x => match o.enc x with
    | (a, y) => match obEnc l y with
      | (u, r) => ((i, some a) :: u, r)
def addN2 (i n : Nat) (rn : List (Nat × Nat)) : List (Nat × Nat) :=
  match lkA rn i with
  | some _ => rn
  | none => (i, n) :: rn
def LD.uni (d : LD) (v : AV) (rn : List (Nat × Nat)) : List (Nat × Nat) :=
  match d with
  | .own i _ => match v with
    | .own n _ => addN2 i n rn
    | _ => rn
  | .ptr i _ => match v with
    | .ptr n _ => addN2 i n rn
    | _ => rn
  | .epr i _ _ => match v with
    | .epr n _ _ _ => addN2 i n rn
    | _ => rn
  | .mpr i => match v with
    | .mpr n => addN2 i n rn
    | _ => rn
  | _ => rn
def ldsUni : List LD → List AV → List (Nat × Nat) → List (Nat × Nat)
  | [], _, rn => rn
  | d :: l, vs, rn => match vs with
    | v :: vs => ldsUni l vs (d.uni v rn)
    | [] => rn
def VD.uni (d : VD) (v : AV) (rn : List (Nat × Nat)) : List (Nat × Nat) :=
  match d with
  | .leaf d => d.uni v rn
  | .grp _ => rn
  | .agg ds => match v with
    | .agg l => ldsUni ds l rn
    | _ => rn
  | .fn _ x y => match v with
    | .fn _ p q => ldsUni y q (ldsUni x p rn)
    | _ => rn
  | .arr _ => rn
def tmUni (tm : Nat → Option AV) : List (Nat × VD) → List (Nat × Nat) → List (Nat × Nat)
  | [], rn => rn
  | (t, v) :: l, rn => match tm t with
    | some a => tmUni tm l (v.uni a rn)
    | none => rn
def obUni (ob : Nat → Option AO) : List (Nat × OD) → List (Nat × Nat) → List (Nat × Nat)
  | [], rn => rn
  | (i, o) :: l, rn => match o with
    | .cells ds => match lkA rn i with
      | some n => match ob n with
        | some (.cells vs) => obUni ob l (ldsUni ds vs rn)
        | _ => obUni ob l rn
      | none => obUni ob l rn
    | _ => obUni ob l rn
def idN : List (Nat × OD) → List (Nat × Nat)
  | [] => []
  | (i, _) :: r => match Nat.blt i 16 with
    | true => (i, i) :: idN r
    | false => idN r
universe u
def frcR {α : Type u} : List (Nat × Nat) → (List (Nat × Nat) → Option α) → Option α
  | [], k => k []
  | (i, n) :: r, k => frcN i fun i' => frcN n fun n' => frcR r fun r' => k ((i', n') :: r')
theorem frcR_eq {α : Type u} : ∀ (l : List (Nat × Nat)) (k : List (Nat × Nat) → Option α), frcR l k = k l
  | [], k => rfl
  | (i, n) :: r, k => by simp only [frcR, frcN_eq, frcR_eq r]
structure StD where
  tmps : List (Nat × VD)
  objs : List (Nat × OD)
  next : Nat
  nt : Nat
@[reducible] def StD.T (D : StD) : Type := tmTo D.tmps (obTo D.objs Unit)
def StD.dec (D : StD) (g : Ga) : Option (List Prop × D.T) :=
  match Nat.beq g.nt D.nt with
  | true => frcR (obUni (lkO g.objs) D.objs (tmUni (lkA g.tmps) D.tmps (idN D.objs))) fun rn => match injR rn, lowR rn with
    | true, true => tmDec none rn (lkO g.objs) (lkA g.tmps) D.tmps (obDec true none rn (lkO g.objs) D.objs (some ([], ())))
    | _, _ => none
  | false => none
def StD.enc (D : StD) (x : D.T) : Ga :=
  match tmEnc D.tmps x with
  | (tm, y) => match obEnc D.objs y with
    | (ob, _) => ⟨tm, ob, D.next, D.nt⟩
def LD.okN (N : Nat) : LD → Bool
  | .own n _ => Nat.blt n N
  | .ptr n _ => Nat.blt n N
  | .epr n _ _ => Nat.blt n N
  | .mpr n => Nat.blt n N
  | _ => true
def ldsOkN (N : Nat) : List LD → Bool
  | [] => true
  | d :: l => d.okN N && ldsOkN N l
def VD.okN (N : Nat) : VD → Bool
  | .leaf d => d.okN N
  | .grp _ => true
  | .agg l => ldsOkN N l
  | .fn _ x y => ldsOkN N x && ldsOkN N y
  | .arr _ => true
def tmOkN (N : Nat) : List (Nat × VD) → Bool
  | [] => true
  | (_, v) :: l => v.okN N && tmOkN N l
def OD.okN (N : Nat) : OD → Bool
  | .cells l => ldsOkN N l
  | _ => true
def obOkN (N : Nat) : List (Nat × OD) → Bool
  | [] => true
  | (i, o) :: l => Nat.blt i N && o.okN N && obOkN N l
def StD.wf (D : StD) : Bool := Nat.ble 16 D.next && tmOkN D.next D.tmps && obOkN D.next D.objs
def domO (l : List (Nat × OD)) (i : Nat) : Bool :=
  match l with
  | [] => false
  | (j, _) :: r => match Nat.beq i j with
    | true => true
    | false => domO r i
def convE (E : Env) (fz : Option (List Nat)) (rn : List (Nat × Nat)) (dom : Nat → Bool) : Env :=
  ⟨E.w, fun i => match dom i with
    | true => match lkA rn i with
      | some n => E.mu n
      | none => some ⟨none, 0, false, 0⟩
    | false => none,
   fun b => E.ok b ∨ ∃ n, owns E n b ∧ keptB n rn = false ∧ fzOk fz n = true⟩
theorem frzName_has {v : AV} {n m : Nat} (h : frzName v = some n) (hm : v.has m = true) : m = n := by
  unfold frzName at h
  split at h <;> first
    | (simp only [Option.some.injEq] at h; subst h; simp only [AV.has] at hm; exact beq_true hm)
    | simp at h
section
variable {W0 : WX} {okIn B us : Nat → Prop} {tm : Nat → Option AV} {ob : Nat → Option AO} {nt : Nat} {E : Env} {a : Act} {fz : Option (List Nat)} {rn : List (Nat × Nat)} {dom : Nat → Bool}
theorem slF_sound (hs : ObS E us ob) {e : Sh} {v : AV} {q : List Prop} {xs : List e.T} {z : Value} (h : slF fz rn ob e v = some (q, xs)) (hq : ∀ p ∈ q, p) (hx : VR E v z) :
    LRs E.w (convE E fz rn dom).ok (.sl e) xs [z] := by
  unfold slF at h
  split at h
  · simp only [Option.some.injEq, Prod.mk.injEq] at h
    obtain ⟨rfl, rfl⟩ := h
    simp only [VR] at hx
    subst hx
    exact ⟨none, 0, rfl, Nat.le_refl _, .inl rfl⟩
  · split at h
    · rename_i he
      subst he
      simp only [Option.some.injEq, Prod.mk.injEq] at h
      obtain ⟨rfl, rfl⟩ := h
      simp only [VR] at hx
      exact LRs.mono (fun _ _ => rfl) (fun _ h => .inl h) _ _ _ hx
    · simp at h
  · split at h
    · rename_i n hn
      split at h
      · rename_i hk hz
        split at h
        · rename_i xs' q' hr
          simp only [Option.some.injEq, Prod.mk.injEq] at h
          obtain ⟨rfl, rfl⟩ := h
          obtain ⟨base, cap, rfl, hc, hrest⟩ := readA_sound hs hr hq hx
          simp only [LRs]
          refine ⟨base, cap, rfl, hc, ?_⟩
          rcases hrest with h0 | ⟨b, o, rfl, hb, hrow⟩
          · exact .inl h0
          · refine .inr ⟨b, o, rfl, ?_, fun i hi => ?_⟩
            · rcases hb with hb | ⟨m, hm, hb⟩
              · exact .inl hb
              · have := frzName_has hn hm
                subst this
                exact .inr ⟨m, hb, hk, hz⟩
            · obtain ⟨cs, c1, c2, c3⟩ := hrow i hi
              exact ⟨cs, c1, c2, LRs.mono (fun _ _ => rfl) (fun _ h => .inl h) _ _ _ c3⟩
        · simp at h
      · simp at h
    · simp at h
theorem ptF_sound (hs : ObS E us ob) {e : Sh} {off : Nat} {v : AV} {x : e.T} {z : Value} (h : ptF fz rn ob e off v = some x) (hx : VR E v z) : VR (convE E fz rn dom) (.fpt e x off) z := by
  have key : ∀ {n : Nat} {l : List AV} {y : e.T}, (∃ b cs T fr L, E.mu n = some L ∧ L.base = some ⟨b, 0, none⟩ ∧ (E.ok b ∨ owns E n b) ∧ E.w.heap[b]? = some (.cells cs T fr) ∧ VRL E l cs.toList) → keptB n rn = false → fzOk fz n = true → decS e l = some (y, []) → VR E (.ptr n off) z →
      VR (convE E fz rn dom) (.fpt e y off) z := by
    rintro n l y ⟨b, cs, T, fr, L, g1, g2, g3, g4, g5⟩ hk hz hd hx
    simp only [VR] at hx
    obtain ⟨b', hb', rfl⟩ := hx.2 _ g1
    rw [g2] at hb'
    simp only [Option.some.injEq, Addr.mk.injEq, and_true] at hb'
    subst hb'
    have hl := decS_all hd g5
    simp only [VR]
    exact ⟨b, 0, cs.toList, by simp, g3.elim .inl (fun h => .inr ⟨n, h, hk, hz⟩), LRs.length _ _ _ hl, cells_row g4, LRs.mono (fun _ _ => rfl) (fun _ h => .inl h) _ _ _ hl⟩
  unfold ptF at h
  split at h
  · split at h
    · rename_i hb
      rw [beq_true hb]
      split at h
      · rename_i he
        subst he
        simp only [Option.some.injEq] at h
        subst h
        simp only [VR] at hx ⊢
        obtain ⟨b, o, cs, h1, h2, h3, h4, h5⟩ := hx
        exact ⟨b, o, cs, h1, .inl h2, h3, h4, LRs.mono (fun _ _ => rfl) (fun _ h => .inl h) _ _ _ h5⟩
      · simp at h
    · simp at h
  · split at h
    · rename_i hb
      rw [← beq_true hb] at hx
      split at h
      · rename_i hk hz
        split at h
        · rename_i l hob
          split at h
          · rename_i y hd
            simp only [Option.some.injEq] at h
            subst h
            obtain ⟨b, cs, T, fr, g1, g2, g3, g4⟩ := (hs.obj _ _ hob).1
            exact key ⟨b, cs, T, fr, _, g1, rfl, .inr ⟨_, g1, rfl, rfl⟩, g2, g4⟩ hk hz hd hx
          · simp at h
        · rename_i l hob
          split at h
          · rename_i y hd
            simp only [Option.some.injEq] at h
            subst h
            obtain ⟨b, cs, T, fr, g1, g0, g2, g4⟩ := (hs.obj _ _ hob).1
            exact key ⟨b, cs, T, fr, _, g1, rfl, .inl g0, g2, g4⟩ hk hz hd hx
          · simp at h
        · simp at h
      · simp at h
    · simp at h
  · simp at h
theorem convE_mu {i n : Nat} (h : nmEq rn i n = true) {L : Loc} (hL : (convE E fz rn dom).mu i = some L) : E.mu n = some L := by
  simp only [convE] at hL
  unfold nmEq at h
  split at h
  · rename_i m hm
    have := beq_true h
    subst this
    split at hL
    · rw [hm] at hL; exact hL
    · simp at hL
  · simp at h
theorem errF_sound {v : AV} {x : TErr} {z : Value} (h : errA v = some x) (hx : VR E v z) : ErrR E.w (convE E fz rn dom).ok x z :=
  ErrR.mono (w := E.w) (ok := E.ok) (fun _ _ => rfl) (fun _ h => .inl h) _ _ (errA_sound h hx)
theorem ld_sound (hs : ObS E us ob) {d : LD} {v : AV} {q : List Prop} {x : d.T} {z : Value} (h : LD.dec fz rn ob d v = some (q, x)) (hq : ∀ p ∈ q, p) (hx : VR E v z) :
    VR (convE E fz rn dom) (d.enc x) z := by
  cases d with
  | int k =>
    simp only [LD.dec] at h
    split at h
    · split at h
      · rename_i hk
        subst hk
        simp only [Option.some.injEq, Prod.mk.injEq] at h
        obtain ⟨rfl, rfl⟩ := h
        simpa only [LD.enc, VR] using hx
      · simp at h
    · simp at h
  | bool =>
    simp only [LD.dec] at h
    split at h
    · simp only [Option.some.injEq, Prod.mk.injEq] at h
      obtain ⟨rfl, rfl⟩ := h
      simpa only [LD.enc, VR] using hx
    · simp at h
  | str =>
    simp only [LD.dec] at h
    split at h
    · simp only [Option.some.injEq, Prod.mk.injEq] at h
      obtain ⟨rfl, rfl⟩ := h
      simpa only [LD.enc, VR] using hx
    · simp at h
  | sl e =>
    simp only [LD.dec] at h
    simp only [LD.enc, VR]
    exact slF_sound hs h hq hx
  | own i e =>
    simp only [LD.dec] at h
    split at h
    · split at h
      · rename_i hn
        split at h
        · rename_i he
          subst he
          simp only [LD.enc, VR] at hx ⊢
          exact ⟨hx.1, fun L hL => hx.2 L (convE_mu hn hL)⟩
        · simp at h
      · simp at h
    · split at h
      · rename_i hn
        simp only [LD.enc, VR] at hx ⊢
        subst hx
        refine ⟨trivial, fun L hL => ?_⟩
        simp only [convE, hn] at hL
        split at hL
        · simp only [Option.some.injEq] at hL; subst hL; rfl
        · simp at hL
      · simp at h
    · simp at h
  | ptr i off =>
    simp only [LD.dec] at h
    split at h
    · split at h
      · rename_i hn hb
        simp only [LD.enc, VR] at hx ⊢
        rw [beq_true hb]
        exact ⟨hx.1, fun L hL => hx.2 L (convE_mu hn hL)⟩
      · simp at h
    · simp at h
  | epr i e off =>
    simp only [LD.dec] at h
    split at h
    · split at h
      · rename_i hn hb
        split at h
        · rename_i he
          subst he
          simp only [Option.some.injEq, Prod.mk.injEq] at h
          obtain ⟨rfl, rfl⟩ := h
          simp only [LD.enc, VR] at hx ⊢
          rw [beq_true hb]
          exact ⟨hx.1, fun L hL => hx.2 L (convE_mu hn hL)⟩
        · simp at h
      · simp at h
    · simp at h
  | fpt e off =>
    simp only [LD.dec] at h
    split at h
    · rename_i y hy
      simp only [Option.some.injEq, Prod.mk.injEq] at h
      obtain ⟨rfl, rfl⟩ := h
      exact ptF_sound hs hy hx
    · simp at h
  | nilp =>
    simp only [LD.dec] at h
    split at h
    · simpa only [LD.enc, VR] using hx
    · simp at h
  | nilif =>
    simp only [LD.dec] at h
    split at h
    · simpa only [LD.enc, VR] using hx
    · simp at h
  | nilf =>
    simp only [LD.dec] at h
    split at h
    · simpa only [LD.enc, VR] using hx
    · simp at h
  | junk =>
    simp only [LD.dec] at h
    split at h
    · rename_i hl
      simp only [LD.enc, VR]
      exact leaf_of hl hx
    · simp at h
  | err =>
    simp only [LD.dec] at h
    split at h
    · rename_i y hy
      simp only [Option.some.injEq, Prod.mk.injEq] at h
      obtain ⟨rfl, rfl⟩ := h
      simp only [LD.enc, VR]
      exact errF_sound hy hx
    · simp at h
  | mpr i =>
    simp only [LD.dec] at h
    split at h
    · split at h
      · rename_i hn
        simp only [LD.enc, VR] at hx ⊢
        exact ⟨hx.1, fun L hL => hx.2 L (convE_mu hn hL)⟩
      · simp at h
    · simp at h
theorem decF_sound (hs : ObS E us ob) : ∀ {s : Sh} {l r : List AV} {q : List Prop} {x : s.T} {zs : List Value}, decF fz rn ob s l = some (q, x, r) → (∀ p ∈ q, p) → VRL E l zs →
    ∃ z1 z2, zs = z1 ++ z2 ∧ LRs E.w (convE E fz rn dom).ok s x z1 ∧ VRL E r z2 := by
  intro s
  induction s with
  | int k =>
    intro l r q x zs h hq hv
    simp only [decF] at h
    split at h
    · split at h
      · rename_i hk
        subst hk
        simp only [Option.some.injEq, Prod.mk.injEq] at h
        obtain ⟨rfl, rfl, rfl⟩ := h
        simp only [VRL, VR] at hv
        obtain ⟨v, r', rfl, rfl, hr⟩ := hv
        exact ⟨[_], r', rfl, rfl, hr⟩
      · simp at h
    · simp at h
  | bool =>
    intro l r q x zs h hq hv
    simp only [decF] at h
    split at h
    · simp only [Option.some.injEq, Prod.mk.injEq] at h
      obtain ⟨rfl, rfl, rfl⟩ := h
      simp only [VRL, VR] at hv
      obtain ⟨v, r', rfl, rfl, hr⟩ := hv
      exact ⟨[_], r', rfl, rfl, hr⟩
    · simp at h
  | str =>
    intro l r q x zs h hq hv
    simp only [decF] at h
    split at h
    · simp only [Option.some.injEq, Prod.mk.injEq] at h
      obtain ⟨rfl, rfl, rfl⟩ := h
      simp only [VRL, VR] at hv
      obtain ⟨v, r', rfl, rfl, hr⟩ := hv
      exact ⟨[_], r', rfl, rfl, hr⟩
    · simp at h
  | sl e ih =>
    intro l r q x zs h hq hv
    simp only [decF] at h
    split at h
    · split at h
      · rename_i q' xs hsl
        simp only [Option.some.injEq, Prod.mk.injEq] at h
        obtain ⟨rfl, rfl, rfl⟩ := h
        simp only [VRL] at hv
        obtain ⟨v, r', rfl, hv1, hr⟩ := hv
        exact ⟨[v], r', rfl, slF_sound hs hsl hq hv1, hr⟩
      · simp at h
    · simp at h
  | arr n e ih => intro l r q x zs h; simp [decF] at h
  | unit =>
    intro l r q x zs h hq hv
    simp only [decF, Option.some.injEq, Prod.mk.injEq] at h
    obtain ⟨rfl, _, rfl⟩ := h
    exact ⟨[], zs, rfl, rfl, hv⟩
  | pair s1 s2 ih1 ih2 =>
    intro l r q x zs h hq hv
    simp only [decF] at h
    split at h
    · rename_i p x1 r1 h1
      split at h
      · rename_i p2 x2 r2 h2
        simp only [Option.some.injEq, Prod.mk.injEq] at h
        obtain ⟨rfl, rfl, rfl⟩ := h
        obtain ⟨z1, z2, rfl, g1, g2⟩ := ih1 h1 (hq_l hq) hv
        obtain ⟨z3, z4, rfl, g3, g4⟩ := ih2 h2 (hq_r hq) g2
        exact ⟨z1 ++ z3, z4, by simp, ⟨z1, z3, rfl, g1, g3⟩, g4⟩
      · simp at h
    · simp at h
  | err =>
    intro l r q x zs h hq hv
    simp only [decF] at h
    split at h
    · split at h
      · rename_i y hy
        simp only [Option.some.injEq, Prod.mk.injEq] at h
        obtain ⟨rfl, rfl, rfl⟩ := h
        simp only [VRL] at hv
        obtain ⟨v, r', rfl, hv1, hr⟩ := hv
        exact ⟨[v], r', rfl, ⟨v, rfl, errF_sound hy hv1⟩, hr⟩
      · simp at h
    · simp at h
theorem grp_sound (hs : ObS E us ob) {s : Sh} {l : List AV} {q : List Prop} {x : s.T} {zs : List Value} (hf : s.flat = true) (h : decF fz rn ob s l = some (q, x, [])) (hq : ∀ p ∈ q, p) (hv : VRL E l zs) :
    VRL (convE E fz rn dom) (enc s x) zs := by
  obtain ⟨z1, z2, rfl, g1, g2⟩ := decF_sound (dom := dom) hs h hq hv
  simp only [VRL] at g2
  subst g2
  rw [List.append_nil]
  exact enc_sound (E := convE E fz rn dom) s hf x z1 g1
theorem lds_sound {R : Type} (hs : ObS E us ob) : ∀ {ds : List LD} {l : List AV} {r : Option (List Prop × R)} {q : List Prop} {y : ldsTo ds R}, ldsDec fz rn ob ds l r = some (q, y) → (∀ p ∈ q, p) →
    ∃ q0 y0, r = some (q0, y0) ∧ (∀ p ∈ q0, p) ∧ (ldsEnc ds y).2 = y0 ∧ ∀ zs, VRL E l zs → VRL (convE E fz rn dom) (ldsEnc ds y).1 zs
  | [], l, r, q, y, h, hq => by
    simp only [ldsDec] at h
    split at h
    · exact ⟨q, y, h, hq, rfl, fun zs hz => by simpa [VRL, ldsEnc] using hz⟩
    · simp at h
  | d :: ds, l, r, q, y, h, hq => by
    simp only [ldsDec] at h
    split at h
    · rename_i v vs
      split at h
      · rename_i p x q' y' h1 h2
        simp only [Option.some.injEq, Prod.mk.injEq] at h
        obtain ⟨rfl, rfl⟩ := h
        obtain ⟨q0, y0, g1, g2, g3, g4⟩ := lds_sound hs h2 (hq_r hq)
        refine ⟨q0, y0, g1, g2, ?_, fun zs hz => ?_⟩
        · simp only [ldsEnc, tl_mk]; exact g3
        · simp only [VRL] at hz
          obtain ⟨z, r', rfl, hz1, hz2⟩ := hz
          simp only [ldsEnc, tl_mk, hd_mk, VRL]
          exact ⟨z, r', rfl, ld_sound hs h1 (hq_l hq) hz1, g4 r' hz2⟩
      · simp at h
    · simp at h
theorem vd_sound {R : Type} (hs : ObS E us ob) {d : VD} {v : AV} {r : Option (List Prop × R)} {q : List Prop} {y : d.To R} (h : VD.dec fz rn ob d v r = some (q, y)) (hq : ∀ p ∈ q, p) :
    ∃ q0 y0, r = some (q0, y0) ∧ (∀ p ∈ q0, p) ∧ (d.enc y).2 = y0 ∧ ∀ z, VR E v z → VR (convE E fz rn dom) (d.enc y).1 z := by
  cases d with
  | leaf d =>
    simp only [VD.dec] at h
    split at h
    · rename_i p x q' y' h1
      simp only [Option.some.injEq, Prod.mk.injEq] at h
      obtain ⟨rfl, rfl⟩ := h
      exact ⟨q', y', rfl, hq_r hq, tl_mk _ _ _, fun z hz => by simp only [VD.enc, hd_mk]; exact ld_sound hs h1 (hq_l hq) hz⟩
    · simp at h
  | grp s =>
    simp only [VD.dec] at h
    split at h
    · split at h
      · rename_i hf hd
        simp only [Option.some.injEq, Prod.mk.injEq] at h
        obtain ⟨rfl, rfl⟩ := h
        refine ⟨_, _, rfl, hq_r hq, rfl, fun z hz => ?_⟩
        simp only [VR] at hz
        obtain ⟨vs, rfl, hz⟩ := hz
        simp only [VD.enc, VR]
        exact ⟨vs, rfl, grp_sound hs hf hd (hq_l hq) hz⟩
      · simp at h
    · simp at h
  | agg ds =>
    simp only [VD.dec] at h
    split at h
    · obtain ⟨q0, y0, g1, g2, g3, g4⟩ := lds_sound (dom := dom) hs h hq
      refine ⟨q0, y0, g1, g2, g3, fun z hz => ?_⟩
      simp only [VR] at hz
      obtain ⟨vs, rfl, hz⟩ := hz
      simp only [VD.enc, VR]
      exact ⟨vs, rfl, g4 vs hz⟩
    · simp at h
  | fn f x1 x2 =>
    simp only [VD.dec] at h
    split at h
    · split at h
      · rename_i hb
        obtain ⟨q0, y0, g1, g2, g3, g4⟩ := lds_sound (dom := dom) hs h hq
        obtain ⟨q1, y1, k1, k2, k3, k4⟩ := lds_sound (dom := dom) hs g1 g2
        refine ⟨q1, y1, k1, k2, ?_, fun z hz => ?_⟩
        · simp only [VD.enc, g3]; exact k3
        · simp only [VR] at hz
          obtain ⟨p, q, rfl, hz1, hz2⟩ := hz
          simp only [VD.enc, VR, g3]
          exact ⟨p, q, by rw [beq_true hb], g4 p hz1, k4 q hz2⟩
      · simp at h
    · simp at h
  | arr e =>
    simp only [VD.dec] at h
    split at h
    · split at h
      · rename_i he
        subst he
        simp only [Option.some.injEq, Prod.mk.injEq] at h
        obtain ⟨rfl, rfl⟩ := h
        refine ⟨_, _, rfl, hq, rfl, fun z hz => ?_⟩
        simp only [VR] at hz
        obtain ⟨vs, rfl, hz⟩ := hz
        simp only [VD.enc, VR]
        exact ⟨vs, rfl, LRs.mono (fun _ _ => rfl) (fun _ h => .inl h) _ _ _ hz⟩
      · simp at h
    · simp at h
theorem tm_sound {R : Type} (hs : ObS E us ob) {val : Nat → Value} (ht : ∀ t v, tm t = some v → VR E v (val t)) : ∀ {l : List (Nat × VD)} {r : Option (List Prop × R)} {q : List Prop} {y : tmTo l R}, tmDec fz rn ob tm l r = some (q, y) → (∀ p ∈ q, p) →
    ∃ q0 y0, r = some (q0, y0) ∧ (∀ p ∈ q0, p) ∧ (tmEnc l y).2 = y0 ∧ ∀ p ∈ (tmEnc l y).1, VR (convE E fz rn dom) p.2 (val p.1)
  | [], r, q, y, h, hq => ⟨q, y, h, hq, rfl, fun p hp => by simp [tmEnc] at hp⟩
  | (t0, d) :: l, r, q, y, h, hq => by
    simp only [tmDec] at h
    split at h
    · rename_i v0 hv0
      obtain ⟨q0, y0, g1, g2, g3, g4⟩ := vd_sound (dom := dom) hs h hq
      obtain ⟨q1, y1, k1, k2, k3, k4⟩ := tm_sound hs ht g1 g2
      refine ⟨q1, y1, k1, k2, by simp only [tmEnc, g3]; exact k3, fun p hp => ?_⟩
      simp only [tmEnc, g3] at hp
      rcases List.mem_cons.1 hp with rfl | hp
      · exact g4 _ (ht t0 v0 hv0)
      · exact k4 p hp
    · simp at h
theorem od_sound {R : Type} (hs : ObS E us ob) {i : Nat} (hdom : dom i = true) {d : OD} {r : Option (List Prop × R)} {q : List Prop} {y : d.To R} {st : Bool} (h : OD.dec st fz rn ob i d r = some (q, y)) (hq : ∀ p ∈ q, p) :
    ∃ q0 y0, r = some (q0, y0) ∧ (∀ p ∈ q0, p) ∧ (d.enc y).2 = y0 ∧ ObjR (convE E fz rn dom) i (d.enc y).1 ∧ (st = true → i < 16 → ∃ n, lkA rn i = some n) ∧ ∀ n, lkA rn i = some n → ∃ o, ob n = some o := by
  have hmu : ∀ {n : Nat}, lkA rn i = some n → (convE E fz rn dom).mu i = E.mu n := fun hn => by simp only [convE, hdom, hn]
  have hcells : ∀ {n : Nat} {l l' : List AV}, lkA rn i = some n → ob n = some (.cells l) → (∀ zs, VRL E l zs → VRL (convE E fz rn dom) l' zs) → ObjR (convE E fz rn dom) i (.cells l') := by
    intro n l l' hn hob hl
    obtain ⟨b, cs, T, fr, g1, g2, g3, g4⟩ := (hs.obj _ _ hob).1
    exact ⟨b, cs, T, fr, (hmu hn).trans g1, g2, g3, hl _ g4⟩
  cases d with
  | rows e =>
    simp only [OD.dec] at h
    split at h
    · rename_i n hn
      split at h
      · rename_i e' xs hob
        split at h
        · rename_i q' y'
          split at h
          · rename_i he
            subst he
            simp only [Option.some.injEq, Prod.mk.injEq] at h
            obtain ⟨rfl, rfl⟩ := h
            refine ⟨q', y', rfl, hq, rfl, ?_, fun _ _ => ⟨n, hn⟩, fun m hm => by rw [hn] at hm; cases hm; exact ⟨_, hob⟩⟩
            obtain ⟨L, g1, g2, g3⟩ := (hs.obj _ _ hob).1
            refine ⟨L, (hmu hn).trans g1, g2, ?_⟩
            rcases g3 with g3 | ⟨b, cs, T, fr, k1, k2, k3, k4, k5, k6, k7⟩
            · exact .inl g3
            · exact .inr ⟨b, cs, T, fr, k1, k2, k3, k4, k5, k6, fun j hj => LRs.mono (fun _ _ => rfl) (fun _ h => .inl h) _ _ _ (k7 j hj)⟩
          · simp at h
        · simp at h
      · simp at h
    · rename_i hn
      split at h
      · simp at h
      rename_i hlo
      split at h
      · rename_i q' y'
        simp only [Option.some.injEq, Prod.mk.injEq] at h
        obtain ⟨rfl, rfl⟩ := h
        refine ⟨q', y', rfl, hq, rfl, ?_, fun h1 h2 => ?_, fun m hm => by rw [hn] at hm; simp at hm⟩
        · exact ⟨⟨none, 0, false, 0⟩, by simp only [convE, hdom, hn], rfl, .inl ⟨rfl, rfl, rfl⟩⟩
        · subst h1
          have : Nat.blt i 16 = true := Nat.ble_eq_true_of_le h2
          simp [this] at hlo
      · simp at h
  | cells ds =>
    simp only [OD.dec] at h
    split at h
    · rename_i n hn
      split at h
      · rename_i l hob
        obtain ⟨q0, y0, g1, g2, g3, g4⟩ := lds_sound (dom := dom) hs h hq
        exact ⟨q0, y0, g1, g2, g3, hcells hn hob g4, fun _ _ => ⟨n, hn⟩, fun m hm => by rw [hn] at hm; cases hm; exact ⟨_, hob⟩⟩
      · simp at h
    · simp at h
  | grp s =>
    simp only [OD.dec] at h
    split at h
    · rename_i n hn
      split at h
      · rename_i l hob
        split at h
        · rename_i hf hd
          simp only [Option.some.injEq, Prod.mk.injEq] at h
          obtain ⟨rfl, rfl⟩ := h
          exact ⟨_, _, rfl, hq_r hq, rfl, hcells hn hob fun zs hz => grp_sound hs hf hd (hq_l hq) hz, fun _ _ => ⟨n, hn⟩, fun m hm => by rw [hn] at hm; cases hm; exact ⟨_, hob⟩⟩
        · simp at h
      · simp at h
    · simp at h
  | mp k e =>
    simp only [OD.dec] at h
    split at h
    · rename_i n hn
      split at h
      · rename_i k' e' xs hob
        split at h
        · rename_i q' y'
          split at h
          · rename_i he
            subst he
            split at h
            · rename_i hk
              subst hk
              simp only [Option.some.injEq, Prod.mk.injEq] at h
              obtain ⟨rfl, rfl⟩ := h
              refine ⟨q', y', rfl, hq, rfl, ?_, fun _ _ => ⟨n, hn⟩, fun m hm => by rw [hn] at hm; cases hm; exact ⟨_, hob⟩⟩
              obtain ⟨b, es, c, g1, g2, g3⟩ := (hs.obj _ _ hob).1
              exact ⟨b, es, c, (hmu hn).trans g1, g2, MpR.mono (fun _ _ => rfl) (fun _ h => .inl h) g3⟩
            · simp at h
          · simp at h
        · simp at h
      · simp at h
    · simp at h
theorem ob_sound {R : Type} (hs : ObS E us ob) : ∀ {l : List (Nat × OD)} {r : Option (List Prop × R)} {q : List Prop} {y : obTo l R} {st : Bool}, obDec st fz rn ob l r = some (q, y) → (∀ p ∈ q, p) → (∀ i, domO l i = true → dom i = true) →
    ∃ q0 y0, r = some (q0, y0) ∧ (∀ p ∈ q0, p) ∧ (obEnc l y).2 = y0 ∧ (∀ i o, (i, some o) ∈ (obEnc l y).1 → ObjR (convE E fz rn dom) i o) ∧ (∀ i, domO l i = true → st = true → i < 16 → ∃ n, lkA rn i = some n) ∧ ∀ i, domO l i = true → ∀ n, lkA rn i = some n → ∃ o, ob n = some o
  | [], r, q, y, st, h, hq, _ => ⟨q, y, h, hq, rfl, fun i o ho => by simp [obEnc] at ho, fun i hi => by simp [domO] at hi, fun i hi => by simp [domO] at hi⟩
  | (i0, d) :: l, r, q, y, st, h, hq, hdom => by
    simp only [obDec] at h
    obtain ⟨q0, y0, g1, g2, g3, g4, g5, g6⟩ := od_sound (dom := dom) hs (hdom i0 (by simp [domO, beq_self])) h hq
    obtain ⟨q1, y1, k1, k2, k3, k4, k5, k6⟩ := ob_sound hs g1 g2 (fun i hi => hdom i (by simp only [domO]; split <;> first | rfl | exact hi))
    refine ⟨q1, y1, k1, k2, by simp only [obEnc, g3]; exact k3, fun i o ho => ?_, fun i hi => by
      simp only [domO] at hi
      split at hi
      · rename_i hb; rw [beq_true hb]; exact g5
      · exact k5 i hi, fun i hi => by
      simp only [domO] at hi
      split at hi
      · rename_i hb; rw [beq_true hb]; exact g6
      · exact k6 i hi⟩
    simp only [obEnc, g3] at ho
    rcases List.mem_cons.1 ho with ho | ho
    · simp only [Prod.mk.injEq, Option.some.injEq] at ho
      obtain ⟨rfl, rfl⟩ := ho
      exact g4
    · exact k4 i o ho
end
theorem ld_nm {N : Nat} (d : LD) (x : d.T) (h : d.okN N = true) : (d.enc x).nm (fun n => n < N) := by
  cases d <;> simp only [LD.enc, AV.nm, LD.okN] at h ⊢ <;> exact Nat.le_of_ble_eq_true h
theorem lds_nm {R : Type} {N : Nat} : ∀ (l : List LD) (x : ldsTo l R), ldsOkN N l = true → AV.nms (fun n => n < N) (ldsEnc l x).1
  | [], x, _ => by simp [ldsEnc, AV.nms]
  | d :: l, x, h => by
    simp only [ldsOkN, Bool.and_eq_true] at h
    simp only [ldsEnc, AV.nms]
    exact ⟨ld_nm d _ h.1, lds_nm l _ h.2⟩
theorem vd_nm {R : Type} {N : Nat} (d : VD) (x : d.To R) (h : d.okN N = true) : (d.enc x).1.nm (fun n => n < N) := by
  cases d with
  | leaf d => exact ld_nm d _ h
  | grp s => simp only [VD.enc, AV.nm]; exact enc_nms _ _ _
  | agg l => simp only [VD.enc, AV.nm]; exact lds_nm l x h
  | fn f a b =>
    simp only [VD.okN, Bool.and_eq_true] at h
    simp only [VD.enc, AV.nm]
    exact ⟨lds_nm a x h.1, lds_nm b _ h.2⟩
  | arr e => simp [VD.enc, AV.nm]
theorem tm_nm {R : Type} {N : Nat} : ∀ (l : List (Nat × VD)) (x : tmTo l R), tmOkN N l = true → ∀ t v, lkA (tmEnc l x).1 t = some v → v.nm (fun n => n < N)
  | [], x, _, t, v, h => by simp [tmEnc, lkA] at h
  | (t0, d) :: l, x, ho, t, v, h => by
    simp only [tmOkN, Bool.and_eq_true] at ho
    simp only [tmEnc, lkA] at h
    split at h
    · simp only [Option.some.injEq] at h
      subst h
      exact vd_nm d x ho.1
    · exact tm_nm l _ ho.2 t v h
theorem ob_nm {R : Type} {N : Nat} : ∀ (l : List (Nat × OD)) (x : obTo l R), obOkN N l = true → ∀ i o, lkO (obEnc l x).1 i = some o → o.nm (fun n => n < N) ∧ i < N
  | [], x, _, i, o, h => by simp [obEnc, lkO, lkA] at h
  | (i0, d) :: l, x, ho, i, o, h => by
    simp only [obOkN, Bool.and_eq_true] at ho
    simp only [obEnc] at h
    rw [lkO_cons] at h
    split at h
    · rename_i hi
      simp only [Option.some.injEq] at h
      subst h
      refine ⟨?_, by rw [hi]; exact Nat.le_of_ble_eq_true ho.1.1⟩
      cases d with
      | rows e => simp [OD.enc, AO.nm]
      | cells l => simp only [OD.enc, AO.nm]; exact lds_nm l x ho.1.2
      | grp s => simp only [OD.enc, AO.nm]; exact enc_nms _ _ _
      | mp k e => simp [OD.enc, AO.nm]
    · exact ob_nm l _ ho.2 i o h
theorem ob_dom {R : Type} : ∀ (l : List (Nat × OD)) (x : obTo l R) (i : Nat), domO l i = true → ∃ o, lkO (obEnc l x).1 i = some o
  | [], x, i, h => by simp [domO] at h
  | (i0, d) :: l, x, i, h => by
    simp only [obEnc]
    rw [lkO_cons]
    simp only [domO] at h
    split at h
    · rename_i hb; rw [if_pos (beq_true hb)]; exact ⟨_, rfl⟩
    · rename_i hb; rw [if_neg (beq_false hb)]; exact ob_dom l _ i h
theorem lkO_some {l : List (Nat × Option AO)} {n : Nat} {o : AO} (h : lkO l n = some o) : lkA l n = some (some o) := by
  unfold lkO at h
  split at h
  · rename_i x hx; rw [hx, h]
  · simp at h
theorem keptB_of {rn : List (Nat × Nat)} {i n : Nat} (h : lkA rn i = some n) : keptB n rn = true := by
  induction rn with
  | nil => simp [lkA] at h
  | cons p r ih =>
    obtain ⟨j, m⟩ := p
    simp only [lkA] at h
    simp only [keptB]
    split at h
    · simp only [Option.some.injEq] at h; rw [h, beq_self]
    · split
      · rfl
      · exact ih h
theorem injR_spec {rn : List (Nat × Nat)} (h : injR rn = true) {i j n : Nat} (hi : lkA rn i = some n) (hj : lkA rn j = some n) : i = j := by
  induction rn with
  | nil => simp [lkA] at hi
  | cons p r ih =>
    obtain ⟨k, m⟩ := p
    simp only [injR] at h
    split at h
    · simp at h
    · rename_i hk
      simp only [lkA] at hi hj
      split at hi <;> split at hj
      · rename_i h1 _ h2; rw [beq_true h1, beq_true h2]
      · simp only [Option.some.injEq] at hi
        subst hi
        rw [keptB_of hj] at hk; simp at hk
      · simp only [Option.some.injEq] at hj
        subst hj
        rw [keptB_of hi] at hk; simp at hk
      · exact ih h hi hj
theorem lowR_spec {rn : List (Nat × Nat)} (h : lowR rn = true) {i n : Nat} (hi : lkA rn i = some n) (hl : i < 16) : i = n := by
  induction rn with
  | nil => simp [lkA] at hi
  | cons p r ih =>
    obtain ⟨k, m⟩ := p
    simp only [lowR] at h
    simp only [lkA] at hi
    split at hi
    · rename_i hb
      have := beq_true hb
      subst this
      simp only [Option.some.injEq] at hi
      subst hi
      split at h
      · split at h
        · rename_i hm; exact beq_true hm
        · simp at h
      · rename_i hm
        exact absurd (show Nat.blt i 16 = true from by simpa [Nat.blt] using Nat.ble_eq_true_of_le hl) (by rw [hm]; simp)
    · split at h
      · split at h
        · exact ih h hi
        · simp at h
      · exact ih h hi
theorem lkA_in {α : Type} {l : List (Nat × α)} {n : Nat} {x : α} (h : lkA l n = some x) : (n, x) ∈ l := by
  induction l with
  | nil => simp [lkA] at h
  | cons p r ih =>
    obtain ⟨m, y⟩ := p
    simp only [lkA] at h
    split at h
    · rename_i hb
      simp only [Option.some.injEq] at h
      subst h
      rw [beq_true hb]; simp
    · exact List.mem_cons_of_mem _ (ih h)
theorem convE_own {E : Env} {fz : Option (List Nat)} {rn : List (Nat × Nat)} {dom : Nat → Bool} {i b : Nat} (h : owns (convE E fz rn dom) i b) : ∃ n, lkA rn i = some n ∧ owns E n b := by
  obtain ⟨L, h1, h2, h3⟩ := h
  simp only [convE] at h1
  split at h1
  · split at h1
    · rename_i n hn; exact ⟨n, hn, L, h1, h2, h3⟩
    · simp only [Option.some.injEq] at h1; subst h1; simp at h2
  · simp at h1
theorem convE_env {W0 : WX} {okIn B : Nat → Prop} {E : Env} {fz : Option (List Nat)} {rn : List (Nat × Nat)} {dom : Nat → Bool} (he : EnvOk W0 okIn B E) (hinj : injR rn = true) (hlow : lowR rn = true) (k5 : ∀ i, dom i = true → i < 16 → ∃ n, lkA rn i = some n) :
    EnvOk W0 okIn B (convE E fz rn dom) := by
  refine ⟨?_, ?_, ?_, fun b hb => .inl (he.oki b hb), he.fr, he.sz, he.new, he.os, he.tape, he.output, ?_⟩
  · intro n m b h1 h2
    obtain ⟨n', a1, a2⟩ := convE_own h1
    obtain ⟨m', b1, b2⟩ := convE_own h2
    have := he.inj n' m' b a2 b2
    subst this
    exact injR_spec hinj a1 b1
  · intro n b h1
    obtain ⟨n', a1, a2⟩ := convE_own h1
    obtain ⟨c1, c2, c3⟩ := he.own n' b a2
    refine ⟨c1, c2, ?_⟩
    rintro (hk | ⟨m, hm, hk, _⟩)
    · exact c3 hk
    · rw [he.inj m n' b hm a2, keptB_of a1] at hk; simp at hk
  · rintro b (hb | ⟨n, hn, _, _⟩)
    · exact he.okl b hb
    · obtain ⟨c1, c2, _⟩ := he.own n b hn
      exact ⟨c2, .inr c1⟩
  · intro n L hL hn
    simp only [convE] at hL
    split at hL
    · rename_i hd
      obtain ⟨m, hm⟩ := k5 n hd hn
      rw [hm] at hL
      have := lowR_spec hlow hm hn
      subst this
      exact he.li n L hL hn
    · simp at hL
theorem StD.sound {D : StD} (hwf : D.wf = true) {g : Ga} {q : List Prop} {x : D.T} (h : D.dec g = some (q, x)) (hq : ∀ p ∈ q, p) : SubOK g (D.enc x) := by
  intro W0 okIn B E a hs
  unfold StD.dec at h
  split at h
  case h_2 => simp at h
  rename_i hnt
  rw [frcR_eq] at h
  split at h
  case h_2 => simp at h
  rename_i hinj hlow
  generalize hrn : obUni (lkO g.objs) D.objs (tmUni (lkA g.tmps) D.tmps (idN D.objs)) = rn at h hinj hlow
  simp only [StD.wf, Bool.and_eq_true] at hwf
  obtain ⟨⟨w1, w2⟩, w3⟩ := hwf
  obtain ⟨q0, y0, g1, g2, g3, g4⟩ := tm_sound (fz := none) (dom := domO D.objs) hs.ob (val := fun t => a.tmps.getD t undef) (fun t v hv => (hs.tmp t v hv).1) h hq
  obtain ⟨q1, y1, k1, k2, k3, k4, k5, _⟩ := ob_sound (fz := none) (dom := domO D.objs) hs.ob g1 g2 (fun _ h => h)
  have he := hs.env
  refine ⟨convE E none rn (domO D.objs), rfl, ?_⟩
  have e1 : (D.enc x).tmps = (tmEnc D.tmps x).1 := rfl
  have e2 : (D.enc x).objs = (obEnc D.objs y0).1 := by simp only [StD.enc, g3]
  have e3 : (D.enc x).next = D.next := rfl
  have e4 : (D.enc x).nt = D.nt := rfl
  refine ⟨hs.defers, by rw [e4, ← beq_true hnt]; exact hs.size, ?_, ?_, ?_, ?_, ?_⟩
  · intro t v hv
    rw [e1] at hv
    exact ⟨g4 _ (lkA_in hv), by rw [e3]; exact tm_nm _ x w2 t v hv⟩
  · intro n o ho
    rw [e2] at ho
    have hnm := ob_nm _ y0 w3 n o ho
    exact ⟨k4 n o (lkA_in (lkO_some ho)), by rw [e3]; exact hnm.1, by rw [e3]; exact hnm.2⟩
  · intro n L hL
    rw [e2]
    simp only [convE] at hL
    split at hL
    · rename_i hd; exact ob_dom _ _ n hd
    · simp at hL
  · exact convE_env he hinj hlow fun i hi => k5 i hi rfl
  · intro n hn
    rw [e3]
    have := Nat.le_of_ble_eq_true w1
    omega
end Go.Tr
namespace Go.Tr
open Go
set_option linter.unusedVariables false
set_option linter.unusedSimpArgs false
structure FD where
  par : List (Nat × VD)
  pob : List (Nat × OD)
  res : List (Nat × VD)
  rob : List (Nat × OD)
@[reducible] def FD.In (D : FD) : Type := tmTo D.par (obTo D.pob Unit)
@[reducible] def FD.Out (D : FD) : Type := tmTo D.res (obTo D.rob Unit)
def keysF : Nat → List (Nat × VD) → Bool
  | _, [] => true
  | i, (j, _) :: l => Nat.beq j i && keysF (i + 1) l
def inDom (l : List (Nat × OD)) (d : LD) : Bool :=
  match d with
  | .own n _ => domO l n
  | .ptr n _ => domO l n
  | .epr n _ _ => domO l n
  | .mpr n => domO l n
  | _ => true
def ldsIn (l : List (Nat × OD)) : List LD → Bool
  | [] => true
  | d :: r => inDom l d && ldsIn l r
def VD.inD (l : List (Nat × OD)) : VD → Bool
  | .leaf d => inDom l d
  | .grp _ => true
  | .agg r => ldsIn l r
  | .fn _ x y => ldsIn l x && ldsIn l y
  | .arr _ => true
def tmIn (l : List (Nat × OD)) : List (Nat × VD) → Bool
  | [] => true
  | (_, v) :: r => v.inD l && tmIn l r
def OD.inD (l : List (Nat × OD)) : OD → Bool
  | .cells r => ldsIn l r
  | _ => true
def obIn (l : List (Nat × OD)) : List (Nat × OD) → Bool
  | [] => true
  | (_, o) :: r => o.inD l && obIn l r
def robOk (p : List (Nat × OD)) : List (Nat × OD) → Bool
  | [] => true
  | (i, _) :: r => ((Nat.ble 16 i && Nat.blt i 32) || (Nat.blt i 16 && domO p i)) && !domO r i && robOk p r
def FD.wf (D : FD) : Bool :=
  keysF 0 D.par && keysF 0 D.res && tmOkN 16 D.par && obOkN 16 D.pob && tmIn D.pob D.par && obIn D.pob D.pob && tmIn D.rob D.res && obIn D.rob D.rob && robOk D.pob D.rob
def tmVs {R : Type} (l : List (Nat × VD)) (x : tmTo l R) : List AV := (tmEnc l x).1.map Prod.snd
def FnX (P : Program) [Tabs P] (F : FuncId) (D : FD) (f : D.In → Option D.Out) : Prop :=
  callable P F ∧ ∀ (x : D.In) (y : D.Out), f x = some y → ∀ (W0 : WX) (E : Env) (vs : List Value), E.w = W0.toWorld → Tabs.G P E.w (fun b => b < E.w.heap.size ∧ ∀ n, ¬ owns E n b) →
    (∀ n m b, owns E n b → owns E m b → n = m) → (∀ n b, owns E n b → b < E.w.heap.size ∧ ¬ E.ok b) → (∀ b, E.ok b → b < E.w.heap.size) →
    (∀ n L, E.mu n = some L → W0.m0 n = some L ∧ domO D.pob n = true) → (∀ n o, (n, some o) ∈ (obEnc D.pob (tmEnc D.par x).2).1 → ObjR E n o) → VRL E (tmVs D.par x) vs →
    Calls P F vs.toArray E.w fun e w' => ∃ z E', e = .returned z ∧ E'.w = w' ∧ VR E' (oneA (tmVs D.res y)) z ∧ (∀ n o, (n, some o) ∈ (obEnc D.rob (tmEnc D.res y).2).1 → ObjR E' n o) ∧
      (∀ n L, E'.mu n = some L → domO D.rob n = true) ∧ EnvOk W0 E.ok (fun b => (∃ n, owns E n b) ∨ W0.heap.size ≤ b) E'
noncomputable def retT (P : Program) (rs : List ResultVar) (D : FD) (g : Ga) : Option (List Prop × D.Out) :=
  match resA' P (lkA g.tmps) (lkO g.objs) rs with
  | none => none
  | some (q, l) => match Nat.beq (lenA l) (lenA D.res) with
    | true => match frcR (obUni (lkO g.objs) D.rob (tmUni (nth l) D.res (idN D.rob))) (fun rn => match injR rn, lowR rn with
        | true, true => tmDec none rn (lkO g.objs) (nth l) D.res (obDec true none rn (lkO g.objs) D.rob (some ([], ())))
        | _, _ => none) with
      | some (q', y) => some (appA q q', y)
      | none => none
    | false => none
noncomputable def retD (M : Prims) (P : Program) (rs : List ResultVar) (D : FD) : RetF D.Out := fun X g k =>
  match retT P rs D g with
  | some (q, y) => chks M q (k y)
  | none => none
noncomputable def retD2 (M : Prims) (P : Program) (rs : List ResultVar) (D1 D2 : FD) : RetF (D1.Out ⊕ D2.Out) := fun X g k =>
  match retT P rs D1 g with
  | some (q, y) => chks M q (k (.inl y))
  | none => match retT P rs D2 g with
    | some (q, y) => chks M q (k (.inr y))
    | none => none
theorem chks_pos {X : Type} (l : List Prop) (x : Option X) (hl : ∀ p ∈ l, p) : chks std l x = x := by
  induction l with
  | nil => rfl
  | cons p r ih =>
    show chk p (chks std r x) = x
    rw [chk_pos (hl p (by simp)), ih fun p hp => hl p (by simp [hp])]
theorem retD_nat (P : Program) (rs : List ResultVar) (D : FD) : (retD std P rs D).Nat := by
  refine ⟨fun Y g f y h => ?_⟩
  unfold retD at h ⊢
  split at h
  · rename_i q z hd
    obtain ⟨hq, h⟩ := chks_some h
    exact ⟨z, h, fun X k => by simp only [hd, chks_pos q _ hq]⟩
  · simp at h
theorem retD2_nat (P : Program) (rs : List ResultVar) (D1 D2 : FD) : (retD2 std P rs D1 D2).Nat := by
  refine ⟨fun Y g f y h => ?_⟩
  unfold retD2 at h ⊢
  split at h
  · rename_i q z hd
    obtain ⟨hq, h⟩ := chks_some h
    exact ⟨.inl z, h, fun X k => by simp only [hd, chks_pos q _ hq]⟩
  · rename_i hd
    split at h
    · rename_i q z hd2
      obtain ⟨hq, h⟩ := chks_some h
      exact ⟨.inr z, h, fun X k => by simp only [hd, hd2, chks_pos q _ hq]⟩
    · simp at h
theorem retD2_l {P : Program} {rs : List ResultVar} {D1 D2 : FD} {g : Ga} {y : D1.Out} (h : retD2 std P rs D1 D2 _ g some = some (.inl y)) : retD std P rs D1 D1.Out g some = some y := by
  unfold retD2 at h
  unfold retD
  split at h
  · rename_i q z hd
    obtain ⟨hq, h⟩ := chks_some h
    simp only [Option.some.injEq, Sum.inl.injEq] at h
    subst h
    simp only [hd, chks_pos q _ hq]
  · split at h
    · obtain ⟨hq, h⟩ := chks_some h
      simp at h
    · simp at h
theorem retD2_r {P : Program} {rs : List ResultVar} {D1 D2 : FD} {g : Ga} {y : D2.Out} (h : retD2 std P rs D1 D2 _ g some = some (.inr y)) : retD std P rs D2 D2.Out g some = some y := by
  unfold retD2 at h
  unfold retD
  split at h
  · obtain ⟨hq, h⟩ := chks_some h
    simp at h
  · split at h
    · rename_i q z hd
      obtain ⟨hq, h⟩ := chks_some h
      simp only [Option.some.injEq, Sum.inr.injEq] at h
      subst h
      simp only [hd, chks_pos q _ hq]
    · simp at h
noncomputable def fnE (M : Prims) (P : Program) (CO : Bool → CtxO) (LS : List (Nat × LoopD)) (D : FD) (fn : Func) (c : Code) (x : D.In) : Option D.Out :=
  match tmEnc D.par x with
  | (tm, y) => match obEnc D.pob y with
    | (ob, _) => Ga.frc ⟨tm, ob, 16, fn.ntmps⟩ fun g => evO M P CO LS (retD M P fn.results.toList D) c D.Out (fun r => r) g fun e g' => match e with
      | .normal => retD M P fn.results.toList D D.Out g' some
      | _ => none
structure FD2 where
  par : List (Nat × VD)
  pob : List (Nat × OD)
  res1 : List (Nat × VD)
  rob1 : List (Nat × OD)
  res2 : List (Nat × VD)
  rob2 : List (Nat × OD)
@[reducible] def FD2.one (D : FD2) : FD := ⟨D.par, D.pob, D.res1, D.rob1⟩
@[reducible] def FD2.two (D : FD2) : FD := ⟨D.par, D.pob, D.res2, D.rob2⟩
@[reducible] def FD2.In (D : FD2) : Type := tmTo D.par (obTo D.pob Unit)
@[reducible] def FD2.Out (D : FD2) : Type := D.one.Out ⊕ D.two.Out
def FD2.wf (D : FD2) : Bool := D.one.wf && D.two.wf
def lftO {A B : Type} (x : Option (A ⊕ B)) : Option A :=
  match x with
  | some (.inl a) => some a
  | _ => none
def rgtO {A B : Type} (x : Option (A ⊕ B)) : Option B :=
  match x with
  | some (.inr b) => some b
  | _ => none
theorem lftO_some {A B : Type} {x : Option (A ⊕ B)} {a : A} (h : lftO x = some a) : x = some (.inl a) := by
  unfold lftO at h
  split at h
  · simp only [Option.some.injEq] at h; rw [h]
  · simp at h
theorem rgtO_some {A B : Type} {x : Option (A ⊕ B)} {b : B} (h : rgtO x = some b) : x = some (.inr b) := by
  unfold rgtO at h
  split at h
  · simp only [Option.some.injEq] at h; rw [h]
  · simp at h
def FnX2 (P : Program) [Tabs P] (F : FuncId) (D : FD2) (f : D.In → Option D.Out) : Prop :=
  FnX P F D.one (fun x => lftO (f x)) ∧ FnX P F D.two (fun x => rgtO (f x))
noncomputable def fnE2 (M : Prims) (P : Program) (CO : Bool → CtxO) (LS : List (Nat × LoopD)) (D : FD2) (fn : Func) (c : Code) (x : D.In) : Option D.Out :=
  match tmEnc D.par x with
  | (tm, y) => match obEnc D.pob y with
    | (ob, _) => Ga.frc ⟨tm, ob, 16, fn.ntmps⟩ fun g => evO M P CO LS (retD2 M P fn.results.toList D.one D.two) c D.Out (fun r => r) g fun e g' => match e with
      | .normal => retD2 M P fn.results.toList D.one D.two D.Out g' some
      | _ => none
theorem tmEnc_keys {R : Type} : ∀ {l : List (Nat × VD)} {i : Nat} {x : tmTo l R}, keysF i l = true → ∀ {t : Nat} {v : AV}, (t, v) ∈ (tmEnc l x).1 → i ≤ t ∧ (tmVs l x)[t - i]? = some v
  | [], i, x, _, t, v, h => by simp [tmEnc] at h
  | (j, d) :: l, i, x, hk, t, v, h => by
    simp only [keysF, Bool.and_eq_true] at hk
    have hj := beq_true hk.1
    subst hj
    simp only [tmEnc] at h
    rcases List.mem_cons.1 h with h | h
    · simp only [Prod.mk.injEq] at h
      obtain ⟨rfl, rfl⟩ := h
      exact ⟨Nat.le_refl _, by simp [tmVs, tmEnc]⟩
    · obtain ⟨h1, h2⟩ := tmEnc_keys hk.2 h
      refine ⟨by omega, ?_⟩
      rw [show t - j = (t - (j + 1)) + 1 by omega]
      simpa [tmVs, tmEnc] using h2
theorem tmVs_len {R : Type} : ∀ (l : List (Nat × VD)) (x : tmTo l R), (tmVs l x).length = l.length
  | [], x => rfl
  | (j, d) :: l, x => by
    have := tmVs_len l (d.enc x).2
    simp only [tmVs, tmEnc, List.map_cons, List.length_cons, List.length_map] at this ⊢
    omega
theorem VRL.get {E : Env} : ∀ {l : List AV} {vs : List Value}, VRL E l vs → ∀ {i : Nat} {v : AV}, l[i]? = some v → ∃ z, vs[i]? = some z ∧ VR E v z := by
  intro l vs h i v hi
  exact VRL.nth h hi
theorem VRL.of_get {E : Env} : ∀ {l : List AV} {vs : List Value}, l.length = vs.length → (∀ (i : Nat) (v : AV), l[i]? = some v → ∃ z, vs[i]? = some z ∧ VR E v z) → VRL E l vs
  | [], [], _, _ => by simp [VRL]
  | [], _ :: _, h, _ => by simp at h
  | _ :: _, [], h, _ => by simp at h
  | a :: l, z :: vs, hl, h => by
    simp only [VRL]
    refine ⟨z, vs, rfl, ?_, VRL.of_get (by simpa using hl) fun i v hi => ?_⟩
    · obtain ⟨y, h1, h2⟩ := h 0 a rfl
      simp only [List.getElem?_cons_zero, Option.some.injEq] at h1
      subst h1; exact h2
    · obtain ⟨y, h1, h2⟩ := h (i + 1) v (by simpa using hi)
      exact ⟨y, by simpa using h1, h2⟩
theorem oneA_conv {E E' : Env} {l l' : List AV} {z : Value} (hl : l.length = l'.length) (h : VR E (oneA l) z) (hc : ∀ vs, VRL E l vs → VRL E' l' vs) : VR E' (oneA l') z := by
  have key : ∀ {m m' : List AV}, m.length = m'.length → m.length ≠ 1 → VR E (.tup m) z → (∀ vs, VRL E m vs → VRL E' m' vs) → VR E' (.tup m') z := by
    intro m m' _ _ h hc
    simp only [VR] at h ⊢
    obtain ⟨vs, rfl, hv⟩ := h
    exact ⟨vs, rfl, hc vs hv⟩
  match l, l', hl with
  | [], [], hl => exact key hl (by simp) h hc
  | [a], [b], hl =>
    have := hc [z] (by simp only [VRL]; exact ⟨z, [], rfl, h, rfl⟩)
    simp only [VRL] at this
    obtain ⟨v, r, hv, h1, _⟩ := this
    simp only [List.cons.injEq] at hv
    rw [hv.1]; exact h1
  | a :: b :: l, c :: d :: l', hl => exact key hl (by simp) h hc
theorem FnX.core {P : Program} [Tabs P] {CO : Bool → CtxO} (hC : CtxsOK P fun b => ctxOf (CO b)) (hmix : P.follows .mixedOrders = true) {LS : List (Nat × LoopD)} (hL : ∀ n D, (n, D) ∈ LS → D.OK) {F : FuncId} {fn : Func} {c : Code} {D : FD} (hwf : D.wf = true)
    (hf : P.funcs[F]? = some fn) (hb : fn.body = some c) (hle : D.par.length ≤ fn.ntmps) {R : Type} {ret : RetF R} (hnat : ret.Nat) {x : D.In} {y : D.Out} {r : R} (hret : ∀ g', ret R g' some = some r → retD std P fn.results.toList D D.Out g' some = some y)
    (hxy' : Ga.frc ⟨(tmEnc D.par x).1, (obEnc D.pob (tmEnc D.par x).2).1, 16, fn.ntmps⟩ (fun g => evO std P CO LS ret c R (fun r => r) g fun e g' => match e with
      | .normal => ret R g' some
      | _ => none) = some r) (W0 : WX) (E : Env) (vs : List Value) (hw : E.w = W0.toWorld) (hG : Tabs.G P E.w (fun b => b < E.w.heap.size ∧ ∀ n, ¬ owns E n b))
    (hinj : ∀ n m b, owns E n b → owns E m b → n = m) (hown : ∀ n b, owns E n b → b < E.w.heap.size ∧ ¬ E.ok b) (hok : ∀ b, E.ok b → b < E.w.heap.size)
    (hmu : ∀ n L, E.mu n = some L → W0.m0 n = some L ∧ domO D.pob n = true) (hobj : ∀ n o, (n, some o) ∈ (obEnc D.pob (tmEnc D.par x).2).1 → ObjR E n o) (hvs : VRL E (tmVs D.par x) vs) :
    Calls P F vs.toArray E.w fun e w' => ∃ z E', e = .returned z ∧ E'.w = w' ∧ VR E' (oneA (tmVs D.res y)) z ∧ (∀ n o, (n, some o) ∈ (obEnc D.rob (tmEnc D.res y).2).1 → ObjR E' n o) ∧
      (∀ n L, E'.mu n = some L → domO D.rob n = true) ∧ EnvOk W0 E.ok (fun b => (∃ n, owns E n b) ∨ W0.heap.size ≤ b) E' := by
  simp only [FD.wf, Bool.and_eq_true] at hwf
  obtain ⟨⟨⟨⟨⟨⟨⟨⟨w1, w2⟩, w3⟩, w4⟩, w5⟩, w6⟩, w7⟩, w8⟩, w9⟩ := hwf
  have hlen : vs.length = D.par.length := by rw [hvs.length, tmVs_len]
  obtain ⟨g0, hg0, hsub0⟩ := frc_sub ⟨(tmEnc D.par x).1, (obEnc D.pob (tmEnc D.par x).2).1, 16, fn.ntmps⟩ (fun g => evO std P CO LS ret c R (fun r => r) g fun e g' => match e with
      | .normal => ret R g' some
      | _ => none)
  rw [hg0] at hxy'
  have hs : SimG W0 E.ok (fun b => (∃ n, owns E n b) ∨ W0.heap.size ≤ b) ⟨(tmEnc D.par x).1, (obEnc D.pob (tmEnc D.par x).2).1, 16, fn.ntmps⟩ E { tmps := vs.toArray ++ Array.replicate (fn.ntmps - vs.toArray.size) undef, defers := [] } := by
    refine ⟨rfl, by simp; omega, fun t v ht => ?_, fun n o ho => ?_, fun n L hL => ?_, ?_, fun n hn => hn⟩
    · obtain ⟨_, h2⟩ := tmEnc_keys w1 (lkA_in ht)
      obtain ⟨z, h3, h4⟩ := hvs.get h2
      rw [Nat.sub_zero] at h3
      have hlt : t < vs.length := by
        rcases Nat.lt_or_ge t vs.length with hlt | hge
        · exact hlt
        · rw [List.getElem?_eq_none hge] at h3; simp at h3
      refine ⟨?_, tm_nm _ x w3 t v ht⟩
      have : (vs.toArray ++ Array.replicate (fn.ntmps - vs.toArray.size) undef).getD t undef = z := by
        rw [Array.getD_eq_getD_getElem?, Array.getElem?_append_left (by simpa using hlt)]
        simp [h3]
      rw [this]; exact h4
    · have hnm := ob_nm _ (tmEnc D.par x).2 w4 n o ho
      exact ⟨hobj n o (lkA_in (lkO_some ho)), hnm.1, hnm.2⟩
    · exact ob_dom _ _ n (hmu n L hL).2
    · refine ⟨hinj, fun n b hn => ⟨.inl ⟨n, hn⟩, hown n b hn⟩, fun b hb => ⟨hok b hb, .inl hb⟩, fun b hb => hb, fun _ _ _ => by rw [hw], by rw [hw]; exact Nat.le_refl _, fun b hb => .inr hb, by rw [hw], by rw [hw], by rw [hw], fun n L hL _ => ⟨L, (hmu n L hL).1, rfl, rfl, rfl⟩⟩
  have key : ∀ {g' : Ga} {E' : Env} {a' : Act}, retD std P fn.results.toList D D.Out g' some = some y → SimG W0 E.ok (fun b => (∃ n, owns E n b) ∨ W0.heap.size ≤ b) g' E' a' →
      a'.defers = [] ∧ ∃ z, (results fn a'.tmps).run P E'.w = .ok z E'.w ∧ ∃ z' E'', Ending.returned z = .returned z' ∧ E''.w = E'.w ∧ VR E'' (oneA (tmVs D.res y)) z' ∧ (∀ n o, (n, some o) ∈ (obEnc D.rob (tmEnc D.res y).2).1 → ObjR E'' n o) ∧
      (∀ n L, E''.mu n = some L → domO D.rob n = true) ∧ EnvOk W0 E.ok (fun b => (∃ n, owns E n b) ∨ W0.heap.size ≤ b) E'' := by
    intro g' E' a' hr hs'
    unfold retD at hr
    split at hr
    case h_2 => simp at hr
    rename_i q0 y0 ht
    obtain ⟨hq0, hr⟩ := chks_some hr
    simp only [Option.some.injEq] at hr
    subst hr
    unfold retT at ht
    split at ht
    · simp at ht
    rename_i q l hres
    split at ht
    case h_2 => simp at ht
    rename_i hll
    split at ht
    case h_2 => simp at ht
    rename_i q' y' hd
    simp only [Option.some.injEq, Prod.mk.injEq] at ht
    obtain ⟨rfl, rfl⟩ := ht
    have hq : ∀ p ∈ q, p := fun p hp => hq0 p (mem_appA.2 (.inl hp))
    have hq' : ∀ p ∈ q', p := fun p hp => hq0 p (mem_appA.2 (.inr hp))
    rw [frcR_eq] at hd
    split at hd
    case h_2 => simp at hd
    rename_i hin hlow
    generalize obUni (lkO g'.objs) D.rob (tmUni (nth l) D.res (idN D.rob)) = rn at hd hin hlow
    obtain ⟨z, hz1, hz2⟩ := results_run hs' hres hq
    have hlen2 : l.length = D.res.length := by have := beq_true hll; rwa [lenA_eq, lenA_eq] at this
    have conv : ∀ vs, VRL E' l vs → VRL (convE E' none rn (domO D.rob)) (tmVs D.res y') vs ∧ (∀ n o, (n, some o) ∈ (obEnc D.rob (tmEnc D.res y').2).1 → ObjR (convE E' none rn (domO D.rob)) n o) ∧ (∀ i, domO D.rob i = true → i < 16 → ∃ n, lkA rn i = some n) := by
      intro vs hv
      obtain ⟨q0, y0, g1, g2, g3, g4⟩ := tm_sound (fz := none) (dom := domO D.rob) hs'.ob (val := fun t => vs.getD t undef) (fun t v ht => by
        rw [nth_eq] at ht
        obtain ⟨u, h1, h2⟩ := hv.get ht
        simp only [List.getD_eq_getElem?_getD, h1, Option.getD_some]
        exact h2) hd hq'
      obtain ⟨q1, y1, k1, k2, k3, k4, k5, _⟩ := ob_sound (fz := none) (dom := domO D.rob) hs'.ob g1 g2 (fun _ h => h)
      refine ⟨VRL.of_get (by rw [tmVs_len, hv.length, hlen2]) fun i v hi => ?_, by rw [g3]; exact k4, fun i hi hlt => k5 i hi rfl hlt⟩
      have hlt : i < vs.length := by
        rcases Nat.lt_or_ge i (tmVs D.res y').length with hh | hh
        · rw [tmVs_len] at hh; rw [hv.length]; omega
        · rw [List.getElem?_eq_none hh] at hi; simp at hi
      refine ⟨vs[i], by simp [hlt], ?_⟩
      simp only [tmVs, List.getElem?_map, Option.map_eq_some_iff] at hi
      obtain ⟨⟨t, v'⟩, hm, rfl⟩ := hi
      have hmem := List.mem_of_getElem? hm
      have hv1 := g4 _ hmem
      obtain ⟨_, ht2⟩ := tmEnc_keys w2 hmem
      have hti : t = i := by
        have hkey : ∀ {l : List (Nat × VD)} {R : Type} {x : tmTo l R} {j i : Nat} {p : Nat × AV}, keysF j l = true → (tmEnc l x).1[i]? = some p → p.1 = j + i := by
          intro l
          induction l with
          | nil => intro R x j i p _ hp; simp [tmEnc] at hp
          | cons a l ih =>
            obtain ⟨k, d⟩ := a
            intro R x j i p hk hp
            simp only [keysF, Bool.and_eq_true] at hk
            simp only [tmEnc] at hp
            cases i with
            | zero => simp only [List.getElem?_cons_zero, Option.some.injEq] at hp; subst hp; exact beq_true hk.1
            | succ i => simp only [List.getElem?_cons_succ] at hp; have := ih hk.2 hp; omega
        have := hkey w2 hm
        simpa using this
      subst hti
      simpa [hlt] using hv1
    refine ⟨hs'.defers, z, hz1, z, convE E' none rn (domO D.rob), rfl, rfl, ?_, ?_, ?_, ?_⟩
    · exact oneA_conv (by rw [tmVs_len, hlen2]) hz2 fun vs hv => (conv vs hv).1
    · obtain ⟨vs0, hvs0, hv0⟩ := resA'_sound hs' hres hq
      exact (conv vs0 hv0).2.1
    · intro n L hL
      simp only [convE] at hL
      split at hL
      · assumption
      · simp at hL
    · obtain ⟨vs0, hvs0, hv0⟩ := resA'_sound hs' hres hq
      exact convE_env hs'.env hin hlow (conv vs0 hv0).2.2
  have hT : TabIn P W0 (fun b => (∃ n, owns E n b) ∨ W0.heap.size ≤ b) := by
    refine Tabs.mono _ _ _ _ (fun b hb => ⟨⟨by rw [← hw]; exact hb.1, ?_⟩, by rw [hw]⟩) hG
    rintro (⟨n, hn⟩ | h)
    · exact hb.2 n hn
    · rw [← hw] at h; have := hb.1; omega
  refine calls_of_wp hf hb ?_
  refine wp_mono (Trip.sub hsub0 (ev_sound hC hmix c _ _ (evO_ev hC hmix hL hnat c _ _ _ _ r hxy')) W0 E.ok _ E _ hT hs) fun e a' w' hq => ?_
  obtain ⟨g', E', h1, rfl, h3⟩ := hq
  cases e with
  | normal => exact key (hret _ h1) h3
  | ret => exact key (hret _ h1) h3
  | exit id => simp [outK] at h1
  | goto l => simp [outK] at h1
  | panic ch => simp [outK] at h1
  | outgrown => simp [outK] at h1
theorem FnX.of {P : Program} [Tabs P] {CO : Bool → CtxO} (hC : CtxsOK P fun b => ctxOf (CO b)) (hmix : P.follows .mixedOrders = true) {LS : List (Nat × LoopD)} (hL : ∀ n D, (n, D) ∈ LS → D.OK) {F : FuncId} {fn : Func} {c : Code} {D : FD} (hwf : D.wf = true) {f : D.In → Option D.Out}
    (hf : P.funcs[F]? = some fn) (hb : fn.body = some c) (hname : (fn.name == "runtime.NumGoroutine") = false) (hle : D.par.length ≤ fn.ntmps) (h : ∀ x, fnE std P CO LS D fn c x = f x) : FnX P F D f := by
  refine ⟨⟨fn, hf, hname, by rw [hb]; rfl⟩, fun x y hxy W0 E vs hw hG hinj hown hok hmu hobj hvs => ?_⟩
  rw [← h x] at hxy
  exact FnX.core hC hmix hL hwf hf hb hle (retD_nat P _ D) (fun _ h => h) hxy W0 E vs hw hG hinj hown hok hmu hobj hvs
theorem FnX2.of {P : Program} [Tabs P] {CO : Bool → CtxO} (hC : CtxsOK P fun b => ctxOf (CO b)) (hmix : P.follows .mixedOrders = true) {LS : List (Nat × LoopD)} (hL : ∀ n D, (n, D) ∈ LS → D.OK) {F : FuncId} {fn : Func} {c : Code} {D : FD2} (hwf : D.wf = true) {f : D.In → Option D.Out}
    (hf : P.funcs[F]? = some fn) (hb : fn.body = some c) (hname : (fn.name == "runtime.NumGoroutine") = false) (hle : D.par.length ≤ fn.ntmps) (h : ∀ x, fnE2 std P CO LS D fn c x = f x) : FnX2 P F D f := by
  simp only [FD2.wf, Bool.and_eq_true] at hwf
  refine ⟨⟨⟨fn, hf, hname, by rw [hb]; rfl⟩, fun x y hxy W0 E vs hw hG hinj hown hok hmu hobj hvs => ?_⟩, ⟨⟨fn, hf, hname, by rw [hb]; rfl⟩, fun x y hxy W0 E vs hw hG hinj hown hok hmu hobj hvs => ?_⟩⟩
  · have hxy := lftO_some hxy
    rw [← h x] at hxy
    exact FnX.core hC hmix hL hwf.1 hf hb hle (retD2_nat P _ D.one D.two) (fun _ h => retD2_l h) hxy W0 E vs hw hG hinj hown hok hmu hobj hvs
  · have hxy := rgtO_some hxy
    rw [← h x] at hxy
    exact FnX.core (D := D.two) hC hmix hL hwf.2 hf hb hle (retD2_nat P _ D.one D.two) (fun _ h => retD2_r h) hxy W0 E vs hw hG hinj hown hok hmu hobj hvs
end Go.Tr
namespace Go.Tr
open Go
set_option linter.unusedVariables false
set_option linter.unusedSimpArgs false
universe u
structure Ent where
  F : FuncId
  D : FD
  f : D.In → Option D.Out
  dflt : D.Out
  fz : Bool
def Sh.noref : Sh → Bool
  | .int _ => true
  | .bool => true
  | .str => true
  | .unit => true
  | .sl _ => false
  | .arr _ e => e.noref
  | .pair a b => a.noref && b.noref
  | .err => false
def LD.noref : LD → Bool
  | .sl _ => false
  | .fpt _ _ => false
  | .err => false
  | _ => true
def ldsNoref : List LD → Bool
  | [] => true
  | d :: l => d.noref && ldsNoref l
def VD.noref : VD → Bool
  | .leaf d => d.noref
  | .grp s => s.noref
  | .agg l => ldsNoref l
  | .fn _ x y => ldsNoref x && ldsNoref y
  | .arr s => s.noref
def tmNoref : List (Nat × VD) → Bool
  | [] => true
  | (_, v) :: l => v.noref && tmNoref l
def OD.noref : OD → Bool
  | .rows e => e.noref
  | .cells l => ldsNoref l
  | .grp s => s.noref
  | .mp _ e => e.noref
def obNoref : List (Nat × OD) → Bool
  | [] => true
  | (_, o) :: l => o.noref && obNoref l
theorem LRs.free {w w' : World} {ok ok' : Nat → Prop} : ∀ (s : Sh), s.noref = true → ∀ (x : s.T) (vs : List Value), LRs w ok s x vs → LRs w' ok' s x vs := by
  intro s
  induction s with
  | int k => intro _ x vs h; exact h
  | bool => intro _ x vs h; exact h
  | str => intro _ x vs h; exact h
  | unit => intro _ x vs h; exact h
  | sl e ih => intro hn; simp [Sh.noref] at hn
  | arr n e ih =>
    intro hn x vs h
    simp only [LRs] at h ⊢
    exact ⟨h.1, h.2.1, fun i hi => ih hn _ _ (h.2.2 i hi)⟩
  | pair a b iha ihb =>
    intro hn x vs h
    simp only [Sh.noref, Bool.and_eq_true] at hn
    simp only [LRs] at h ⊢
    obtain ⟨v1, v2, h1, h2, h3⟩ := h
    exact ⟨v1, v2, h1, iha hn.1 _ _ h2, ihb hn.2 _ _ h3⟩
  | err => intro hn; simp [Sh.noref] at hn
theorem MpR.free {w w' : World} {ok ok' : Nat → Prop} {k : IntKind} {e : Sh} (hn : e.noref = true) : ∀ {l : List (Int × e.T)} {ms : List MapEntry}, MpR w ok k e l ms → MpR w' ok' k e l ms
  | [], ms, h => h
  | p :: l, ms, h => by
    obtain ⟨m, r, h1, h2, h3, h4⟩ := h
    exact ⟨m, r, h1, h2, LRs.free e hn _ _ h3, MpR.free hn h4⟩
def re1 (f : Nat → Nat) (v : AV) : AV :=
  match v with
  | .own n e => .own (f n) e
  | .ptr n off => .ptr (f n) off
  | .epr n e i off => .epr (f n) e i off
  | .mpr n => .mpr (f n)
  | v => v
def mapA {α β : Type} (f : α → β) : List α → List β
  | [] => []
  | a :: l => f a :: mapA f l
def re2 (f : Nat → Nat) (v : AV) : AV :=
  match v with
  | .agg l => .agg (mapA (re1 f) l)
  | .fn F x y => .fn F (mapA (re1 f) x) (mapA (re1 f) y)
  | v => re1 f v
def AO.re (f : Nat → Nat) (o : AO) : AO :=
  match o with
  | .cells l => .cells (mapA (re1 f) l)
  | o => o
theorem mapA_eq {α β : Type} (f : α → β) : ∀ l : List α, mapA f l = l.map f
  | [] => rfl
  | a :: l => by simp [mapA, mapA_eq f l]
def reF (nr rn : List (Nat × Nat)) (nm i : Nat) : Nat :=
  match lkA nr i with
  | some n => n
  | none => match lkA rn i with
    | some n => n
    | none => nm
def obR (full : Bool) (args : List AV) (ob : Nat → Option AO) : Nat → Option AO :=
  match full with
  | true => ob
  | false => fun n => match AV.hass n args with
    | true => ob n
    | false => none
theorem obR_some {full : Bool} {args : List AV} {ob : Nat → Option AO} {n : Nat} {o : AO} (h : obR full args ob n = some o) : ob n = some o := by
  cases full with
  | true => exact h
  | false =>
    simp only [obR] at h
    split at h
    · exact h
    · simp at h
theorem obR_has {full : Bool} {args : List AV} {ob : Nat → Option AO} {n : Nat} (h : AV.hass n args = true) : obR full args ob n = ob n := by
  cases full with
  | true => rfl
  | false => simp only [obR, h]
def lfNames (v : AV) : List Nat :=
  match v with
  | .own n _ => [n]
  | .rsl n _ _ _ => [n]
  | .csl n _ _ => [n]
  | .ptr n _ => [n]
  | .wsl n _ _ _ _ _ _ _ => [n]
  | _ => []
def lfsNames : List AV → List Nat
  | [] => []
  | v :: l => appA (lfNames v) (lfsNames l)
def avNames (v : AV) : List Nat :=
  match v with
  | .agg l => lfsNames l
  | .fn _ x y => appA (lfsNames x) (lfsNames y)
  | v => lfNames v
def argNames : List AV → List Nat
  | [] => []
  | v :: l => appA (avNames v) (argNames l)
def keysIn (p : List (Nat × OD)) : List (Nat × Nat) → Bool
  | [] => true
  | (i, _) :: r => domO p i && keysIn p r
def nwL (rn : List (Nat × Nat)) : List (Nat × OD) → List Nat
  | [] => []
  | (i, _) :: r => match lkA rn i with
    | some _ => nwL rn r
    | none => i :: nwL rn r
def newR : List Nat → Nat → List (Nat × Nat)
  | [], _ => []
  | i :: r, nm => (i, nm) :: newR r (nm + 1)
def updRob (f : Nat → Nat) : Upd → Upd
  | [] => []
  | (i, o) :: r => (f i, match o with
    | some o => some (o.re f)
    | none => none) :: updRob f r
def updDrop (rn : List (Nat × Nat)) (rob : List (Nat × OD)) : List (Nat × OD) → Upd
  | [] => []
  | (i, _) :: r => match domO rob i with
    | true => updDrop rn rob r
    | false => match lkA rn i with
      | some n => (n, none) :: updDrop rn rob r
      | none => updDrop rn rob r
def updFz (rn : List (Nat × Nat)) (ob : Nat → Option AO) : List Nat → Upd
  | [] => []
  | n :: r => match keptB n rn with
    | true => updFz rn ob r
    | false => match ob n with
      | some (.rows e xs) => (n, some (.frz e xs)) :: updFz rn ob r
      | some (.cells l) => (n, some (.fcl l)) :: updFz rn ob r
      | _ => updFz rn ob r
def argF (ob : Nat → Option AO) : List Nat → List Nat
  | [] => []
  | n :: r => match ob n with
    | some (.mp _ _ _) => argF ob r
    | _ => n :: argF ob r
def fzL (b : Bool) (ob : Nat → Option AO) (args : List AV) : Option (List Nat) :=
  match b with
  | true => some (argF ob (argNames args))
  | false => none
def isMp (o : Option AO) : Bool :=
  match o with
  | some (.mp _ _ _) => true
  | _ => false
theorem argF_iff {ob : Nat → Option AO} {n : Nat} : ∀ {l : List Nat}, memN n (argF ob l) = (memN n l && !isMp (ob n))
  | [] => by simp [argF, memN]
  | m :: l => by
    simp only [argF, memN]
    cases hb : Nat.beq n m with
    | true =>
      have := beq_true hb
      subst this
      split
      · rename_i ho; rw [argF_iff]; simp [isMp, ho]
      · rename_i ho
        simp only [memN, hb, Bool.true_and]
        cases h2 : ob n with
        | none => rfl
        | some o => cases o <;> first | rfl | exact (ho _ _ _ h2).elim
    | false =>
      split
      · exact argF_iff
      · simp only [memN, hb]; exact argF_iff
noncomputable def coE (M : Prims) (full : Bool) (e : Ent) (args : List AV) (ob : Nat → Option AO) (nm : Nat) : Option CallR :=
  match Nat.beq (lenA args) (lenA e.D.par) with
  | false => none
  | true => frcR (obUni (obR full args ob) e.D.pob (tmUni (nth args) e.D.par [])) fun rn => frcR (newR (nwL rn e.D.rob) nm) fun nr => match injR rn, keysIn e.D.pob rn, Nat.ble (lenA (nwL rn e.D.rob)) 16 with
    | true, true, true => match tmDec (fzL e.fz (obR full args ob) args) rn (obR full args ob) (nth args) e.D.par (obDec false (fzL e.fz (obR full args ob) args) rn (obR full args ob) e.D.pob (some ([], ()))) with
      | some (q, x) => some ⟨e.D.Out, chks M q (e.f x), e.dflt,
          fun y => oneA (mapA (re2 (reF nr rn nm)) (tmVs e.D.res y)),
          fun y => appA (updRob (reF nr rn nm) (obEnc e.D.rob (tmEnc e.D.res y).2).1) (appA (updDrop rn e.D.rob e.D.pob) (match e.fz with
            | true => updFz rn (obR full args ob) (argNames args)
            | false => [])), fun _ _ y k => k y, fun _ _ _ => rfl⟩
      | none => none
    | _, _, _ => none
def Ent.st (e : Ent) : Bool := e.D.wf && (e.fz || (tmNoref e.D.res && obNoref e.D.rob))
structure Ent.OK (P : Program) [Tabs P] (e : Ent) : Prop where
  fn : FnX P e.F e.D e.f
  st : e.st = true
structure Ent2 where
  F : FuncId
  D : FD2
  f : D.In → Option D.Out
  dflt1 : D.one.Out
  dflt2 : D.two.Out
  fz : Bool
@[reducible] noncomputable def Ent2.one (e : Ent2) : Ent := ⟨e.F, e.D.one, fun x => lftO (e.f x), e.dflt1, e.fz⟩
@[reducible] noncomputable def Ent2.two (e : Ent2) : Ent := ⟨e.F, e.D.two, fun x => rgtO (e.f x), e.dflt2, e.fz⟩
structure Ent2.OK (P : Program) [Tabs P] (e : Ent2) : Prop where
  fn : FnX2 P e.F e.D e.f
  st : (e.one.st && e.two.st) = true
structure Pre (D : FD) where
  q : List Prop
  x : D.In
  res : D.Out → AV
  upd : D.Out → Upd
noncomputable def preE (full : Bool) (D : FD) (fz : Bool) (args : List AV) (ob : Nat → Option AO) (nm : Nat) : Option (Pre D) :=
  match Nat.beq (lenA args) (lenA D.par) with
  | false => none
  | true => frcR (obUni (obR full args ob) D.pob (tmUni (nth args) D.par [])) fun rn => frcR (newR (nwL rn D.rob) nm) fun nr => match injR rn, keysIn D.pob rn, Nat.ble (lenA (nwL rn D.rob)) 16 with
    | true, true, true => match tmDec (fzL fz (obR full args ob) args) rn (obR full args ob) (nth args) D.par (obDec false (fzL fz (obR full args ob) args) rn (obR full args ob) D.pob (some ([], ()))) with
      | some (q, x) => some ⟨q, x, fun y => oneA (mapA (re2 (reF nr rn nm)) (tmVs D.res y)),
          fun y => appA (updRob (reF nr rn nm) (obEnc D.rob (tmEnc D.res y).2).1) (appA (updDrop rn D.rob D.pob) (match fz with
            | true => updFz rn (obR full args ob) (argNames args)
            | false => []))⟩
      | none => none
    | _, _, _ => none
def sumF {A B C : Type} (f : A → C) (h : B → C) (s : A ⊕ B) : C :=
  match s with
  | .inl a => f a
  | .inr b => h b
noncomputable def coE2 (M : Prims) (full : Bool) (e : Ent2) (args : List AV) (ob : Nat → Option AO) (nm : Nat) : Option CallR :=
  match preE full e.D.one e.fz args ob nm with
  | none => none
  | some p => match preE full e.D.two e.fz args ob nm with
    | none => none
    | some p' => some ⟨e.D.Out, chks M p.q (e.f p.x), .inl e.dflt1, sumF p.res p'.res, sumF p.upd p'.upd,
        fun _ M y k => M.sum y (fun a => k (.inl a)) (fun b => k (.inr b)), fun _ y k => by cases y <;> rfl⟩
structure EntH where
  F : FuncId
  co : List AV → (Nat → Option AO) → Nat → Option (List Prop × AV × Upd)
structure EntH.OK (P : Program) [Tabs P] (e : EntH) : Prop where
  ok : ∀ args ob nm q v u, e.co args ob nm = some (q, v, u) → (∀ p ∈ q, p) → CallOK P e.F args ob nm v u
  cong : ∀ args ob ob' nm, (∀ n, AV.hass n args = true → ob n = ob' n) → e.co args ob nm = e.co args ob' nm
noncomputable def coH (M : Prims) (e : EntH) (args : List AV) (ob : Nat → Option AO) (nm : Nat) : Option CallR :=
  match e.co args ob nm with
  | none => none
  | some (q, v, u) => some ⟨Unit, chks M q (some ()), (), fun _ => v, fun _ => u, fun _ _ y k => k y, fun _ _ _ => rfl⟩
inductive EntX where
  | one (e : Ent) | two (e : Ent2) | hand (e : EntH)
def EntX.F (e : EntX) : FuncId :=
  match e with
  | .one e => e.F
  | .two e => e.F
  | .hand e => e.F
def EntX.OK (P : Program) [Tabs P] (e : EntX) : Prop :=
  match e with
  | .one e => e.OK P
  | .two e => e.OK P
  | .hand e => e.OK P
noncomputable def coX1 (M : Prims) (full : Bool) (e : EntX) (args : List AV) (ob : Nat → Option AO) (nm : Nat) : Option CallR :=
  match e with
  | .one e => coE M full e args ob nm
  | .two e => coE2 M full e args ob nm
  | .hand e => coH M e args ob nm
noncomputable def coL (M : Prims) (es : List EntX) : Bool → CtxO := fun draw F args ob nm => go M (!draw) F args ob nm es
 where
  go (M : Prims) (full : Bool) (F : FuncId) (args : List AV) (ob : Nat → Option AO) (nm : Nat) : List EntX → Option CallR
    | [] => none
    | e :: r => match Nat.beq F e.F with
      | true => match coX1 M full e args ob nm with
        | some R => some R
        | none => go M full F args ob nm r
      | false => go M full F args ob nm r
theorem obR_cong {args : List AV} {ob ob' : Nat → Option AO} (h : ∀ n, AV.hass n args = true → ob n = ob' n) : obR false args ob = obR false args ob' := by
  funext n
  show (match AV.hass n args with | true => ob n | false => none) = (match AV.hass n args with | true => ob' n | false => none)
  cases hh : AV.hass n args with
  | true => exact h n hh
  | false => rfl
theorem coE_cong {M : Prims} {e : Ent} {args : List AV} {ob ob' : Nat → Option AO} {nm : Nat} (h : ∀ n, AV.hass n args = true → ob n = ob' n) : coE M false e args ob nm = coE M false e args ob' nm := by
  unfold coE
  rw [obR_cong h]
theorem preE_cong {D : FD} {fz : Bool} {args : List AV} {ob ob' : Nat → Option AO} {nm : Nat} (h : ∀ n, AV.hass n args = true → ob n = ob' n) : preE false D fz args ob nm = preE false D fz args ob' nm := by
  unfold preE
  rw [obR_cong h]
theorem memN_app {n : Nat} : ∀ {l m : List Nat}, memN n (appA l m) = (memN n l || memN n m)
  | [], m => by simp [appA, memN]
  | a :: l, m => by
    simp only [appA, memN]
    cases Nat.beq n a <;> simp [memN_app]
theorem lf_has {n : Nat} {v : AV} (h : memN n (lfNames v) = true) : v.has n = true := by
  cases v <;> simp [lfNames, memN] at h <;> (split at h <;> simp at h <;> rename_i hb <;> simp only [AV.has]; exact hb)
theorem lfs_has {n : Nat} : ∀ {l : List AV}, memN n (lfsNames l) = true → AV.hass n l = true
  | [], h => by simp [lfsNames, memN] at h
  | v :: l, h => by
    simp only [lfsNames, memN_app, Bool.or_eq_true] at h
    simp only [AV.hass, Bool.or_eq_true]
    exact h.imp lf_has lfs_has
theorem av_has {n : Nat} {v : AV} (h : memN n (avNames v) = true) : v.has n = true := by
  cases v with
  | agg l => exact lfs_has h
  | fn f x y =>
    simp only [avNames, memN_app, Bool.or_eq_true] at h
    simp only [AV.has, Bool.or_eq_true]
    exact h.imp lfs_has lfs_has
  | _ => exact lf_has h
theorem arg_has {n : Nat} : ∀ {l : List AV}, memN n (argNames l) = true → AV.hass n l = true
  | [], h => by simp [argNames, memN] at h
  | v :: l, h => by
    simp only [argNames, memN_app, Bool.or_eq_true] at h
    simp only [AV.hass, Bool.or_eq_true]
    exact h.imp av_has arg_has
section
variable {E2 E' : Env} {f : Nat → Nat} {rob : List (Nat × OD)}
structure Moves (E2 E' : Env) (f : Nat → Nat) (rob : List (Nat × OD)) (ref : Prop) : Prop where
  w : E'.w = E2.w
  mu : ∀ i, domO rob i = true → E'.mu (f i) = E2.mu i
  ok : ref → ∀ b, E2.ok b → E'.ok b
theorem ld_re {ref : Prop} (m : Moves E2 E' f rob ref) {d : LD} {x : d.T} {z : Value} (hd : inDom rob d = true) (hr : d.noref = true ∨ ref) (h : VR E2 (d.enc x) z) : VR E' (re1 f (d.enc x)) z := by
  cases d <;> simp only [LD.enc, re1, VR] at h ⊢ <;> try exact h
  · rcases hr with hr | hr
    · simp [LD.noref] at hr
    · exact LRs.mono (fun b hb => by rw [m.w]) (m.ok hr) _ _ _ h
  · exact ⟨h.1, fun L hL => h.2 L ((m.mu _ hd).symm.trans hL)⟩
  · exact ⟨h.1, fun L hL => h.2 L ((m.mu _ hd).symm.trans hL)⟩
  · exact ⟨h.1, fun L hL => h.2 L ((m.mu _ hd).symm.trans hL)⟩
  · rcases hr with hr | hr
    · simp [LD.noref] at hr
    · obtain ⟨b, o, cs, h1, h2, h3, h4, h5⟩ := h
      exact ⟨b, o, cs, h1, m.ok hr b h2, h3, h4.mono (by rw [m.w]), LRs.mono (fun b hb => by rw [m.w]) (m.ok hr) _ _ _ h5⟩
  · rcases hr with hr | hr
    · simp [LD.noref] at hr
    · exact ErrR.mono (fun b hb => by rw [m.w]) (m.ok hr) _ _ h
  · exact ⟨h.1, fun L hL => h.2 L ((m.mu _ hd).symm.trans hL)⟩
theorem lds_re {ref : Prop} (m : Moves E2 E' f rob ref) {R : Type} : ∀ {ds : List LD} {x : ldsTo ds R} {zs : List Value}, ldsIn rob ds = true → (ldsNoref ds = true ∨ ref) → VRL E2 (ldsEnc ds x).1 zs → VRL E' (mapA (re1 f) (ldsEnc ds x).1) zs
  | [], x, zs, _, _, h => by simpa [ldsEnc, mapA, VRL] using h
  | d :: ds, x, zs, hd, hr, h => by
    simp only [ldsIn, Bool.and_eq_true] at hd
    simp only [ldsNoref, Bool.and_eq_true] at hr
    simp only [ldsEnc, mapA, VRL] at h ⊢
    obtain ⟨z, r, rfl, h1, h2⟩ := h
    exact ⟨z, r, rfl, ld_re m hd.1 (hr.imp_left And.left) h1, lds_re m hd.2 (hr.imp_left And.right) h2⟩
theorem encs_re {s : Sh} {x : s.T} : mapA (re1 f) (enc s x) = enc s x := by
  rw [mapA_eq]
  have : ∀ (s : Sh) (x : s.T), ∀ v ∈ enc s x, re1 f v = v := by
    intro s
    induction s with
    | int k => intro x v hv; simp [enc] at hv; subst hv; rfl
    | bool => intro x v hv; simp [enc] at hv; subst hv; rfl
    | str => intro x v hv; simp [enc] at hv; subst hv; rfl
    | sl e ih => intro x v hv; simp [enc] at hv; subst hv; rfl
    | arr n e ih => intro x v hv; simp [enc] at hv
    | unit => intro x v hv; simp [enc] at hv
    | pair a b iha ihb =>
      intro x v hv
      simp only [enc, appA_eq] at hv
      rcases List.mem_append.1 hv with hv | hv
      · exact iha _ v hv
      · exact ihb _ v hv
    | err => intro x v hv; simp [enc] at hv; subst hv; rfl
  have h2 := List.map_congr_left (f := re1 f) (g := id) (l := enc s x) fun v hv => this s x v hv
  simpa using h2
theorem enc_free {s : Sh} (hn : s.noref = true) {x : s.T} {zs : List Value} (h : VRL E2 (enc s x) zs) : VRL E' (enc s x) zs := by
  have : ∀ (s : Sh), s.noref = true → ∀ (x : s.T), ∀ v ∈ enc s x, ∀ z, VR E2 v z → VR E' v z := by
    intro s
    induction s with
    | int k => intro _ x v hv z hz; simp [enc] at hv; subst hv; simpa [VR] using hz
    | bool => intro _ x v hv z hz; simp [enc] at hv; subst hv; simpa [VR] using hz
    | str => intro _ x v hv z hz; simp [enc] at hv; subst hv; simpa [VR] using hz
    | sl e ih => intro hn; simp [Sh.noref] at hn
    | arr n e ih => intro _ x v hv; simp [enc] at hv
    | unit => intro _ x v hv; simp [enc] at hv
    | pair a b iha ihb =>
      intro hn x v hv
      simp only [Sh.noref, Bool.and_eq_true] at hn
      simp only [enc, appA_eq] at hv
      rcases List.mem_append.1 hv with hv | hv
      · exact iha hn.1 _ v hv
      · exact ihb hn.2 _ v hv
    | err => intro hn; simp [Sh.noref] at hn
  refine VRL.of_get h.length.symm fun i v hi => ?_
  obtain ⟨z, h1, h2⟩ := h.get hi
  exact ⟨z, h1, this s hn x v (List.mem_of_getElem? hi) z h2⟩
theorem enc_moves {ref : Prop} (m : Moves E2 E' f rob ref) {s : Sh} {x : s.T} (hr : s.noref = true ∨ ref) {zs : List Value} (h : VRL E2 (enc s x) zs) : VRL E' (mapA (re1 f) (enc s x)) zs := by
  rw [encs_re]
  rcases hr with hr | hr
  · exact enc_free hr h
  · refine VRL.mono (us := fun _ => False) ⟨fun b hb => by rw [m.w], m.ok hr, fun n h => h.elim⟩ _ _ ?_ h
    exact enc_nms _ s x
theorem vd_re {ref : Prop} (m : Moves E2 E' f rob ref) {R : Type} {d : VD} {x : d.To R} {z : Value} (hd : d.inD rob = true) (hr : d.noref = true ∨ ref) (h : VR E2 (d.enc x).1 z) : VR E' (re2 f (d.enc x).1) z := by
  cases d with
  | leaf d =>
    have := ld_re m (x := hdC d x) hd hr h
    cases d <;> exact this
  | grp s =>
    simp only [VD.enc, re2, VR] at h ⊢
    obtain ⟨vs, rfl, hv⟩ := h
    exact ⟨vs, rfl, enc_moves m hr hv⟩
  | agg l =>
    simp only [VD.enc, re2, VR] at h ⊢
    obtain ⟨vs, rfl, hv⟩ := h
    exact ⟨vs, rfl, lds_re m hd hr hv⟩
  | fn F a b =>
    simp only [VD.inD, Bool.and_eq_true] at hd
    simp only [VD.noref, Bool.and_eq_true] at hr
    simp only [VD.enc, re2, VR] at h ⊢
    obtain ⟨p, q, rfl, h1, h2⟩ := h
    exact ⟨p, q, rfl, lds_re m hd.1 (hr.imp_left And.left) h1, lds_re m hd.2 (hr.imp_left And.right) h2⟩
  | arr s =>
    simp only [VD.enc, re2, re1, VR] at h ⊢
    obtain ⟨vs, rfl, hv⟩ := h
    refine ⟨vs, rfl, ?_⟩
    rcases hr with hr | hr
    · exact LRs.free _ hr _ _ hv
    · exact LRs.mono (fun b hb => by rw [m.w]) (m.ok hr) _ _ _ hv
theorem tms_re {ref : Prop} (m : Moves E2 E' f rob ref) {R : Type} : ∀ {l : List (Nat × VD)} {x : tmTo l R} {zs : List Value}, tmIn rob l = true → (tmNoref l = true ∨ ref) → VRL E2 (tmVs l x) zs → VRL E' (mapA (re2 f) (tmVs l x)) zs
  | [], x, zs, _, _, h => by simpa [tmVs, tmEnc, mapA, VRL] using h
  | (t, d) :: l, x, zs, hd, hr, h => by
    simp only [tmIn, Bool.and_eq_true] at hd
    simp only [tmNoref, Bool.and_eq_true] at hr
    have e1 : tmVs ((t, d) :: l) x = (d.enc x).1 :: tmVs l (d.enc x).2 := rfl
    rw [e1] at h ⊢
    simp only [mapA, VRL] at h ⊢
    obtain ⟨z, r, rfl, h1, h2⟩ := h
    exact ⟨z, r, rfl, vd_re m hd.1 (hr.imp_left And.left) h1, tms_re m hd.2 (hr.imp_left And.right) h2⟩
theorem od_re {ref : Prop} (m : Moves E2 E' f rob ref) {R : Type} {d : OD} {x : d.To R} {i : Nat} (hi : domO rob i = true) (hd : d.inD rob = true) (hr : d.noref = true ∨ ref) (h : ObjR E2 i (d.enc x).1) : ObjR E' (f i) ((d.enc x).1.re f) := by
  cases d with
  | rows e =>
    obtain ⟨L, h1, h2, h3⟩ := h
    refine ⟨L, (m.mu i hi).trans h1, h2, ?_⟩
    rcases h3 with h3 | ⟨b, cs, T, fr, k1, k2, k3, k4, k5, k6, k7⟩
    · exact .inl h3
    · refine .inr ⟨b, cs, T, fr, k1, k2, by rw [m.w]; exact k3, k4, k5, k6, fun j hj => ?_⟩
      rcases hr with hr | hr
      · exact LRs.free _ hr _ _ (k7 j hj)
      · exact LRs.mono (fun b hb => by rw [m.w]) (m.ok hr) _ _ _ (k7 j hj)
  | cells l =>
    obtain ⟨b, cs, T, fr, h1, h2, h3, h4⟩ := h
    exact ⟨b, cs, T, fr, (m.mu i hi).trans h1, by rw [m.w]; exact h2, h3, lds_re m hd hr h4⟩
  | grp s =>
    obtain ⟨b, cs, T, fr, h1, h2, h3, h4⟩ := h
    exact ⟨b, cs, T, fr, (m.mu i hi).trans h1, by rw [m.w]; exact h2, h3, enc_moves m hr h4⟩
  | mp k e =>
    obtain ⟨b, es, c, h1, h2, h3⟩ := h
    refine ⟨b, es, c, (m.mu i hi).trans h1, by rw [m.w]; exact h2, ?_⟩
    rcases hr with hr | hr
    · exact MpR.free hr h3
    · exact MpR.mono (fun b hb => by rw [m.w]) (m.ok hr) h3
theorem obs_re {ref : Prop} (m : Moves E2 E' f rob ref) {R : Type} : ∀ {l : List (Nat × OD)} {x : obTo l R}, (∀ i, domO l i = true → domO rob i = true) → obIn rob l = true → (obNoref l = true ∨ ref) → (∀ i o, (i, some o) ∈ (obEnc l x).1 → ObjR E2 i o) →
    ∀ n r, (n, r) ∈ updRob f (obEnc l x).1 → ∃ i o, domO l i = true ∧ n = f i ∧ r = some o ∧ ObjR E' n o ∧ ∀ p : Nat → Prop, (∀ j, domO rob j = true → p (f j)) → o.nm p
  | [], x, _, _, _, _, n, r, h => by simp [obEnc, updRob] at h
  | (i, d) :: l, x, hsub, hd, hr, hob, n, r, h => by
    simp only [obIn, Bool.and_eq_true] at hd
    simp only [obNoref, Bool.and_eq_true] at hr
    have hi : domO rob i = true := hsub i (by simp [domO, beq_self])
    simp only [obEnc, updRob] at h
    rcases List.mem_cons.1 h with h | h
    · simp only [Prod.mk.injEq] at h
      obtain ⟨rfl, rfl⟩ := h
      refine ⟨i, _, by simp [domO, beq_self], rfl, rfl, od_re m hi hd.1 (hr.imp_left And.left) (hob i _ (by simp [obEnc])), fun p hp => ?_⟩
      have hlf : ∀ (d : LD) (y : d.T), inDom rob d = true → (re1 f (d.enc y)).nm p := by
        intro d y hd
        cases d <;> simp only [LD.enc, re1, AV.nm] <;> first | trivial | exact hp _ hd
      have hls : ∀ (ds : List LD) (y : ldsTo ds (obTo l R)), ldsIn rob ds = true → AV.nms p (mapA (re1 f) (ldsEnc ds y).1) := by
        intro ds
        induction ds with
        | nil => intro y _; simp [ldsEnc, mapA, AV.nms]
        | cons d ds ih =>
          intro y hds
          simp only [ldsIn, Bool.and_eq_true] at hds
          simp only [ldsEnc, mapA, AV.nms]
          exact ⟨hlf d _ hds.1, ih _ hds.2⟩
      cases d with
      | rows e => simp [OD.enc, AO.re, AO.nm]
      | cells ds => exact hls ds _ hd.1
      | grp s => simp only [OD.enc, AO.re, AO.nm, encs_re]; exact enc_nms p _ _
      | mp k e => simp [OD.enc, AO.re, AO.nm]
    · obtain ⟨i', o, h1, h2⟩ := obs_re m (fun j hj => hsub j (by simp only [domO]; split <;> first | rfl | exact hj)) hd.2 (hr.imp_left And.right) (fun i' o' ho' => hob i' o' (by simp [obEnc, ho'])) n r h
      exact ⟨i', o, by simp only [domO]; split <;> first | rfl | exact h1, h2⟩
end
end Go.Tr
