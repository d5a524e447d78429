/- The evaluator in typed form: what code comes to, as an optional value; loops as fixed points; calls by their answers.
   Conditions: none; definitions, and that they say what the first evaluator says. -/
import Derived.Test.YtbdgfpfafcjmgaaDoorTrX
namespace Go.Tr
open Go
set_option linter.unusedVariables false
set_option linter.unusedSimpArgs false
universe u

/-! ### The words of which the printed functions are made. -/

def cnd {X : Type} (b : Bool) (x y : Option X) : Option X :=
  match b with
  | true => x
  | false => y
noncomputable def chk {X : Type} (p : Prop) (x : Option X) : Option X := @ite _ p (Classical.propDecidable p) x none
def ltO {α X : Type} (v : α) (f : α → Option X) : Option X := f v
def bnd {Y X : Type} (y : Option Y) (f : Y → Option X) : Option X :=
  match y with
  | some y => f y
  | none => none
noncomputable def bndG {Y X : Type} (c : Bool) (y : Option Y) (d : Y) (f : Y → Option X) : Option X := chk (c = true → y.isSome = true) (f (y.getD d))
def sumO {A B X : Type} (s : A ⊕ B) (f : A → Option X) (h : B → Option X) : Option X :=
  match s with
  | .inl a => f a
  | .inr b => h b
def iterM {S Y : Type} (f : S → Option (S ⊕ Y)) : Nat → S → Option Y
  | 0, _ => none
  | n + 1, s => match f s with
    | none => none
    | some (.inl s') => iterM f n s'
    | some (.inr y) => some y
open Classical in
noncomputable def loopM {S Y : Type} (f : S → Option (S ⊕ Y)) (s : S) : Option Y := if h : ∃ n y, iterM f n s = some y then some h.choose_spec.choose else none

structure Prims where
  cnd : {X : Type} → Bool → Option X → Option X → Option X
  chk : {X : Type} → Prop → Option X → Option X
  lt : {α X : Type} → α → (α → Option X) → Option X
  bnd : {Y X : Type} → Option Y → (Y → Option X) → Option X
  bndG : {Y X : Type} → Bool → Option Y → Y → (Y → Option X) → Option X
  sum : {A B X : Type} → A ⊕ B → (A → Option X) → (B → Option X) → Option X
  loop : {S Y : Type} → (S → Option (S ⊕ Y)) → S → Option Y

noncomputable def std : Prims := ⟨cnd, chk, ltO, bnd, bndG, sumO, loopM⟩

theorem chk_some {X : Type} {p : Prop} {x : Option X} {y : X} (h : chk p x = some y) : p ∧ x = some y := by
  unfold chk at h
  split at h
  · exact ⟨by assumption, h⟩
  · simp at h
theorem chk_pos {X : Type} {p : Prop} (h : p) (x : Option X) : chk p x = x := by
  unfold chk; rw [if_pos h]
theorem chk_neg {X : Type} {p : Prop} (h : ¬ p) (x : Option X) : chk p x = none := by
  unfold chk; rw [if_neg h]
theorem bnd_some {Y X : Type} {y : Option Y} {f : Y → Option X} {x : X} (h : bnd y f = some x) : ∃ z, y = some z ∧ f z = some x := by
  cases y with
  | none => simp [bnd] at h
  | some z => exact ⟨z, rfl, h⟩
theorem iterM_mono {S Y : Type} {f : S → Option (S ⊕ Y)} : ∀ {n : Nat} {s : S} {y : Y}, iterM f n s = some y → ∀ {m : Nat}, n ≤ m → iterM f m s = some y
  | 0, s, y, h, m, hm => by simp [iterM] at h
  | n + 1, s, y, h, m, hm => by
    obtain ⟨m, rfl⟩ : ∃ k, m = k + 1 := ⟨m - 1, by omega⟩
    simp only [iterM] at h ⊢
    split at h
    · simp at h
    · exact iterM_mono h (by omega)
    · exact h
theorem loopM_iff {S Y : Type} {f : S → Option (S ⊕ Y)} {s : S} {y : Y} : loopM f s = some y ↔ ∃ n, iterM f n s = some y := by
  unfold loopM
  constructor
  · intro h
    split at h
    · rename_i hh
      exact ⟨hh.choose, by rw [← h]; exact hh.choose_spec.choose_spec⟩
    · simp at h
  · rintro ⟨n, h⟩
    have hh : ∃ n y, iterM f n s = some y := ⟨n, y, h⟩
    rw [dif_pos hh]
    have h2 := hh.choose_spec.choose_spec
    have a := iterM_mono h (Nat.le_max_left n hh.choose)
    have b := iterM_mono h2 (Nat.le_max_right n hh.choose)
    rw [a] at b
    exact b.symm
theorem loopM_eq {S Y : Type} (f : S → Option (S ⊕ Y)) (s : S) : loopM f s = match f s with
    | none => none
    | some (.inl s') => loopM f s'
    | some (.inr y) => some y := by
  apply Option.ext
  intro y
  rw [loopM_iff]
  cases hf : f s with
  | none =>
    constructor
    · rintro ⟨n, h⟩
      cases n <;> simp [iterM, hf] at h
    · intro h; simp at h
  | some z =>
    cases z with
    | inl s' =>
      constructor
      · rintro ⟨n, h⟩
        cases n with
        | zero => simp [iterM] at h
        | succ n => simp only [iterM, hf] at h; exact loopM_iff.2 ⟨n, h⟩
      · intro h
        obtain ⟨n, hn⟩ := loopM_iff.1 h
        exact ⟨n + 1, by simp only [iterM, hf]; exact hn⟩
    | inr y' =>
      constructor
      · rintro ⟨n, h⟩
        cases n with
        | zero => simp [iterM] at h
        | succ n => simp only [iterM, hf] at h; exact h
      · intro h
        exact ⟨1, by simp only [iterM, hf]; exact h⟩

/-! ### Checks, names of values. -/

noncomputable def chks (M : Prims) {X : Type} (l : List Prop) (x : Option X) : Option X :=
  List.rec (motive := fun _ => Option X) x (fun p _ ih => M.chk p ih) l
noncomputable def chksC (M : Prims) {X : Type} (c : Bool) (l : List Prop) (x : Option X) : Option X :=
  List.rec (motive := fun _ => Option X) x (fun p _ ih => M.chk (c = true → p) ih) l

theorem chks_some {X : Type} {x : X} : ∀ {l : List Prop} {y : Option X}, chks std l y = some x → (∀ p ∈ l, p) ∧ y = some x
  | [], y, h => ⟨fun p hp => by simp at hp, h⟩
  | p :: l, y, h => by
    have h' : chk p (chks std l y) = some x := h
    obtain ⟨h1, h2⟩ := chk_some h'
    obtain ⟨h3, h4⟩ := chks_some h2
    refine ⟨fun q hq => ?_, h4⟩
    rcases List.mem_cons.1 hq with rfl | hq
    · exact h1
    · exact h3 q hq
theorem chksC_some {X : Type} {x : X} {c : Bool} : ∀ {l : List Prop} {y : Option X}, chksC std c l y = some x → (∀ p ∈ l, c = true → p) ∧ y = some x
  | [], y, h => ⟨by simp, h⟩
  | p :: l, y, h => by
    have h' : chk (c = true → p) (chksC std c l y) = some x := h
    obtain ⟨h1, h2⟩ := chk_some h'
    obtain ⟨h3, h4⟩ := chksC_some h2
    refine ⟨fun q hq => ?_, h4⟩
    rcases List.mem_cons.1 hq with rfl | hq
    · exact h1
    · exact h3 q hq

/-- What an operation yields gets a name, where 'b' says so. -/
noncomputable def letV (M : Prims) {X : Type} (b : Bool) (v : AV) (k : AV → Option X) : Option X :=
  match b with
  | true => match v with
    | .int kk n => M.lt n fun n => k (.int kk n)
    | .bool b => M.lt b fun b => k (.bool b)
    | .str l => M.lt l fun l => k (.str l)
    | .fsl e xs => M.lt xs fun xs => k (.fsl e xs)
    | .fpt e x off => M.lt x fun x => k (.fpt e x off)
    | .ite _ _ _ => none
    | v => k v
  | false => match v with
    | .ite _ _ _ => none
    | v => k v

def notIte (v : AV) : Bool :=
  match v with
  | .ite _ _ _ => false
  | _ => true

theorem letV_some {X : Type} {b : Bool} {v : AV} {k : AV → Option X} {x : X} (h : letV std b v k = some x) : notIte v = true ∧ k v = some x := by
  have no : ¬ (none : Option X) = some x := by simp
  cases b <;> cases v <;> first
    | exact ⟨rfl, h⟩
    | exact (no h).elim

theorem splA_of {v : AV} {k : AV → Prop} (h : notIte v = true) (hk : k v) : splA v k := by
  cases v <;> first
    | exact hk
    | simp [notIte] at h

def letOp (o : Op) : Bool :=
  match o with
  | .binOp op _ _ _ _ => match op with
    | .lss => false
    | .leq => false
    | .gtr => false
    | .geq => false
    | _ => true
  | .convert _ _ _ => true
  | .index _ _ _ => true
  | .indexAddr _ _ _ => true
  | .unOp op _ _ => match op with
    | .not => false
    | _ => true
  | .pick _ _ _ => true
  | _ => false

/-! ### Calls -/

structure CallR where
  Y : Type
  val : Option Y
  dflt : Y
  res : Y → AV
  upd : Y → Upd

abbrev CtxO := FuncId → List AV → (Nat → Option AO) → Nat → Option CallR

def ctxOf (CO : CtxO) : Ctx := fun F args ob nm => match CO F args ob nm with
  | none => none
  | some R => some (R.val.isSome = true, R.res (R.val.getD R.dflt), R.upd (R.val.getD R.dflt))

def noC : Ctx := fun _ _ _ _ => none

def isCall (o : Oper) : Option (Operand × List Operand) :=
  match o.op with
  | .call c => match c.callee with
    | .value f => some (f, c.args.toList)
    | _ => none
  | _ => none

noncomputable def callA (tm : Nat → Option AV) (f : Operand) (xs : List Operand) : Option (List Prop × List Prop × FuncId × List AV) :=
  fe tm f fun p fv' => fel tm xs fun q args => match fv' with
    | .fn F first cap => some (p, q, F, appA first (appA args cap))
    | _ => none

theorem fe_is (tm : Nat → Option AV) (x : Operand) : ∃ p v, ∀ {α : Type} (k : List Prop → AV → Option α), fe tm x k = k p v := by
  cases h : opv tm x with
  | when g v => exact ⟨[g = true], v, fun k => by simp only [fe, h, fv_eq]⟩
  | _ => exact ⟨[], _, fun k => by simp only [fe, h, fv_eq]; rfl⟩

theorem fel_is (tm : Nat → Option AV) : ∀ (xs : List Operand), ∃ p vs, ∀ {α : Type} (k : List Prop → List AV → Option α), fel tm xs k = k p vs
  | [] => ⟨[], [], fun k => rfl⟩
  | x :: r => by
    obtain ⟨p, v, h⟩ := fe_is tm x
    obtain ⟨q, vs, g⟩ := fel_is tm r
    exact ⟨p ++ q, v :: vs, fun k => by simp only [fel, h, g]⟩

theorem opA_call {P : Program} {C : Ctx} {tm : Nat → Option AV} {ob : Nat → Option AO} {nm : Nat} {o : Oper} {f : Operand} {xs : List Operand} (hc : isCall o = some (f, xs)) {p q : List Prop} {F : FuncId} {args : List AV}
    (ha : callA tm f xs = some (p, q, F, args)) : opA P C tm ob nm o = match C F args ob nm with
      | some (r, v, u) => some ⟨appA p (appA q [r]), v, u⟩
      | none => none := by
  unfold isCall at hc
  split at hc
  · rename_i c hop
    split at hc
    · rename_i f' hcal
      simp only [Option.some.injEq, Prod.mk.injEq] at hc
      obtain ⟨rfl, rfl⟩ := hc
      obtain ⟨p', v, h1⟩ := fe_is tm f'
      obtain ⟨q', vs, h2⟩ := fel_is tm c.args.toList
      unfold callA at ha
      rw [h1, h2] at ha
      split at ha
      · simp only [Option.some.injEq, Prod.mk.injEq] at ha
        obtain ⟨rfl, rfl, rfl, rfl⟩ := ha
        unfold opA
        simp only [hop, hcal, h1, h2]
        split <;> rename_i heq <;> simp only [heq, fv_eq]
      · simp at ha
    · simp at hc
  · simp at hc

theorem opA_noC {P : Program} {C : Ctx} {tm : Nat → Option AV} {ob : Nat → Option AO} {nm : Nat} {o : Oper} (hc : isCall o = none) : opA P C tm ob nm o = opA P noC tm ob nm o := by
  unfold opA
  unfold isCall at hc
  split at hc
  · rename_i c hop
    split at hc
    · simp at hc
    · rename_i hcal
      simp only [hop]
      split <;> first | rfl | (rename_i heq; exact absurd heq (hcal _))
  · rename_i hop
    cases h : o.op <;> first | rfl | (exact absurd h (hop _))

/-! ### Regions -/

noncomputable def evOpO (M : Prims) (P : Program) (CO : CtxO) {X : Type} (all : List Oper) (o : Oper) (ih : Nat → Ga → (List Tr → Ga → Option X) → Option X) (i : Nat) (g : Ga) (k : List Tr → Ga → Option X) : Option X :=
  match g with
  | ⟨tm, ob, nx, nt⟩ => match dstOk nt o.dst with
    | false => none
    | true => match gcA all (lkA tm) o with
      | none => none
      | some none => frcN (nx + i) fun nm => match isCall o with
        | some (f, xs) => match callA (lkA tm) f xs with
          | some (p, q, F, args) => match CO F args (lkO ob) nm with
            | some R => chks M p (chks M q (M.bnd R.val fun y => fv (R.res y) fun v => match notIte v with
              | true => Ga.app ⟨tm, ob, nx, nt⟩ o.dst v (R.upd y) fun g1 => ih (i + 1) g1 fun tr g' => k (⟨o, v, R.upd y, opvs (lkA tm) o.op.operands.toList⟩ :: tr) g'
              | false => none))
            | none => none
          | none => none
        | none => match opA P noC (lkA tm) (lkO ob) nm o with
          | none => none
          | some ⟨obs, v, u⟩ => chks M obs (letV M (letOp o.op) v fun v' => Ga.app ⟨tm, ob, nx, nt⟩ o.dst v' u fun g1 => ih (i + 1) g1 fun tr g' => k (⟨o, v', u, opvs (lkA tm) o.op.operands.toList⟩ :: tr) g')
      | some (some c) => frcN (nx + i) fun nm => match isCall o with
        | some (f, xs) => match callA (lkA tm) f xs with
          | some (p, q, F, args) => match CO F args (lkO ob) nm with
            | some R => chksC M c p (chksC M c q (M.bndG c R.val R.dflt fun y => match R.upd y with
              | [] => fv (R.res y) fun v => Ga.app ⟨tm, ob, nx, nt⟩ o.dst (.when c v) [] fun g1 => ih (i + 1) g1 fun tr g' => k (⟨o, .when c v, [], opvs (lkA tm) o.op.operands.toList⟩ :: tr) g'
              | _ => none))
            | none => none
          | none => none
        | none => match opA P noC (lkA tm) (lkO ob) nm o with
          | some ⟨obs, v, []⟩ => chksC M c obs (letV M (letOp o.op) v fun v => Ga.app ⟨tm, ob, nx, nt⟩ o.dst (.when c v) [] fun g1 => ih (i + 1) g1 fun tr g' => k (⟨o, .when c v, [], opvs (lkA tm) o.op.operands.toList⟩ :: tr) g')
          | _ => none

noncomputable def evOpsO (M : Prims) (P : Program) (CO : CtxO) {X : Type} (all : List Oper) (i : Nat) (ops : List Oper) : Ga → (List Tr → Ga → Option X) → Option X :=
  List.rec (motive := fun _ => Nat → Ga → (List Tr → Ga → Option X) → Option X)
    (fun i g k => match g with
      | ⟨tm, ob, nx, nt⟩ => k [] ⟨tm, ob, nx + i, nt⟩)
    (fun o _ ih i g k => evOpO M P CO all o ih i g k) ops i
theorem evOpsO_cons (M : Prims) (P : Program) (CO : CtxO) {X : Type} (all : List Oper) (i : Nat) (o : Oper) (r : List Oper) (g : Ga) (k : List Tr → Ga → Option X) :
    evOpsO M P CO all i (o :: r) g k = evOpO M P CO all o (fun i => evOpsO M P CO all i r) i g k := rfl

theorem Ga.app_eq {α : Sort u} (tm : List (Nat × AV)) (ob : Upd) (nx nt : Nat) (d : Option Nat) (v : AV) (u : Upd) (k : Ga → α) : Ga.app ⟨tm, ob, nx, nt⟩ d v u k = match d with
    | some d => k ⟨(d, v) :: tm, u ++ ob, nx, nt⟩
    | none => k ⟨tm, u ++ ob, nx, nt⟩ := by
  simp only [Ga.app, appK_eq, appA_eq]
  cases d <;> rfl

theorem mem_app2 {p q : List Prop} {s : Prop} (hp : ∀ x ∈ p, x) (hq : ∀ x ∈ q, x) (hs : s) : ∀ x ∈ appA p (appA q [s]), x := by
  intro x hx
  rw [appA_eq, appA_eq] at hx
  rcases List.mem_append.1 hx with hx | hx
  · exact hp x hx
  · rcases List.mem_append.1 hx with hx | hx
    · exact hq x hx
    · simp at hx; rw [hx]; exact hs

theorem evOpsO_ev {P : Program} {CO : CtxO} {X : Type} {x : X} {all : List Oper} : ∀ (ops : List Oper) (i : Nat) (g : Ga) (k : List Tr → Ga → Option X), evOpsO std P CO all i ops g k = some x →
    evOps P (ctxOf CO) all i ops g fun tr g' => k tr g' = some x
  | [], i, g, k, h => h
  | o :: r, i, g, k, h => by
    rw [evOpsO_cons] at h
    rw [evOps_cons]
    obtain ⟨tm, ob, nx, nt⟩ := g
    unfold evOpO at h
    unfold evOp
    simp only at h ⊢
    split at h
    · simp at h
    · rename_i hd
      simp only [hd]
      split at h
      · simp at h
      · rename_i hg
        simp only [hg]
        rw [frcN_eq] at h ⊢
        split at h
        · rename_i f xs hc
          split at h
          · rename_i p q F args ha
            split at h
            · rename_i R hR
              rw [opA_call hc ha]
              obtain ⟨h1, h⟩ := chks_some h
              obtain ⟨h2, h⟩ := chks_some h
              obtain ⟨y, hy, h⟩ := bnd_some h
              rw [fv_eq] at h
              split at h
              · rename_i hn
                simp only [ctxOf, hR, hy, Option.isSome_some, Option.getD_some]
                refine evObs_iff.2 ⟨mem_app2 h1 h2 (by simp), splA_of hn ?_⟩
                rw [Ga.app_eq] at h ⊢
                split at h <;> exact evOpsO_ev r _ _ _ h
              · simp at h
            · simp at h
          · simp at h
        · rename_i hc
          rw [opA_noC hc]
          split at h
          · simp at h
          · rename_i obs v u hop
            simp only [hop]
            obtain ⟨h1, h⟩ := chks_some h
            obtain ⟨hn, h⟩ := letV_some h
            refine evObs_iff.2 ⟨h1, splA_of hn ?_⟩
            rw [Ga.app_eq] at h ⊢
            split at h <;> exact evOpsO_ev r _ _ _ h
      · rename_i c hg
        simp only [hg]
        rw [frcN_eq] at h ⊢
        split at h
        · rename_i f xs hc
          split at h
          · rename_i p q F args ha
            split at h
            · rename_i R hR
              rw [opA_call hc ha]
              obtain ⟨h1, h⟩ := chksC_some h
              obtain ⟨h2, h⟩ := chksC_some h
              have h' : chk (c = true → R.val.isSome = true) _ = some x := h
              obtain ⟨h3, h⟩ := chk_some h'
              simp only [ctxOf, hR]
              split at h
              · rename_i hu
                rw [fv_eq] at h
                simp only [hu]
                refine evObsC_iff.2 ⟨fun hcc => ?_, ?_⟩
                · exact mem_app2 (fun z hz => h1 z hz hcc) (fun z hz => h2 z hz hcc) (h3 hcc)
                · rw [Ga.app_eq] at h ⊢
                  split at h <;> exact evOpsO_ev r _ _ _ h
              · simp at h
            · simp at h
          · simp at h
        · rename_i hc
          rw [opA_noC hc]
          split at h
          · rename_i obs v hop
            simp only [hop]
            obtain ⟨h1, h⟩ := chksC_some h
            obtain ⟨hn, h⟩ := letV_some h
            refine evObsC_iff.2 ⟨fun hcc p hp => h1 p hp hcc, ?_⟩
            rw [Ga.app_eq] at h ⊢
            split at h <;> exact evOpsO_ev r _ _ _ h
          · simp at h

/-! ### Code -/

structure LoopD where
  S : Type
  dec : Ga → Option (List Prop × S)
  enc : S → Ga
  exit : Nat
  T : Type
  edec : Ga → Option (List Prop × T)
  eenc : T → Ga

/-- The state g' says no more than g does. -/
def SubOK (g g' : Ga) : Prop := ∀ (W0 : WX) (okIn B : Nat → Prop) (E : Env) (a : Act), SimG W0 okIn B g E a → ∃ E', E'.w = E.w ∧ SimG W0 okIn B g' E' a

structure LoopD.OK (D : LoopD) : Prop where
  dec : ∀ g q s, D.dec g = some (q, s) → (∀ p ∈ q, p) → SubOK g (D.enc s)
  edec : ∀ g q s, D.edec g = some (q, s) → (∀ p ∈ q, p) → SubOK g (D.eenc s)

def loopKey : Code → Option Nat
  | .region id _ _ => some id
  | .seq a b => match loopKey a with
    | some i => some i
    | none => loopKey b
  | .cond _ a b => match loopKey a with
    | some i => some i
    | none => loopKey b
  | .block _ c => loopKey c
  | .loop c => loopKey c
  | .scope c => loopKey c
  | _ => none

def lkL (LS : List (Nat × LoopD)) (k : Option Nat) : Option LoopD :=
  match k with
  | some k => go LS k
  | none => none
 where
  go : List (Nat × LoopD) → Nat → Option LoopD
    | [], _ => none
    | (m, x) :: r, n => match Nat.beq n m with
      | true => some x
      | false => go r n

abbrev RetF (R : Type) := (X : Type) → Ga → (R → Option X) → Option X

structure RetF.Nat {R : Type} (ret : RetF R) : Prop where
  nat : ∀ (Y : Type) (g : Ga) (f : R → Option Y) (y : Y), ret Y g f = some y → ∃ r, f r = some y ∧ ∀ (X : Type) (k : R → Option X), ret X g k = k r

noncomputable def bodyK (M : Prims) {R : Type} (D : LoopD) (e : Exit) (g : Ga) : Option (D.S ⊕ (D.T ⊕ R)) :=
  match e with
  | .normal => match D.dec g with
    | some (q, s) => chks M q (some (.inl s))
    | none => none
  | .exit id => match Nat.beq id D.exit with
    | true => match D.edec g with
      | some (q, t) => chks M q (some (.inr (.inl t)))
      | none => none
    | false => none
  | _ => none

noncomputable def evO (M : Prims) (P : Program) (CO : CtxO) (LS : List (Nat × LoopD)) {R : Type} (ret : RetF R) (c : Code) : (X : Type) → (R → X) → Ga → (Exit → Ga → Option X) → Option X :=
  Code.rec (motive := fun _ => (X : Type) → (R → X) → Ga → (Exit → Ga → Option X) → Option X)
    (skip := fun X inj g k => k .normal g)
    (region := fun _ ops draw X inj g k => match draw with
      | false => evOpsO M P CO ops.toList 0 ops.toList g fun _ g' => g'.frc fun g'' => k .normal g''
      | true => evOpsO M P CO ops.toList 0 ops.toList g fun tr g' => match chkA ops.toList tr with
        | true => g'.frc fun g'' => k .normal g''
        | false => none)
    (seq := fun _ _ iha ihb X inj g k => iha X inj g fun e g' => match e with
      | .normal => ihb X inj g' k
      | e => k e g')
    (cond := fun c _ _ iha ihb X inj g k => match opv (lkA g.tmps) c with
      | .bool t => M.cnd t (iha X inj (g.setB c true) k) (ihb X inj (g.setB c false) k)
      | .when w (.bool t) => M.chk (w = true) (M.cnd t (iha X inj g k) (ihb X inj g k))
      | _ => none)
    (block := fun id _ ih X inj g k => ih X inj g fun e g' => match e with
      | .exit id' => match Nat.beq id' id with
        | true => k .normal g'
        | false => k (.exit id') g'
      | e => k e g')
    (loop := fun c ih X inj g k => match lkL LS (loopKey c) with
      | none => none
      | some D => match D.dec g with
        | none => none
        | some (q, s) => chks M q (M.bnd (M.loop (fun s => (D.enc s).frc fun g' => ih (D.S ⊕ (D.T ⊕ R)) (fun r => .inr (.inr r)) g' (bodyK M D)) s) fun o => M.sum o (fun t => (D.eenc t).frc fun g' => k (.exit D.exit) g') (fun r => some (inj r))))
    (rangeFunc := fun _ _ _ _ _ _ _ _ _ _ => none)
    (exit := fun id X inj g k => k (.exit id) g)
    (scope := fun _ _ _ _ _ _ => none)
    (label := fun _ X inj g k => k .normal g)
    (goto := fun _ _ _ _ _ => none)
    (ret := fun X inj g k => ret X g fun r => some (inj r))
    (refuse := fun _ _ _ _ _ => none) c

/-- What comes behind code, of which the typed evaluator says that it comes to x. -/
def outK {R X : Type} (ret : RetF R) (inj : R → X) (k : Exit → Ga → Option X) (x : X) (e : Exit) (g : Ga) : Prop :=
  match e with
  | .ret => ret X g (fun r => some (inj r)) = some x
  | e => k e g = some x

theorem Trip.loop' {P : Program} [Tabs P] {c : Code} {g : Ga} {k : Exit → Ga → Prop} {ι : Type} (G : ι → Ga) (A : ι → Prop) (m : ι → Nat) (i0 : ι) (h0 : A i0) (hs0 : SubOK g (G i0))
    (hb : ∀ i, A i → Trip P c (G i) fun e g' => match e with
      | .normal => ∃ i', A i' ∧ m i' < m i ∧ SubOK g' (G i')
      | e => ∃ g'', k e g'' ∧ SubOK g' g'') : Trip P (.loop c) g k := by
  intro W0 okIn B E a hT hs
  refine wp_loop_ghost (fun n a w => ∃ i E, m i = n ∧ A i ∧ E.w = w ∧ SimG W0 okIn B (G i) E a) (m i0) ?_ ?_
  · obtain ⟨E', h1, h2⟩ := hs0 W0 okIn B E a hs
    exact ⟨i0, E', rfl, h0, h1, h2⟩
  · rintro n a w ⟨i, E, rfl, hA, rfl, hs⟩
    refine wp_mono (hb i hA W0 okIn B E a hT hs) fun e a' w' hq => ?_
    obtain ⟨g', E', h1, rfl, h3⟩ := hq
    have key : (∃ g'', k e g'' ∧ SubOK g' g'') → ∃ g'' E'', k e g'' ∧ E''.w = E'.w ∧ SimG W0 okIn B g'' E'' a' := by
      rintro ⟨g'', h4, h5⟩
      obtain ⟨E'', h6, h7⟩ := h5 W0 okIn B E' a' h3
      exact ⟨g'', E'', h4, h6, h7⟩
    cases e with
    | normal =>
      obtain ⟨i', h4, h5, h6⟩ := h1
      obtain ⟨E'', h7, h8⟩ := h6 W0 okIn B E' a' h3
      exact ⟨m i', h5, i', E'', rfl, h4, h7, h8⟩
    | _ => exact key h1

theorem SubOK.refl (g : Ga) : SubOK g g := fun _ _ _ E _ h => ⟨E, rfl, h⟩
theorem SubOK.trans {g1 g2 g3 : Ga} (h : SubOK g1 g2) (h' : SubOK g2 g3) : SubOK g1 g3 := fun W0 okIn B E a hs => by
  obtain ⟨E', h1, h2⟩ := h W0 okIn B E a hs
  obtain ⟨E'', h3, h4⟩ := h' W0 okIn B E' a h2
  exact ⟨E'', h3.trans h1, h4⟩
theorem SubOK.nt {g g' : Ga} (h : SubOK g g') {W0 : WX} {okIn B : Nat → Prop} {E : Env} {a : Act} (hs : SimG W0 okIn B g E a) : g'.nt = g.nt := by
  obtain ⟨E', _, h2⟩ := h W0 okIn B E a hs
  exact h2.size.symm.trans hs.size
theorem frc_sub {α : Sort u} (g : Ga) (k : Ga → α) : ∃ g', g.frc k = k g' ∧ SubOK g g' := by
  obtain ⟨g', h1, h2⟩ := frc_spec g k
  exact ⟨g', h1, fun W0 okIn B E a h => ⟨E, rfl, h2 W0 okIn B E a h⟩⟩

theorem Trip.sub {P : Program} [Tabs P] {c : Code} {g g' : Ga} {k : Exit → Ga → Prop} (hs : SubOK g g') (h : Trip P c g' k) : Trip P c g k := by
  intro W0 okIn B E a hT hg
  obtain ⟨E', h1, h2⟩ := hs W0 okIn B E a hg
  rw [← h1]
  exact h W0 okIn B E' a hT h2

/-- A condition that may be laid upon all states that there are. -/
theorem Trip.of_inh {P : Program} [Tabs P] {c : Code} {g : Ga} {k : Exit → Ga → Prop} (h : (∃ W0 okIn B E a, SimG W0 okIn B g E a) → Trip P c g k) : Trip P c g k := by
  intro W0 okIn B E a hT hs
  exact h ⟨W0, okIn, B, E, a, hs⟩ W0 okIn B E a hT hs

universe v
theorem frcT_nat {α : Sort u} {β : Sort v} (f : α → β) : ∀ (l : List (Nat × AV)) (s : Nat) (k : List (Nat × AV) → α), f (frcT s l k) = frcT s l fun l' => f (k l')
  | [], s, k => rfl
  | (n, v) :: r, s, k => by
    rw [frcT_cons, frcT_cons]
    split
    · exact frcT_nat f r s k
    · rw [fv_eq, fv_eq]; exact frcT_nat f r _ _
theorem frcU_nat {α : Sort u} {β : Sort v} (f : α → β) : ∀ (l : Upd) (s : Nat) (k : Upd → α), f (frcU s l k) = frcU s l fun l' => f (k l')
  | [], s, k => rfl
  | (n, o) :: r, s, k => by
    rw [frcU_cons, frcU_cons]
    split
    · exact frcU_nat f r s k
    · simp only [frcN_eq, frcO_eq]
      cases o with
      | none => exact frcU_nat f r _ k
      | some o => exact frcU_nat f r _ _
theorem frc_nat {α : Sort u} {β : Sort v} (f : α → β) (g : Ga) (k : Ga → α) : f (g.frc k) = g.frc fun g' => f (k g') := by
  obtain ⟨tm, ob, nx, nt⟩ := g
  simp only [Ga.frc]
  rw [frcT_nat f]
  congr 1
  funext tm'
  rw [frcU_nat f]
  congr 1
  funext ob'
  rw [frcN_eq, frcN_eq]

theorem evObs_mono {l : List Prop} {q q' : Prop} (h : q → q') (hq : evObs l q) : evObs l q' := by
  obtain ⟨h1, h2⟩ := evObs_iff.1 hq
  exact evObs_iff.2 ⟨h1, h h2⟩
theorem splA_mono {v : AV} {k k' : AV → Prop} (h : ∀ v, k v → k' v) (hk : splA v k) : splA v k' := by
  cases v <;> try exact h _ hk
  rename_i c a b
  simp only [splA, fv_eq] at hk ⊢
  exact ⟨fun hc => h _ (hk.1 hc), fun hc => h _ (hk.2 hc)⟩
theorem app_mono {d : Option Nat} {v : AV} {u : Upd} {k k' : Ga → Prop} {g : Ga} (h : ∀ g, k g → k' g) (hk : Ga.app g d v u k) : Ga.app g d v u k' := by
  obtain ⟨tm, ob, nx, nt⟩ := g
  rw [Ga.app_eq] at hk ⊢
  cases d <;> exact h _ hk
theorem evOps_mono {P : Program} {C : Ctx} {all : List Oper} {k k' : List Tr → Ga → Prop} (h : ∀ tr g, k tr g → k' tr g) : ∀ (ops : List Oper) (i : Nat) (g : Ga), evOps P C all i ops g k → evOps P C all i ops g k' := by
  intro ops
  induction ops generalizing k k' with
  | nil => intro i g hk; exact h _ _ hk
  | cons o r ih =>
    intro i g hk
    rw [evOps_cons] at hk ⊢
    obtain ⟨tm, ob, nx, nt⟩ := g
    unfold evOp at hk ⊢
    simp only at hk ⊢
    split at hk
    · exact hk.elim
    · rename_i hd
      (try simp only [hd])
      split at hk
      · exact hk.elim
      · rename_i hg
        (try simp only [hg])
        rw [frcN_eq] at hk ⊢
        split at hk
        · exact hk.elim
        · rename_i hop
          (try simp only [hop])
          exact evObs_mono (splA_mono fun v => app_mono fun g => ih (fun tr g' => h _ g') _ _) hk
      · rename_i c hg
        (try simp only [hg])
        rw [frcN_eq] at hk ⊢
        split at hk
        · rename_i hop
          (try simp only [hop])
          obtain ⟨h1, h2⟩ := evObsC_iff.1 hk
          exact evObsC_iff.2 ⟨h1, app_mono (fun g => ih (fun tr g' => h _ g') _ _) h2⟩
        · exact hk.elim
theorem frcT_mono : ∀ (l : List (Nat × AV)) (s : Nat) {k k' : List (Nat × AV) → Prop}, (∀ g, k g → k' g) → frcT s l k → frcT s l k'
  | [], s, k, k', h, hk => h _ hk
  | (n, v) :: r, s, k, k', h, hk => by
    rw [frcT_cons] at hk ⊢
    split
    · rename_i hb; simp only [hb] at hk; exact frcT_mono (k := k) (k' := k') r s h hk
    · rename_i hb; simp only [hb, fv_eq] at hk ⊢; exact frcT_mono (k := fun q => k ((n, v) :: q)) (k' := fun q => k' ((n, v) :: q)) r _ (fun g => h _) hk
theorem frcU_mono : ∀ (l : Upd) (s : Nat) {k k' : Upd → Prop}, (∀ g, k g → k' g) → frcU s l k → frcU s l k'
  | [], s, k, k', h, hk => h _ hk
  | (n, o) :: r, s, k, k', h, hk => by
    rw [frcU_cons] at hk ⊢
    split
    · rename_i hb; simp only [hb] at hk; exact frcU_mono (k := k) (k' := k') r s h hk
    · rename_i hb
      simp only [hb, frcN_eq, frcO_eq] at hk ⊢
      cases o with
      | none => exact frcU_mono (k := k) (k' := k') r _ h hk
      | some o => exact frcU_mono (k := fun q => k ((n, some o) :: q)) (k' := fun q => k' ((n, some o) :: q)) r _ (fun g => h _) hk
theorem frc_mono {k k' : Ga → Prop} (h : ∀ g, k g → k' g) {g : Ga} (hk : g.frc k) : g.frc k' := by
  obtain ⟨tm, ob, nx, nt⟩ := g
  simp only [Ga.frc, frcN_eq] at hk ⊢
  exact frcT_mono tm 0 (fun tm' => frcU_mono ob 0 fun ob' => h _) hk
theorem ev_mono {P : Program} [Tabs P] {C : Ctx} : ∀ {c : Code} {k k' : Exit → Ga → Prop} {g : Ga}, ev P C c g k → (∀ e g, k e g → k' e g) → ev P C c g k' := by
  intro c
  induction c with
  | skip => intro k k' g hk h; exact h _ _ hk
  | label l => intro k k' g hk h; exact h _ _ hk
  | exit id => intro k k' g hk h; exact h _ _ hk
  | ret => intro k k' g hk h; exact h _ _ hk
  | refuse why => intro k k' g hk h; exact hk
  | goto l => intro k k' g hk h; exact hk
  | scope c ih => intro k k' g hk h; exact hk
  | rangeFunc f p x y ih1 ih2 => intro k k' g hk h; exact hk
  | loop c ih => intro k k' g hk h; exact ⟨hk.out.mono h⟩
  | region id ops draw =>
    intro k k' g hk h
    rw [ev_region] at hk ⊢
    cases draw with
    | false => exact evOps_mono (fun tr g' => frc_mono fun g'' => h _ g'') _ _ _ hk
    | true => exact evOps_mono (fun tr g' hh => ⟨hh.1, frc_mono (fun g'' => h _ g'') hh.2⟩) _ _ _ hk
  | seq a b iha ihb =>
    intro k k' g hk h
    rw [ev_seq] at hk ⊢
    refine iha hk fun e g' hh => ?_
    cases e <;> first
      | exact ihb hh h
      | exact h _ _ hh
  | cond c a b iha ihb =>
    intro k k' g hk h
    rw [ev_cond] at hk ⊢
    split at hk
    · rename_i t ht; (try simp only [ht]); exact ⟨fun hh => iha (hk.1 hh) h, fun hh => ihb (hk.2 hh) h⟩
    · rename_i w t ht; (try simp only [ht]); exact ⟨hk.1, fun hh => iha (hk.2.1 hh) h, fun hh => ihb (hk.2.2 hh) h⟩
    · exact hk.elim
  | block id c ih =>
    intro k k' g hk h
    rw [ev_block] at hk ⊢
    refine ih hk fun e g' hh => ?_
    cases e <;> try exact h _ _ hh
    rename_i id'
    revert hh
    show (match Nat.beq id' id with | true => k .normal g' | false => k (.exit id') g') → (match Nat.beq id' id with | true => k' .normal g' | false => k' (.exit id') g')
    cases hb : Nat.beq id' id with
    | true => exact h _ _
    | false => exact h _ _

theorem lkL_mem {LS : List (Nat × LoopD)} {k : Option Nat} {D : LoopD} (h : lkL LS k = some D) : ∃ n, (n, D) ∈ LS := by
  cases k with
  | none => simp [lkL] at h
  | some k =>
    have : ∀ (l : List (Nat × LoopD)), lkL.go l k = some D → ∃ n, (n, D) ∈ l := by
      intro l
      induction l with
      | nil => intro h; simp [lkL.go] at h
      | cons a r ih =>
        intro h
        obtain ⟨m, x⟩ := a
        simp only [lkL.go] at h
        split at h
        · simp only [Option.some.injEq] at h; subst h; exact ⟨m, by simp⟩
        · obtain ⟨n, hn⟩ := ih h; exact ⟨n, by simp [hn]⟩
    exact this LS h

/-- What the typed evaluator says the first one says. -/
theorem evO_ev {P : Program} [Tabs P] {CO : CtxO} {LS : List (Nat × LoopD)} {R : Type} {ret : RetF R} (hC : CtxOK P (ctxOf CO)) (hmix : P.follows .mixedOrders = true) (hL : ∀ n D, (n, D) ∈ LS → D.OK) (hr : ret.Nat) :
    ∀ (c : Code) (X : Type) (inj : R → X) (g : Ga) (k : Exit → Ga → Option X) (x : X), evO std P CO LS ret c X inj g k = some x → ev P (ctxOf CO) c g (outK ret inj k x) := by
  intro c
  induction c with
  | skip => intro X inj g k x h; exact h
  | label l => intro X inj g k x h; exact h
  | exit id => intro X inj g k x h; exact h
  | ret => intro X inj g k x h; exact h
  | refuse why => intro X inj g k x h; exact absurd h (by simp [evO])
  | goto l => intro X inj g k x h; exact absurd h (by simp [evO])
  | scope c ih => intro X inj g k x h; exact absurd h (by simp [evO])
  | rangeFunc f p x y ih1 ih2 => intro X inj g k x h; exact absurd h (by simp [evO])
  | region id ops draw =>
    intro X inj g k x h
    rw [ev_region]
    cases draw with
    | false =>
      refine evOps_mono (fun tr g' hk => ?_) _ _ _ (evOpsO_ev _ _ _ _ h)
      rw [frc_nat (fun z => z = some x)] at hk
      exact hk
    | true =>
      refine evOps_mono (fun tr g' hk => ?_) _ _ _ (evOpsO_ev _ _ _ _ h)
      split at hk
      · rename_i hc
        rw [frc_nat (fun z => z = some x)] at hk
        exact ⟨⟨hc⟩, hk⟩
      · simp at hk
  | seq a b iha ihb =>
    intro X inj g k x h
    rw [ev_seq]
    refine ev_mono (iha X inj g _ x h) fun e g' hk => ?_
    cases e <;> first
      | exact ihb X inj g' k x hk
      | exact hk
  | cond c a b iha ihb =>
    intro X inj g k x h
    rw [ev_cond]
    have h' : (match opv (lkA g.tmps) c with
      | .bool t => cnd t (evO std P CO LS ret a X inj (g.setB c true) k) (evO std P CO LS ret b X inj (g.setB c false) k)
      | .when w (.bool t) => chk (w = true) (cnd t (evO std P CO LS ret a X inj g k) (evO std P CO LS ret b X inj g k))
      | _ => none) = some x := h
    split at h'
    · rename_i t ht
      simp only [ht]
      cases t
      · exact ⟨fun hh => by simp at hh, fun _ => ihb X inj _ k x h'⟩
      · exact ⟨fun _ => iha X inj _ k x h', fun hh => by simp at hh⟩
    · rename_i w t ht
      simp only [ht]
      obtain ⟨hw, h'⟩ := chk_some h'
      refine ⟨⟨hw⟩, ?_⟩
      cases t
      · exact ⟨fun hh => by simp at hh, fun _ => ihb X inj g k x h'⟩
      · exact ⟨fun _ => iha X inj g k x h', fun hh => by simp at hh⟩
    · simp at h'
  | block id c ih =>
    intro X inj g k x h
    rw [ev_block]
    refine ev_mono (ih X inj g _ x h) fun e g' hk => ?_
    cases e <;> try exact hk
    rename_i id'
    revert hk
    show (match Nat.beq id' id with | true => k .normal g' | false => k (.exit id') g') = some x → (match Nat.beq id' id with | true => outK ret inj k x .normal g' | false => outK ret inj k x (.exit id') g')
    cases hb : Nat.beq id' id with
    | true => exact fun h => h
    | false => exact fun h => h
  | loop c ih =>
    intro X inj g k x h
    have h' : (match lkL LS (loopKey c) with
      | none => none
      | some D => match D.dec g with
        | none => none
        | some (q, s) => chks std q (bnd (loopM (fun s => (D.enc s).frc fun g' => evO std P CO LS ret c (D.S ⊕ (D.T ⊕ R)) (fun r => .inr (.inr r)) g' (bodyK std D)) s) fun o => sumO o (fun t => (D.eenc t).frc fun g' => k (.exit D.exit) g') (fun r => some (inj r)))) = some x := h
    split at h'
    · simp at h'
    rename_i D hD
    have hDo := hL _ _ (lkL_mem hD).choose_spec
    split at h'
    · simp at h'
    rename_i q s hdec
    obtain ⟨hq, h'⟩ := chks_some h'
    obtain ⟨o, ho, h'⟩ := bnd_some h'
    obtain ⟨n, hn⟩ := loopM_iff.1 ho
    refine ⟨Trip.loop' (ι := Nat × D.S) (fun p => D.enc p.2) (fun p => iterM (fun s => (D.enc s).frc fun g' => evO std P CO LS ret c (D.S ⊕ (D.T ⊕ R)) (fun r => .inr (.inr r)) g' (bodyK std D)) p.1 p.2 = some o) (fun p => p.1) (n, s) hn (hDo.dec g q s hdec hq) ?_⟩
    rintro ⟨m, s⟩ hm
    simp only at hm
    cases m with
    | zero => simp [iterM] at hm
    | succ m =>
      obtain ⟨g', hg', hsub⟩ := frc_sub (D.enc s) fun g' => evO std P CO LS ret c (D.S ⊕ (D.T ⊕ R)) (fun r => .inr (.inr r)) g' (bodyK std D)
      refine Trip.sub hsub ?_
      simp only [iterM, hg'] at hm
      have key : ∀ y, evO std P CO LS ret c (D.S ⊕ (D.T ⊕ R)) (fun r => .inr (.inr r)) g' (bodyK std D) = some y → (∀ s', y = .inl s' → iterM (fun s => (D.enc s).frc fun g' => evO std P CO LS ret c (D.S ⊕ (D.T ⊕ R)) (fun r => .inr (.inr r)) g' (bodyK std D)) m s' = some o) →
          (∀ z, y = .inr z → z = o) → Trip P c g' fun e g' => match e with
            | .normal => ∃ i' : Nat × D.S, iterM (fun s => (D.enc s).frc fun g' => evO std P CO LS ret c (D.S ⊕ (D.T ⊕ R)) (fun r => .inr (.inr r)) g' (bodyK std D)) i'.1 i'.2 = some o ∧ i'.1 < m + 1 ∧ SubOK g' (D.enc i'.2)
            | e => ∃ g'', outK ret inj k x e g'' ∧ SubOK g' g'' := by
        intro y hy h1 h2
        refine (ev_sound hC hmix _ _ _ (ih _ _ _ _ y hy)).mono fun e g1 hk => ?_
        cases e with
        | normal =>
          have hk' : (match D.dec g1 with
            | some (q, s) => chks std q (some (.inl s))
            | none => none) = some y := hk
          split at hk'
          · rename_i q1 s1 hd1
            obtain ⟨hq1, hy1⟩ := chks_some hk'
            simp only [Option.some.injEq] at hy1
            exact ⟨(m, s1), h1 s1 hy1.symm, Nat.lt_succ_self m, hDo.dec _ _ _ hd1 hq1⟩
          · simp at hk'
        | exit id =>
          have hk' : (match Nat.beq id D.exit with
            | true => match D.edec g1 with
              | some (q, t) => chks std q (some (.inr (.inl t)))
              | none => none
            | false => none) = some y := hk
          split at hk'
          · rename_i hb
            split at hk'
            · rename_i q1 t1 hd1
              obtain ⟨hq1, hy1⟩ := chks_some hk'
              simp only [Option.some.injEq] at hy1
              have := h2 _ hy1.symm
              subst this
              simp only [sumO] at h'
              obtain ⟨g3, hg3, hs3⟩ := frc_sub (D.eenc t1) fun g' => k (.exit D.exit) g'
              rw [hg3] at h'
              refine ⟨g3, ?_, (hDo.edec _ _ _ hd1 hq1).trans hs3⟩
              rw [beq_true hb]
              exact h'
            · simp at hk'
          · simp at hk'
        | ret =>
          have hk' : ret _ g1 (fun r => some (.inr (.inr r))) = some y := hk
          obtain ⟨r, hr1, hr2⟩ := hr.nat _ _ _ _ hk'
          simp only [Option.some.injEq] at hr1
          have := h2 _ hr1.symm
          subst this
          simp only [sumO] at h'
          refine ⟨g1, ?_, SubOK.refl g1⟩
          show ret X g1 _ = some x
          rw [hr2]; exact h'
        | goto l => simp [outK, bodyK] at hk
        | panic ch => simp [outK, bodyK] at hk
        | outgrown => simp [outK, bodyK] at hk
      split at hm
      · simp at hm
      · rename_i s' hs'
        exact key _ hs' (fun s1 h1 => by simp only [Sum.inl.injEq] at h1; subst h1; exact hm) (fun z hz => by simp at hz)
      · rename_i y hy
        exact key _ hy (fun s1 h1 => by simp at h1) (fun z hz => by simp only [Sum.inr.injEq] at hz; subst hz; simpa using hm)

end Go.Tr
