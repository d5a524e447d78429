/- Shapes of states: closed data out of a state, and back; a state so laid anew says no more.
   Conditions: none. -/
import Derived.Test.YtbdgfpfafcjmgaaDoorUA
namespace Go.Tr
open Go
set_option linter.unusedVariables false
set_option linter.unusedSimpArgs false

/-- The shape of one cell. -/
inductive LD where
  | int (k : IntKind) | bool | str | sl (e : Sh) | own (n : Nat) (e : Sh) | ptr (n off : Nat) | epr (n : Nat) (e : Sh) (off : Nat) | fpt (e : Sh) (off : Nat)
  | nilp | nilif | nilf | junk

@[reducible] def LD.T : LD → Type
  | .int _ => Int
  | .bool => Bool
  | .str => List UInt8
  | .sl e => List e.T
  | .epr _ _ _ => Nat
  | .fpt e _ => e.T
  | _ => Unit

def LD.enc : (d : LD) → d.T → AV
  | .int k, n => .int k n
  | .bool, b => .bool b
  | .str, l => .str l
  | .sl e, xs => .fsl e xs
  | .own n e, _ => .own n e
  | .ptr n off, _ => .ptr n off
  | .epr n e off, i => .epr n e i off
  | .fpt e off, x => .fpt e x off
  | .nilp, _ => .nilp
  | .nilif, _ => .nilif
  | .nilf, _ => .nilf
  | .junk, _ => .junk

@[reducible] def consT (d : LD) (R : Type) : Type :=
  match d with
  | .int _ => Int × R
  | .bool => Bool × R
  | .str => List UInt8 × R
  | .sl e => List e.T × R
  | .epr _ _ _ => Nat × R
  | .fpt e _ => e.T × R
  | _ => R
def mkC {R : Type} : (d : LD) → d.T → R → consT d R
  | .int _, a, r => (a, r)
  | .bool, a, r => (a, r)
  | .str, a, r => (a, r)
  | .sl _, a, r => (a, r)
  | .epr _ _ _, a, r => (a, r)
  | .fpt _ _, a, r => (a, r)
  | .own _ _, _, r => r
  | .ptr _ _, _, r => r
  | .nilp, _, r => r
  | .nilif, _, r => r
  | .nilf, _, r => r
  | .junk, _, r => r
def hdC {R : Type} : (d : LD) → consT d R → d.T
  | .int _, x => Prod.fst x
  | .bool, x => Prod.fst x
  | .str, x => Prod.fst x
  | .sl _, x => Prod.fst x
  | .epr _ _ _, x => Prod.fst x
  | .fpt _ _, x => Prod.fst x
  | .own _ _, _ => ()
  | .ptr _ _, _ => ()
  | .nilp, _ => ()
  | .nilif, _ => ()
  | .nilf, _ => ()
  | .junk, _ => ()
def tlC {R : Type} : (d : LD) → consT d R → R
  | .int _, x => Prod.snd x
  | .bool, x => Prod.snd x
  | .str, x => Prod.snd x
  | .sl _, x => Prod.snd x
  | .epr _ _ _, x => Prod.snd x
  | .fpt _ _, x => Prod.snd x
  | .own _ _, x => x
  | .ptr _ _, x => x
  | .nilp, x => x
  | .nilif, x => x
  | .nilf, x => x
  | .junk, x => x
theorem hd_mk {R : Type} (d : LD) (a : d.T) (r : R) : hdC d (mkC d a r) = a := by cases d <;> rfl
theorem tl_mk {R : Type} (d : LD) (a : d.T) (r : R) : tlC d (mkC d a r) = r := by cases d <;> rfl

/-! ### Names -/

def keptB (n : Nat) : List (Nat × Nat) → Bool
  | [] => false
  | (_, m) :: r => match Nat.beq n m with
    | true => true
    | false => keptB n r
def injR : List (Nat × Nat) → Bool
  | [] => true
  | (_, m) :: r => match keptB m r with
    | true => false
    | false => injR r
/-- Names below 16 stand for themselves. -/
def lowR : List (Nat × Nat) → Bool
  | [] => true
  | (i, n) :: r => match Nat.blt i 16 with
    | true => match Nat.beq i n with
      | true => lowR r
      | false => false
    | false => match Nat.blt n 16 with
      | true => false
      | false => lowR r
def nmEq (rn : List (Nat × Nat)) (i n : Nat) : Bool :=
  match lkA rn i with
  | some m => Nat.beq n m
  | none => false
def frzName (v : AV) : Option Nat :=
  match v with
  | .own n _ => some n
  | .rsl n _ _ _ => some n
  | .csl n _ _ => some n
  | _ => none

/-- May a name be frozen? -/
def fzOk (fz : Option (List Nat)) (n : Nat) : Bool :=
  match fz with
  | none => true
  | some l => memN n l

/-- A slice of closed data, frozen, if no kept name is in it. -/
def slF (fz : Option (List Nat)) (rn : List (Nat × Nat)) (ob : Nat → Option AO) (e : Sh) (v : AV) : Option (List Prop × List e.T) :=
  match v with
  | .nilsl => some ([], [])
  | .fsl e' xs => if h : e' = e then some ([], h ▸ xs) else none
  | v => match frzName v with
    | some n => match keptB n rn, fzOk fz n with
      | false, true => match readA ob e v with
        | some (xs, q) => some (q, xs)
        | none => none
      | _, _ => none
    | none => none

def ptF (fz : Option (List Nat)) (rn : List (Nat × Nat)) (ob : Nat → Option AO) (e : Sh) (off : Nat) (v : AV) : Option e.T :=
  match v with
  | .fpt e' x off' => match Nat.beq off off' with
    | true => if h : e' = e then some (h ▸ x) else none
    | false => none
  | .ptr n off' => match Nat.beq off off' with
    | true => match keptB n rn, fzOk fz n with
      | false, true => match ob n with
        | some (.cells l) => match decS e l with
          | some (x, []) => some x
          | _ => none
        | some (.fcl l) => match decS e l with
          | some (x, []) => some x
          | _ => none
        | _ => none
      | _, _ => none
    | false => none
  | _ => none

def LD.dec (fz : Option (List Nat)) (rn : List (Nat × Nat)) (ob : Nat → Option AO) : (d : LD) → AV → Option (List Prop × d.T)
  | .int k, v => match v with
    | .int k' n => if k = k' then some ([], n) else none
    | _ => none
  | .bool, v => match v with
    | .bool b => some ([], b)
    | _ => none
  | .str, v => match v with
    | .str l => some ([], l)
    | _ => none
  | .sl e, v => slF fz rn ob e v
  | .own i e, v => match v with
    | .own n e' => match nmEq rn i n with
      | true => if e' = e then some ([], ()) else none
      | false => none
    | .nilsl => match lkA rn i with
      | none => some ([], ())
      | some _ => none
    | _ => none
  | .ptr i off, v => match v with
    | .ptr n off' => match nmEq rn i n, Nat.beq off off' with
      | true, true => some ([], ())
      | _, _ => none
    | _ => none
  | .epr i e off, v => match v with
    | .epr n e' j off' => match nmEq rn i n, Nat.beq off off' with
      | true, true => if e' = e then some ([], j) else none
      | _, _ => none
    | _ => none
  | .fpt e off, v => match ptF fz rn ob e off v with
    | some x => some ([], x)
    | none => none
  | .nilp, v => match v with
    | .nilp => some ([], ())
    | _ => none
  | .nilif, v => match v with
    | .nilif => some ([], ())
    | _ => none
  | .nilf, v => match v with
    | .nilf => some ([], ())
    | _ => none
  | .junk, v => match leafA v with
    | true => some ([], ())
    | false => none

/-- A closed datum out of cells, with its slices frozen. -/
def decF (fz : Option (List Nat)) (rn : List (Nat × Nat)) (ob : Nat → Option AO) : (s : Sh) → List AV → Option (List Prop × s.T × List AV)
  | .int k, l => match l with
    | .int k' n :: r => if k = k' then some ([], n, r) else none
    | _ => none
  | .bool, l => match l with
    | .bool x :: r => some ([], x, r)
    | _ => none
  | .str, l => match l with
    | .str x :: r => some ([], x, r)
    | _ => none
  | .sl e, l => match l with
    | v :: r => match slF fz rn ob e v with
      | some (q, xs) => some (q, xs, r)
      | none => none
    | [] => none
  | .unit, l => some ([], (), l)
  | .arr _ _, _ => none
  | .pair a b, l => match decF fz rn ob a l with
    | some (p, x, r) => match decF fz rn ob b r with
      | some (q, y, r') => some (appA p q, ((x, y) : a.T × b.T), r')
      | none => none
    | none => none

/-! ### Shapes of values, objects, states -/

inductive VD where
  | leaf (d : LD) | grp (s : Sh) | agg (l : List LD) | fn (f : FuncId) (x y : List LD)
inductive OD where
  | rows (e : Sh) | cells (l : List LD) | grp (s : Sh)

@[reducible] def ldsTo : List LD → Type → Type
  | [], R => R
  | d :: l, R => consT d (ldsTo l R)
def ldsDec {R : Type} (fz : Option (List Nat)) (rn : List (Nat × Nat)) (ob : Nat → Option AO) : (l : List LD) → List AV → Option (List Prop × R) → Option (List Prop × ldsTo l R)
  | [], vs, r => match vs with
    | [] => r
    | _ :: _ => none
  | d :: l, vs, r => match vs with
    | v :: vs => match LD.dec fz rn ob d v, ldsDec fz rn ob l vs r with
      | some (p, x), some (q, y) => some (appA p q, mkC d x y)
      | _, _ => none
    | [] => none
def ldsEnc {R : Type} : (l : List LD) → ldsTo l R → List AV × R
  | [], x => ([], x)
  | d :: l, x => match ldsEnc l (tlC d x) with
    | (vs, r) => (d.enc (hdC d x) :: vs, r)

@[reducible] def VD.To (v : VD) (R : Type) : Type :=
  match v with
  | .leaf d => consT d R
  | .grp s => s.T × R
  | .agg l => ldsTo l R
  | .fn _ x y => ldsTo x (ldsTo y R)
def VD.dec {R : Type} (fz : Option (List Nat)) (rn : List (Nat × Nat)) (ob : Nat → Option AO) : (v : VD) → AV → Option (List Prop × R) → Option (List Prop × v.To R)
  | .leaf d, a, r => match LD.dec fz rn ob d a, r with
    | some (p, x), some (q, y) => some (appA p q, mkC d x y)
    | _, _ => none
  | .grp s, a, r => match a with
    | .agg l => match s.flat, decF fz rn ob s l, r with
      | true, some (p, x, []), some (q, y) => some (appA p q, (x, y))
      | _, _, _ => none
    | _ => none
  | .agg ds, a, r => match a with
    | .agg l => ldsDec fz rn ob ds l r
    | _ => none
  | .fn f x y, a, r => match a with
    | .fn f' p q => match Nat.beq f' f with
      | true => ldsDec fz rn ob x p (ldsDec fz rn ob y q r)
      | false => none
    | _ => none
def VD.enc {R : Type} : (v : VD) → v.To R → AV × R
  | .leaf d, x => (d.enc (hdC d x), tlC d x)
  | .grp s, x => (.agg (Go.Tr.enc s (Prod.fst x)), Prod.snd x)
  | .agg ds, x => match ldsEnc ds x with
    | (l, r) => (.agg l, r)
  | .fn f a b, x => match ldsEnc a x with
    | (p, y) => match ldsEnc b y with
      | (q, r) => (.fn f p q, r)

@[reducible] def OD.To (o : OD) (R : Type) : Type :=
  match o with
  | .rows e => List e.T × R
  | .cells l => ldsTo l R
  | .grp s => s.T × R
def OD.dec {R : Type} (st : Bool) (fz : Option (List Nat)) (rn : List (Nat × Nat)) (ob : Nat → Option AO) (i : Nat) : (o : OD) → Option (List Prop × R) → Option (List Prop × o.To R)
  | .rows e, r => match lkA rn i with
    | some n => match ob n with
      | some (.rows e' xs) => match r with
        | some (q, y) => if h : e' = e then some (q, (h ▸ xs, y)) else none
        | none => none
      | _ => none
    | none => match st && Nat.blt i 16 with
      | true => none
      | false => match r with
        | some (q, y) => some (q, ([], y))
        | none => none
  | .cells ds, r => match lkA rn i with
    | some n => match ob n with
      | some (.cells l) => ldsDec fz rn ob ds l r
      | _ => none
    | none => none
  | .grp s, r => match lkA rn i with
    | some n => match ob n with
      | some (.cells l) => match s.flat, decF fz rn ob s l, r with
        | true, some (p, x, []), some (q, y) => some (appA p q, (x, y))
        | _, _, _ => none
      | _ => none
    | none => none
def OD.enc {R : Type} : (o : OD) → o.To R → AO × R
  | .rows e, x => (.rows e (Prod.fst x), Prod.snd x)
  | .cells ds, x => match ldsEnc ds x with
    | (l, r) => (.cells l, r)
  | .grp s, x => (.cells (Go.Tr.enc s (Prod.fst x)), Prod.snd x)

@[reducible] def tmTo : List (Nat × VD) → Type → Type
  | [], R => R
  | (_, v) :: l, R => v.To (tmTo l R)
def tmDec {R : Type} (fz : Option (List Nat)) (rn : List (Nat × Nat)) (ob : Nat → Option AO) (tm : Nat → Option AV) : (l : List (Nat × VD)) → Option (List Prop × R) → Option (List Prop × tmTo l R)
  | [], r => r
  | (t, v) :: l, r => match tm t with
    | some a => VD.dec fz rn ob v a (tmDec fz rn ob tm l r)
    | none => none
def tmEnc {R : Type} : (l : List (Nat × VD)) → tmTo l R → List (Nat × AV) × R
  | [], x => ([], x)
  | (t, v) :: l, x => match v.enc x with
    | (a, y) => match tmEnc l y with
      | (tm, r) => ((t, a) :: tm, r)
@[reducible] def obTo : List (Nat × OD) → Type → Type
  | [], R => R
  | (_, o) :: l, R => o.To (obTo l R)
def obDec {R : Type} (st : Bool) (fz : Option (List Nat)) (rn : List (Nat × Nat)) (ob : Nat → Option AO) : (l : List (Nat × OD)) → Option (List Prop × R) → Option (List Prop × obTo l R)
  | [], r => r
  | (i, o) :: l, r => OD.dec st fz rn ob i o (obDec st fz rn ob l r)
def obEnc {R : Type} : (l : List (Nat × OD)) → obTo l R → Upd × R
  | [], x => ([], x)
  | (i, o) :: l, x => match o.enc x with
    | (a, y) => match obEnc l y with
      | (u, r) => ((i, some a) :: u, r)

/-! ### Which names go with which -/

def addN2 (i n : Nat) (rn : List (Nat × Nat)) : List (Nat × Nat) :=
  match lkA rn i with
  | some _ => rn
  | none => (i, n) :: rn
def LD.uni (d : LD) (v : AV) (rn : List (Nat × Nat)) : List (Nat × Nat) :=
  match d with
  | .own i _ => match v with
    | .own n _ => addN2 i n rn
    | _ => rn
  | .ptr i _ => match v with
    | .ptr n _ => addN2 i n rn
    | _ => rn
  | .epr i _ _ => match v with
    | .epr n _ _ _ => addN2 i n rn
    | _ => rn
  | _ => rn
def ldsUni : List LD → List AV → List (Nat × Nat) → List (Nat × Nat)
  | [], _, rn => rn
  | d :: l, vs, rn => match vs with
    | v :: vs => ldsUni l vs (d.uni v rn)
    | [] => rn
def VD.uni (d : VD) (v : AV) (rn : List (Nat × Nat)) : List (Nat × Nat) :=
  match d with
  | .leaf d => d.uni v rn
  | .grp _ => rn
  | .agg ds => match v with
    | .agg l => ldsUni ds l rn
    | _ => rn
  | .fn _ x y => match v with
    | .fn _ p q => ldsUni y q (ldsUni x p rn)
    | _ => rn
def tmUni (tm : Nat → Option AV) : List (Nat × VD) → List (Nat × Nat) → List (Nat × Nat)
  | [], rn => rn
  | (t, v) :: l, rn => match tm t with
    | some a => tmUni tm l (v.uni a rn)
    | none => rn
def obUni (ob : Nat → Option AO) : List (Nat × OD) → List (Nat × Nat) → List (Nat × Nat)
  | [], rn => rn
  | (i, o) :: l, rn => match o with
    | .cells ds => match lkA rn i with
      | some n => match ob n with
        | some (.cells vs) => obUni ob l (ldsUni ds vs rn)
        | _ => obUni ob l rn
      | none => obUni ob l rn
    | _ => obUni ob l rn
universe u
/-- Names laid open. -/
def frcR {α : Type u} : List (Nat × Nat) → (List (Nat × Nat) → Option α) → Option α
  | [], k => k []
  | (i, n) :: r, k => frcN i fun i' => frcN n fun n' => frcR r fun r' => k ((i', n') :: r')
theorem frcR_eq {α : Type u} : ∀ (l : List (Nat × Nat)) (k : List (Nat × Nat) → Option α), frcR l k = k l
  | [], k => rfl
  | (i, n) :: r, k => by simp only [frcR, frcN_eq, frcR_eq r]

structure StD where
  tmps : List (Nat × VD)
  objs : List (Nat × OD)
  next : Nat
  nt : Nat

@[reducible] def StD.T (D : StD) : Type := tmTo D.tmps (obTo D.objs Unit)
def StD.dec (D : StD) (g : Ga) : Option (List Prop × D.T) :=
  match Nat.beq g.nt D.nt with
  | true => frcR (obUni (lkO g.objs) D.objs (tmUni (lkA g.tmps) D.tmps [])) fun rn => match injR rn, lowR rn with
    | true, true => tmDec none rn (lkO g.objs) (lkA g.tmps) D.tmps (obDec true none rn (lkO g.objs) D.objs (some ([], ())))
    | _, _ => none
  | false => none
def StD.enc (D : StD) (x : D.T) : Ga :=
  match tmEnc D.tmps x with
  | (tm, y) => match obEnc D.objs y with
    | (ob, _) => ⟨tm, ob, D.next, D.nt⟩

def LD.okN (N : Nat) : LD → Bool
  | .own n _ => Nat.blt n N
  | .ptr n _ => Nat.blt n N
  | .epr n _ _ => Nat.blt n N
  | _ => true
def ldsOkN (N : Nat) : List LD → Bool
  | [] => true
  | d :: l => d.okN N && ldsOkN N l
def VD.okN (N : Nat) : VD → Bool
  | .leaf d => d.okN N
  | .grp _ => true
  | .agg l => ldsOkN N l
  | .fn _ x y => ldsOkN N x && ldsOkN N y
def tmOkN (N : Nat) : List (Nat × VD) → Bool
  | [] => true
  | (_, v) :: l => v.okN N && tmOkN N l
def OD.okN (N : Nat) : OD → Bool
  | .cells l => ldsOkN N l
  | _ => true
def obOkN (N : Nat) : List (Nat × OD) → Bool
  | [] => true
  | (i, o) :: l => Nat.blt i N && o.okN N && obOkN N l
def StD.wf (D : StD) : Bool := Nat.ble 16 D.next && tmOkN D.next D.tmps && obOkN D.next D.objs

/-! ### Soundness -/

def domO (l : List (Nat × OD)) (i : Nat) : Bool :=
  match l with
  | [] => false
  | (j, _) :: r => match Nat.beq i j with
    | true => true
    | false => domO r i

def convE (E : Env) (fz : Option (List Nat)) (rn : List (Nat × Nat)) (dom : Nat → Bool) : Env :=
  ⟨E.w, fun i => match dom i with
    | true => match lkA rn i with
      | some n => E.mu n
      | none => some ⟨none, 0, false, 0⟩
    | false => none,
   fun b => E.ok b ∨ ∃ n, owns E n b ∧ keptB n rn = false ∧ fzOk fz n = true⟩

theorem frzName_has {v : AV} {n m : Nat} (h : frzName v = some n) (hm : v.has m = true) : m = n := by
  unfold frzName at h
  split at h <;> first
    | (simp only [Option.some.injEq] at h; subst h; simp only [AV.has] at hm; exact beq_true hm)
    | simp at h

section
variable {W0 : WX} {okIn B us : Nat → Prop} {tm : Nat → Option AV} {ob : Nat → Option AO} {nt : Nat} {E : Env} {a : Act} {fz : Option (List Nat)} {rn : List (Nat × Nat)} {dom : Nat → Bool}

theorem slF_sound (hs : ObS E us ob) {e : Sh} {v : AV} {q : List Prop} {xs : List e.T} {z : Value} (h : slF fz rn ob e v = some (q, xs)) (hq : ∀ p ∈ q, p) (hx : VR E v z) :
    LRs E.w (convE E fz rn dom).ok (.sl e) xs [z] := by
  unfold slF at h
  split at h
  · simp only [Option.some.injEq, Prod.mk.injEq] at h
    obtain ⟨rfl, rfl⟩ := h
    simp only [VR] at hx
    subst hx
    exact ⟨none, 0, rfl, Nat.le_refl _, .inl rfl⟩
  · split at h
    · rename_i he
      subst he
      simp only [Option.some.injEq, Prod.mk.injEq] at h
      obtain ⟨rfl, rfl⟩ := h
      simp only [VR] at hx
      exact LRs.mono (fun _ _ => rfl) (fun _ h => .inl h) _ _ _ hx
    · simp at h
  · split at h
    · rename_i n hn
      split at h
      · rename_i hk hz
        split at h
        · rename_i xs' q' hr
          simp only [Option.some.injEq, Prod.mk.injEq] at h
          obtain ⟨rfl, rfl⟩ := h
          obtain ⟨base, cap, rfl, hc, hrest⟩ := readA_sound hs hr hq hx
          simp only [LRs]
          refine ⟨base, cap, rfl, hc, ?_⟩
          rcases hrest with h0 | ⟨b, o, rfl, hb, hrow⟩
          · exact .inl h0
          · refine .inr ⟨b, o, rfl, ?_, fun i hi => ?_⟩
            · rcases hb with hb | ⟨m, hm, hb⟩
              · exact .inl hb
              · have := frzName_has hn hm
                subst this
                exact .inr ⟨m, hb, hk, hz⟩
            · obtain ⟨cs, c1, c2, c3⟩ := hrow i hi
              exact ⟨cs, c1, c2, LRs.mono (fun _ _ => rfl) (fun _ h => .inl h) _ _ _ c3⟩
        · simp at h
      · simp at h
    · simp at h

theorem ptF_sound (hs : ObS E us ob) {e : Sh} {off : Nat} {v : AV} {x : e.T} {z : Value} (h : ptF fz rn ob e off v = some x) (hx : VR E v z) : VR (convE E fz rn dom) (.fpt e x off) z := by
  have key : ∀ {n : Nat} {l : List AV} {y : e.T}, (∃ b cs T fr L, E.mu n = some L ∧ L.base = some ⟨b, 0, none⟩ ∧ (E.ok b ∨ owns E n b) ∧ E.w.heap[b]? = some (.cells cs T fr) ∧ VRL E l cs.toList) → keptB n rn = false → fzOk fz n = true → decS e l = some (y, []) → VR E (.ptr n off) z →
      VR (convE E fz rn dom) (.fpt e y off) z := by
    rintro n l y ⟨b, cs, T, fr, L, g1, g2, g3, g4, g5⟩ hk hz hd hx
    simp only [VR] at hx
    obtain ⟨b', hb', rfl⟩ := hx.2 _ g1
    rw [g2] at hb'
    simp only [Option.some.injEq, Addr.mk.injEq, and_true] at hb'
    subst hb'
    have hl := decS_all hd g5
    simp only [VR]
    exact ⟨b, 0, cs.toList, by simp, g3.elim .inl (fun h => .inr ⟨n, h, hk, hz⟩), LRs.length _ _ _ hl, cells_row g4, LRs.mono (fun _ _ => rfl) (fun _ h => .inl h) _ _ _ hl⟩
  unfold ptF at h
  split at h
  · split at h
    · rename_i hb
      rw [beq_true hb]
      split at h
      · rename_i he
        subst he
        simp only [Option.some.injEq] at h
        subst h
        simp only [VR] at hx ⊢
        obtain ⟨b, o, cs, h1, h2, h3, h4, h5⟩ := hx
        exact ⟨b, o, cs, h1, .inl h2, h3, h4, LRs.mono (fun _ _ => rfl) (fun _ h => .inl h) _ _ _ h5⟩
      · simp at h
    · simp at h
  · split at h
    · rename_i hb
      rw [← beq_true hb] at hx
      split at h
      · rename_i hk hz
        split at h
        · rename_i l hob
          split at h
          · rename_i y hd
            simp only [Option.some.injEq] at h
            subst h
            obtain ⟨b, cs, T, fr, g1, g2, g3, g4⟩ := (hs.obj _ _ hob).1
            exact key ⟨b, cs, T, fr, _, g1, rfl, .inr ⟨_, g1, rfl, rfl⟩, g2, g4⟩ hk hz hd hx
          · simp at h
        · rename_i l hob
          split at h
          · rename_i y hd
            simp only [Option.some.injEq] at h
            subst h
            obtain ⟨b, cs, T, fr, g1, g0, g2, g4⟩ := (hs.obj _ _ hob).1
            exact key ⟨b, cs, T, fr, _, g1, rfl, .inl g0, g2, g4⟩ hk hz hd hx
          · simp at h
        · simp at h
      · simp at h
    · simp at h
  · simp at h

theorem convE_mu {i n : Nat} (h : nmEq rn i n = true) {L : Loc} (hL : (convE E fz rn dom).mu i = some L) : E.mu n = some L := by
  simp only [convE] at hL
  unfold nmEq at h
  split at h
  · rename_i m hm
    have := beq_true h
    subst this
    split at hL
    · rw [hm] at hL; exact hL
    · simp at hL
  · simp at h

theorem ld_sound (hs : ObS E us ob) {d : LD} {v : AV} {q : List Prop} {x : d.T} {z : Value} (h : LD.dec fz rn ob d v = some (q, x)) (hq : ∀ p ∈ q, p) (hx : VR E v z) :
    VR (convE E fz rn dom) (d.enc x) z := by
  cases d with
  | int k =>
    simp only [LD.dec] at h
    split at h
    · split at h
      · rename_i hk
        subst hk
        simp only [Option.some.injEq, Prod.mk.injEq] at h
        obtain ⟨rfl, rfl⟩ := h
        simpa only [LD.enc, VR] using hx
      · simp at h
    · simp at h
  | bool =>
    simp only [LD.dec] at h
    split at h
    · simp only [Option.some.injEq, Prod.mk.injEq] at h
      obtain ⟨rfl, rfl⟩ := h
      simpa only [LD.enc, VR] using hx
    · simp at h
  | str =>
    simp only [LD.dec] at h
    split at h
    · simp only [Option.some.injEq, Prod.mk.injEq] at h
      obtain ⟨rfl, rfl⟩ := h
      simpa only [LD.enc, VR] using hx
    · simp at h
  | sl e =>
    simp only [LD.dec] at h
    simp only [LD.enc, VR]
    exact slF_sound hs h hq hx
  | own i e =>
    simp only [LD.dec] at h
    split at h
    · split at h
      · rename_i hn
        split at h
        · rename_i he
          subst he
          simp only [LD.enc, VR] at hx ⊢
          exact ⟨hx.1, fun L hL => hx.2 L (convE_mu hn hL)⟩
        · simp at h
      · simp at h
    · split at h
      · rename_i hn
        simp only [LD.enc, VR] at hx ⊢
        subst hx
        refine ⟨trivial, fun L hL => ?_⟩
        simp only [convE, hn] at hL
        split at hL
        · simp only [Option.some.injEq] at hL; subst hL; rfl
        · simp at hL
      · simp at h
    · simp at h
  | ptr i off =>
    simp only [LD.dec] at h
    split at h
    · split at h
      · rename_i hn hb
        simp only [LD.enc, VR] at hx ⊢
        rw [beq_true hb]
        exact ⟨hx.1, fun L hL => hx.2 L (convE_mu hn hL)⟩
      · simp at h
    · simp at h
  | epr i e off =>
    simp only [LD.dec] at h
    split at h
    · split at h
      · rename_i hn hb
        split at h
        · rename_i he
          subst he
          simp only [Option.some.injEq, Prod.mk.injEq] at h
          obtain ⟨rfl, rfl⟩ := h
          simp only [LD.enc, VR] at hx ⊢
          rw [beq_true hb]
          exact ⟨hx.1, fun L hL => hx.2 L (convE_mu hn hL)⟩
        · simp at h
      · simp at h
    · simp at h
  | fpt e off =>
    simp only [LD.dec] at h
    split at h
    · rename_i y hy
      simp only [Option.some.injEq, Prod.mk.injEq] at h
      obtain ⟨rfl, rfl⟩ := h
      exact ptF_sound hs hy hx
    · simp at h
  | nilp =>
    simp only [LD.dec] at h
    split at h
    · simpa only [LD.enc, VR] using hx
    · simp at h
  | nilif =>
    simp only [LD.dec] at h
    split at h
    · simpa only [LD.enc, VR] using hx
    · simp at h
  | nilf =>
    simp only [LD.dec] at h
    split at h
    · simpa only [LD.enc, VR] using hx
    · simp at h
  | junk =>
    simp only [LD.dec] at h
    split at h
    · rename_i hl
      simp only [LD.enc, VR]
      exact leaf_of hl hx
    · simp at h

theorem decF_sound (hs : ObS E us ob) : ∀ {s : Sh} {l r : List AV} {q : List Prop} {x : s.T} {zs : List Value}, decF fz rn ob s l = some (q, x, r) → (∀ p ∈ q, p) → VRL E l zs →
    ∃ z1 z2, zs = z1 ++ z2 ∧ LRs E.w (convE E fz rn dom).ok s x z1 ∧ VRL E r z2 := by
  intro s
  induction s with
  | int k =>
    intro l r q x zs h hq hv
    simp only [decF] at h
    split at h
    · split at h
      · rename_i hk
        subst hk
        simp only [Option.some.injEq, Prod.mk.injEq] at h
        obtain ⟨rfl, rfl, rfl⟩ := h
        simp only [VRL, VR] at hv
        obtain ⟨v, r', rfl, rfl, hr⟩ := hv
        exact ⟨[_], r', rfl, rfl, hr⟩
      · simp at h
    · simp at h
  | bool =>
    intro l r q x zs h hq hv
    simp only [decF] at h
    split at h
    · simp only [Option.some.injEq, Prod.mk.injEq] at h
      obtain ⟨rfl, rfl, rfl⟩ := h
      simp only [VRL, VR] at hv
      obtain ⟨v, r', rfl, rfl, hr⟩ := hv
      exact ⟨[_], r', rfl, rfl, hr⟩
    · simp at h
  | str =>
    intro l r q x zs h hq hv
    simp only [decF] at h
    split at h
    · simp only [Option.some.injEq, Prod.mk.injEq] at h
      obtain ⟨rfl, rfl, rfl⟩ := h
      simp only [VRL, VR] at hv
      obtain ⟨v, r', rfl, rfl, hr⟩ := hv
      exact ⟨[_], r', rfl, rfl, hr⟩
    · simp at h
  | sl e ih =>
    intro l r q x zs h hq hv
    simp only [decF] at h
    split at h
    · split at h
      · rename_i q' xs hsl
        simp only [Option.some.injEq, Prod.mk.injEq] at h
        obtain ⟨rfl, rfl, rfl⟩ := h
        simp only [VRL] at hv
        obtain ⟨v, r', rfl, hv1, hr⟩ := hv
        exact ⟨[v], r', rfl, slF_sound hs hsl hq hv1, hr⟩
      · simp at h
    · simp at h
  | arr n e ih => intro l r q x zs h; simp [decF] at h
  | unit =>
    intro l r q x zs h hq hv
    simp only [decF, Option.some.injEq, Prod.mk.injEq] at h
    obtain ⟨rfl, _, rfl⟩ := h
    exact ⟨[], zs, rfl, rfl, hv⟩
  | pair s1 s2 ih1 ih2 =>
    intro l r q x zs h hq hv
    simp only [decF] at h
    split at h
    · rename_i p x1 r1 h1
      split at h
      · rename_i p2 x2 r2 h2
        simp only [Option.some.injEq, Prod.mk.injEq] at h
        obtain ⟨rfl, rfl, rfl⟩ := h
        obtain ⟨z1, z2, rfl, g1, g2⟩ := ih1 h1 (hq_l hq) hv
        obtain ⟨z3, z4, rfl, g3, g4⟩ := ih2 h2 (hq_r hq) g2
        exact ⟨z1 ++ z3, z4, by simp, ⟨z1, z3, rfl, g1, g3⟩, g4⟩
      · simp at h
    · simp at h

theorem grp_sound (hs : ObS E us ob) {s : Sh} {l : List AV} {q : List Prop} {x : s.T} {zs : List Value} (hf : s.flat = true) (h : decF fz rn ob s l = some (q, x, [])) (hq : ∀ p ∈ q, p) (hv : VRL E l zs) :
    VRL (convE E fz rn dom) (enc s x) zs := by
  obtain ⟨z1, z2, rfl, g1, g2⟩ := decF_sound (dom := dom) hs h hq hv
  simp only [VRL] at g2
  subst g2
  rw [List.append_nil]
  exact enc_sound (E := convE E fz rn dom) s hf x z1 g1

theorem lds_sound {R : Type} (hs : ObS E us ob) : ∀ {ds : List LD} {l : List AV} {r : Option (List Prop × R)} {q : List Prop} {y : ldsTo ds R}, ldsDec fz rn ob ds l r = some (q, y) → (∀ p ∈ q, p) →
    ∃ q0 y0, r = some (q0, y0) ∧ (∀ p ∈ q0, p) ∧ (ldsEnc ds y).2 = y0 ∧ ∀ zs, VRL E l zs → VRL (convE E fz rn dom) (ldsEnc ds y).1 zs
  | [], l, r, q, y, h, hq => by
    simp only [ldsDec] at h
    split at h
    · exact ⟨q, y, h, hq, rfl, fun zs hz => by simpa [VRL, ldsEnc] using hz⟩
    · simp at h
  | d :: ds, l, r, q, y, h, hq => by
    simp only [ldsDec] at h
    split at h
    · rename_i v vs
      split at h
      · rename_i p x q' y' h1 h2
        simp only [Option.some.injEq, Prod.mk.injEq] at h
        obtain ⟨rfl, rfl⟩ := h
        obtain ⟨q0, y0, g1, g2, g3, g4⟩ := lds_sound hs h2 (hq_r hq)
        refine ⟨q0, y0, g1, g2, ?_, fun zs hz => ?_⟩
        · simp only [ldsEnc, tl_mk]; exact g3
        · simp only [VRL] at hz
          obtain ⟨z, r', rfl, hz1, hz2⟩ := hz
          simp only [ldsEnc, tl_mk, hd_mk, VRL]
          exact ⟨z, r', rfl, ld_sound hs h1 (hq_l hq) hz1, g4 r' hz2⟩
      · simp at h
    · simp at h

theorem vd_sound {R : Type} (hs : ObS E us ob) {d : VD} {v : AV} {r : Option (List Prop × R)} {q : List Prop} {y : d.To R} (h : VD.dec fz rn ob d v r = some (q, y)) (hq : ∀ p ∈ q, p) :
    ∃ q0 y0, r = some (q0, y0) ∧ (∀ p ∈ q0, p) ∧ (d.enc y).2 = y0 ∧ ∀ z, VR E v z → VR (convE E fz rn dom) (d.enc y).1 z := by
  cases d with
  | leaf d =>
    simp only [VD.dec] at h
    split at h
    · rename_i p x q' y' h1
      simp only [Option.some.injEq, Prod.mk.injEq] at h
      obtain ⟨rfl, rfl⟩ := h
      exact ⟨q', y', rfl, hq_r hq, tl_mk _ _ _, fun z hz => by simp only [VD.enc, hd_mk]; exact ld_sound hs h1 (hq_l hq) hz⟩
    · simp at h
  | grp s =>
    simp only [VD.dec] at h
    split at h
    · split at h
      · rename_i hf hd
        simp only [Option.some.injEq, Prod.mk.injEq] at h
        obtain ⟨rfl, rfl⟩ := h
        refine ⟨_, _, rfl, hq_r hq, rfl, fun z hz => ?_⟩
        simp only [VR] at hz
        obtain ⟨vs, rfl, hz⟩ := hz
        simp only [VD.enc, VR]
        exact ⟨vs, rfl, grp_sound hs hf hd (hq_l hq) hz⟩
      · simp at h
    · simp at h
  | agg ds =>
    simp only [VD.dec] at h
    split at h
    · obtain ⟨q0, y0, g1, g2, g3, g4⟩ := lds_sound (dom := dom) hs h hq
      refine ⟨q0, y0, g1, g2, g3, fun z hz => ?_⟩
      simp only [VR] at hz
      obtain ⟨vs, rfl, hz⟩ := hz
      simp only [VD.enc, VR]
      exact ⟨vs, rfl, g4 vs hz⟩
    · simp at h
  | fn f x1 x2 =>
    simp only [VD.dec] at h
    split at h
    · split at h
      · rename_i hb
        obtain ⟨q0, y0, g1, g2, g3, g4⟩ := lds_sound (dom := dom) hs h hq
        obtain ⟨q1, y1, k1, k2, k3, k4⟩ := lds_sound (dom := dom) hs g1 g2
        refine ⟨q1, y1, k1, k2, ?_, fun z hz => ?_⟩
        · simp only [VD.enc, g3]; exact k3
        · simp only [VR] at hz
          obtain ⟨p, q, rfl, hz1, hz2⟩ := hz
          simp only [VD.enc, VR, g3]
          exact ⟨p, q, by rw [beq_true hb], g4 p hz1, k4 q hz2⟩
      · simp at h
    · simp at h

theorem tm_sound {R : Type} (hs : ObS E us ob) {val : Nat → Value} (ht : ∀ t v, tm t = some v → VR E v (val t)) : ∀ {l : List (Nat × VD)} {r : Option (List Prop × R)} {q : List Prop} {y : tmTo l R}, tmDec fz rn ob tm l r = some (q, y) → (∀ p ∈ q, p) →
    ∃ q0 y0, r = some (q0, y0) ∧ (∀ p ∈ q0, p) ∧ (tmEnc l y).2 = y0 ∧ ∀ p ∈ (tmEnc l y).1, VR (convE E fz rn dom) p.2 (val p.1)
  | [], r, q, y, h, hq => ⟨q, y, h, hq, rfl, fun p hp => by simp [tmEnc] at hp⟩
  | (t0, d) :: l, r, q, y, h, hq => by
    simp only [tmDec] at h
    split at h
    · rename_i v0 hv0
      obtain ⟨q0, y0, g1, g2, g3, g4⟩ := vd_sound (dom := dom) hs h hq
      obtain ⟨q1, y1, k1, k2, k3, k4⟩ := tm_sound hs ht g1 g2
      refine ⟨q1, y1, k1, k2, by simp only [tmEnc, g3]; exact k3, fun p hp => ?_⟩
      simp only [tmEnc, g3] at hp
      rcases List.mem_cons.1 hp with rfl | hp
      · exact g4 _ (ht t0 v0 hv0)
      · exact k4 p hp
    · simp at h

theorem od_sound {R : Type} (hs : ObS E us ob) {i : Nat} (hdom : dom i = true) {d : OD} {r : Option (List Prop × R)} {q : List Prop} {y : d.To R} {st : Bool} (h : OD.dec st fz rn ob i d r = some (q, y)) (hq : ∀ p ∈ q, p) :
    ∃ q0 y0, r = some (q0, y0) ∧ (∀ p ∈ q0, p) ∧ (d.enc y).2 = y0 ∧ ObjR (convE E fz rn dom) i (d.enc y).1 ∧ (st = true → i < 16 → ∃ n, lkA rn i = some n) ∧ ∀ n, lkA rn i = some n → ∃ o, ob n = some o := by
  have hmu : ∀ {n : Nat}, lkA rn i = some n → (convE E fz rn dom).mu i = E.mu n := fun hn => by simp only [convE, hdom, hn]
  have hcells : ∀ {n : Nat} {l l' : List AV}, lkA rn i = some n → ob n = some (.cells l) → (∀ zs, VRL E l zs → VRL (convE E fz rn dom) l' zs) → ObjR (convE E fz rn dom) i (.cells l') := by
    intro n l l' hn hob hl
    obtain ⟨b, cs, T, fr, g1, g2, g3, g4⟩ := (hs.obj _ _ hob).1
    exact ⟨b, cs, T, fr, (hmu hn).trans g1, g2, g3, hl _ g4⟩
  cases d with
  | rows e =>
    simp only [OD.dec] at h
    split at h
    · rename_i n hn
      split at h
      · rename_i e' xs hob
        split at h
        · rename_i q' y'
          split at h
          · rename_i he
            subst he
            simp only [Option.some.injEq, Prod.mk.injEq] at h
            obtain ⟨rfl, rfl⟩ := h
            refine ⟨q', y', rfl, hq, rfl, ?_, fun _ _ => ⟨n, hn⟩, fun m hm => by rw [hn] at hm; cases hm; exact ⟨_, hob⟩⟩
            obtain ⟨L, g1, g2, g3⟩ := (hs.obj _ _ hob).1
            refine ⟨L, (hmu hn).trans g1, g2, ?_⟩
            rcases g3 with g3 | ⟨b, cs, T, fr, k1, k2, k3, k4, k5, k6, k7⟩
            · exact .inl g3
            · exact .inr ⟨b, cs, T, fr, k1, k2, k3, k4, k5, k6, fun j hj => LRs.mono (fun _ _ => rfl) (fun _ h => .inl h) _ _ _ (k7 j hj)⟩
          · simp at h
        · simp at h
      · simp at h
    · rename_i hn
      split at h
      · simp at h
      rename_i hlo
      split at h
      · rename_i q' y'
        simp only [Option.some.injEq, Prod.mk.injEq] at h
        obtain ⟨rfl, rfl⟩ := h
        refine ⟨q', y', rfl, hq, rfl, ?_, fun h1 h2 => ?_, fun m hm => by rw [hn] at hm; simp at hm⟩
        · exact ⟨⟨none, 0, false, 0⟩, by simp only [convE, hdom, hn], rfl, .inl ⟨rfl, rfl, rfl⟩⟩
        · subst h1
          have : Nat.blt i 16 = true := Nat.ble_eq_true_of_le h2
          simp [this] at hlo
      · simp at h
  | cells ds =>
    simp only [OD.dec] at h
    split at h
    · rename_i n hn
      split at h
      · rename_i l hob
        obtain ⟨q0, y0, g1, g2, g3, g4⟩ := lds_sound (dom := dom) hs h hq
        exact ⟨q0, y0, g1, g2, g3, hcells hn hob g4, fun _ _ => ⟨n, hn⟩, fun m hm => by rw [hn] at hm; cases hm; exact ⟨_, hob⟩⟩
      · simp at h
    · simp at h
  | grp s =>
    simp only [OD.dec] at h
    split at h
    · rename_i n hn
      split at h
      · rename_i l hob
        split at h
        · rename_i hf hd
          simp only [Option.some.injEq, Prod.mk.injEq] at h
          obtain ⟨rfl, rfl⟩ := h
          exact ⟨_, _, rfl, hq_r hq, rfl, hcells hn hob fun zs hz => grp_sound hs hf hd (hq_l hq) hz, fun _ _ => ⟨n, hn⟩, fun m hm => by rw [hn] at hm; cases hm; exact ⟨_, hob⟩⟩
        · simp at h
      · simp at h
    · simp at h

theorem ob_sound {R : Type} (hs : ObS E us ob) : ∀ {l : List (Nat × OD)} {r : Option (List Prop × R)} {q : List Prop} {y : obTo l R} {st : Bool}, obDec st fz rn ob l r = some (q, y) → (∀ p ∈ q, p) → (∀ i, domO l i = true → dom i = true) →
    ∃ q0 y0, r = some (q0, y0) ∧ (∀ p ∈ q0, p) ∧ (obEnc l y).2 = y0 ∧ (∀ i o, (i, some o) ∈ (obEnc l y).1 → ObjR (convE E fz rn dom) i o) ∧ (∀ i, domO l i = true → st = true → i < 16 → ∃ n, lkA rn i = some n) ∧ ∀ i, domO l i = true → ∀ n, lkA rn i = some n → ∃ o, ob n = some o
  | [], r, q, y, st, h, hq, _ => ⟨q, y, h, hq, rfl, fun i o ho => by simp [obEnc] at ho, fun i hi => by simp [domO] at hi, fun i hi => by simp [domO] at hi⟩
  | (i0, d) :: l, r, q, y, st, h, hq, hdom => by
    simp only [obDec] at h
    obtain ⟨q0, y0, g1, g2, g3, g4, g5, g6⟩ := od_sound (dom := dom) hs (hdom i0 (by simp [domO, beq_self])) h hq
    obtain ⟨q1, y1, k1, k2, k3, k4, k5, k6⟩ := ob_sound hs g1 g2 (fun i hi => hdom i (by simp only [domO]; split <;> first | rfl | exact hi))
    refine ⟨q1, y1, k1, k2, by simp only [obEnc, g3]; exact k3, fun i o ho => ?_, fun i hi => by
      simp only [domO] at hi
      split at hi
      · rename_i hb; rw [beq_true hb]; exact g5
      · exact k5 i hi, fun i hi => by
      simp only [domO] at hi
      split at hi
      · rename_i hb; rw [beq_true hb]; exact g6
      · exact k6 i hi⟩
    simp only [obEnc, g3] at ho
    rcases List.mem_cons.1 ho with ho | ho
    · simp only [Prod.mk.injEq, Option.some.injEq] at ho
      obtain ⟨rfl, rfl⟩ := ho
      exact g4
    · exact k4 i o ho

end

/-! names of what is laid anew -/

theorem ld_nm {N : Nat} (d : LD) (x : d.T) (h : d.okN N = true) : (d.enc x).nm (fun n => n < N) := by
  cases d <;> simp only [LD.enc, AV.nm, LD.okN] at h ⊢ <;> exact Nat.le_of_ble_eq_true h
theorem lds_nm {R : Type} {N : Nat} : ∀ (l : List LD) (x : ldsTo l R), ldsOkN N l = true → AV.nms (fun n => n < N) (ldsEnc l x).1
  | [], x, _ => by simp [ldsEnc, AV.nms]
  | d :: l, x, h => by
    simp only [ldsOkN, Bool.and_eq_true] at h
    simp only [ldsEnc, AV.nms]
    exact ⟨ld_nm d _ h.1, lds_nm l _ h.2⟩
theorem vd_nm {R : Type} {N : Nat} (d : VD) (x : d.To R) (h : d.okN N = true) : (d.enc x).1.nm (fun n => n < N) := by
  cases d with
  | leaf d => exact ld_nm d _ h
  | grp s => simp only [VD.enc, AV.nm]; exact enc_nms _ _ _
  | agg l => simp only [VD.enc, AV.nm]; exact lds_nm l x h
  | fn f a b =>
    simp only [VD.okN, Bool.and_eq_true] at h
    simp only [VD.enc, AV.nm]
    exact ⟨lds_nm a x h.1, lds_nm b _ h.2⟩
theorem tm_nm {R : Type} {N : Nat} : ∀ (l : List (Nat × VD)) (x : tmTo l R), tmOkN N l = true → ∀ t v, lkA (tmEnc l x).1 t = some v → v.nm (fun n => n < N)
  | [], x, _, t, v, h => by simp [tmEnc, lkA] at h
  | (t0, d) :: l, x, ho, t, v, h => by
    simp only [tmOkN, Bool.and_eq_true] at ho
    simp only [tmEnc, lkA] at h
    split at h
    · simp only [Option.some.injEq] at h
      subst h
      exact vd_nm d x ho.1
    · exact tm_nm l _ ho.2 t v h
theorem ob_nm {R : Type} {N : Nat} : ∀ (l : List (Nat × OD)) (x : obTo l R), obOkN N l = true → ∀ i o, lkO (obEnc l x).1 i = some o → o.nm (fun n => n < N) ∧ i < N
  | [], x, _, i, o, h => by simp [obEnc, lkO, lkA] at h
  | (i0, d) :: l, x, ho, i, o, h => by
    simp only [obOkN, Bool.and_eq_true] at ho
    simp only [obEnc] at h
    rw [lkO_cons] at h
    split at h
    · rename_i hi
      simp only [Option.some.injEq] at h
      subst h
      refine ⟨?_, by rw [hi]; exact Nat.le_of_ble_eq_true ho.1.1⟩
      cases d with
      | rows e => simp [OD.enc, AO.nm]
      | cells l => simp only [OD.enc, AO.nm]; exact lds_nm l x ho.1.2
      | grp s => simp only [OD.enc, AO.nm]; exact enc_nms _ _ _
    · exact ob_nm l _ ho.2 i o h
theorem ob_dom {R : Type} : ∀ (l : List (Nat × OD)) (x : obTo l R) (i : Nat), domO l i = true → ∃ o, lkO (obEnc l x).1 i = some o
  | [], x, i, h => by simp [domO] at h
  | (i0, d) :: l, x, i, h => by
    simp only [obEnc]
    rw [lkO_cons]
    simp only [domO] at h
    split at h
    · rename_i hb; rw [if_pos (beq_true hb)]; exact ⟨_, rfl⟩
    · rename_i hb; rw [if_neg (beq_false hb)]; exact ob_dom l _ i h

theorem lkO_some {l : List (Nat × Option AO)} {n : Nat} {o : AO} (h : lkO l n = some o) : lkA l n = some (some o) := by
  unfold lkO at h
  split at h
  · rename_i x hx; rw [hx, h]
  · simp at h

theorem keptB_of {rn : List (Nat × Nat)} {i n : Nat} (h : lkA rn i = some n) : keptB n rn = true := by
  induction rn with
  | nil => simp [lkA] at h
  | cons p r ih =>
    obtain ⟨j, m⟩ := p
    simp only [lkA] at h
    simp only [keptB]
    split at h
    · simp only [Option.some.injEq] at h; rw [h, beq_self]
    · split
      · rfl
      · exact ih h
theorem injR_spec {rn : List (Nat × Nat)} (h : injR rn = true) {i j n : Nat} (hi : lkA rn i = some n) (hj : lkA rn j = some n) : i = j := by
  induction rn with
  | nil => simp [lkA] at hi
  | cons p r ih =>
    obtain ⟨k, m⟩ := p
    simp only [injR] at h
    split at h
    · simp at h
    · rename_i hk
      simp only [lkA] at hi hj
      split at hi <;> split at hj
      · rename_i h1 _ h2; rw [beq_true h1, beq_true h2]
      · simp only [Option.some.injEq] at hi
        subst hi
        rw [keptB_of hj] at hk; simp at hk
      · simp only [Option.some.injEq] at hj
        subst hj
        rw [keptB_of hi] at hk; simp at hk
      · exact ih h hi hj
theorem lowR_spec {rn : List (Nat × Nat)} (h : lowR rn = true) {i n : Nat} (hi : lkA rn i = some n) (hl : i < 16) : i = n := by
  induction rn with
  | nil => simp [lkA] at hi
  | cons p r ih =>
    obtain ⟨k, m⟩ := p
    simp only [lowR] at h
    simp only [lkA] at hi
    split at hi
    · rename_i hb
      have := beq_true hb
      subst this
      simp only [Option.some.injEq] at hi
      subst hi
      split at h
      · split at h
        · rename_i hm; exact beq_true hm
        · simp at h
      · rename_i hm
        exact absurd (show Nat.blt i 16 = true from by simpa [Nat.blt] using Nat.ble_eq_true_of_le hl) (by rw [hm]; simp)
    · split at h
      · split at h
        · exact ih h hi
        · simp at h
      · split at h
        · simp at h
        · exact ih h hi

/-- What is owned and kept. -/
theorem lkA_in {α : Type} {l : List (Nat × α)} {n : Nat} {x : α} (h : lkA l n = some x) : (n, x) ∈ l := by
  induction l with
  | nil => simp [lkA] at h
  | cons p r ih =>
    obtain ⟨m, y⟩ := p
    simp only [lkA] at h
    split at h
    · rename_i hb
      simp only [Option.some.injEq] at h
      subst h
      rw [beq_true hb]; simp
    · exact List.mem_cons_of_mem _ (ih h)

theorem convE_own {E : Env} {fz : Option (List Nat)} {rn : List (Nat × Nat)} {dom : Nat → Bool} {i b : Nat} (h : owns (convE E fz rn dom) i b) : ∃ n, lkA rn i = some n ∧ owns E n b := by
  obtain ⟨L, h1, h2, h3⟩ := h
  simp only [convE] at h1
  split at h1
  · split at h1
    · rename_i n hn; exact ⟨n, hn, L, h1, h2, h3⟩
    · simp only [Option.some.injEq] at h1; subst h1; simp at h2
  · simp at h1

theorem convE_env {W0 : WX} {okIn B : Nat → Prop} {E : Env} {fz : Option (List Nat)} {rn : List (Nat × Nat)} {dom : Nat → Bool} (he : EnvOk W0 okIn B E) (hinj : injR rn = true) (hlow : lowR rn = true) (k5 : ∀ i, dom i = true → i < 16 → ∃ n, lkA rn i = some n) :
    EnvOk W0 okIn B (convE E fz rn dom) := by
  refine ⟨?_, ?_, ?_, fun b hb => .inl (he.oki b hb), he.fr, he.sz, he.new, he.os, he.tape, he.output, ?_⟩
  · intro n m b h1 h2
    obtain ⟨n', a1, a2⟩ := convE_own h1
    obtain ⟨m', b1, b2⟩ := convE_own h2
    have := he.inj n' m' b a2 b2
    subst this
    exact injR_spec hinj a1 b1
  · intro n b h1
    obtain ⟨n', a1, a2⟩ := convE_own h1
    obtain ⟨c1, c2, c3⟩ := he.own n' b a2
    refine ⟨c1, c2, ?_⟩
    rintro (hk | ⟨m, hm, hk, _⟩)
    · exact c3 hk
    · rw [he.inj m n' b hm a2, keptB_of a1] at hk; simp at hk
  · rintro b (hb | ⟨n, hn, _, _⟩)
    · exact he.okl b hb
    · obtain ⟨c1, c2, _⟩ := he.own n b hn
      exact ⟨c2, .inr c1⟩
  · intro n L hL hn
    simp only [convE] at hL
    split at hL
    · rename_i hd
      obtain ⟨m, hm⟩ := k5 n hd hn
      rw [hm] at hL
      have := lowR_spec hlow hm hn
      subst this
      exact he.li n L hL hn
    · simp at hL

theorem StD.sound {D : StD} (hwf : D.wf = true) {g : Ga} {q : List Prop} {x : D.T} (h : D.dec g = some (q, x)) (hq : ∀ p ∈ q, p) : SubOK g (D.enc x) := by
  intro W0 okIn B E a hs
  unfold StD.dec at h
  split at h
  case h_2 => simp at h
  rename_i hnt
  rw [frcR_eq] at h
  split at h
  case h_2 => simp at h
  rename_i hinj hlow
  generalize hrn : obUni (lkO g.objs) D.objs (tmUni (lkA g.tmps) D.tmps []) = rn at h hinj hlow
  simp only [StD.wf, Bool.and_eq_true] at hwf
  obtain ⟨⟨w1, w2⟩, w3⟩ := hwf
  obtain ⟨q0, y0, g1, g2, g3, g4⟩ := tm_sound (fz := none) (dom := domO D.objs) hs.ob (val := fun t => a.tmps.getD t undef) (fun t v hv => (hs.tmp t v hv).1) h hq
  obtain ⟨q1, y1, k1, k2, k3, k4, k5, _⟩ := ob_sound (fz := none) (dom := domO D.objs) hs.ob g1 g2 (fun _ h => h)
  have he := hs.env
  refine ⟨convE E none rn (domO D.objs), rfl, ?_⟩
  have e1 : (D.enc x).tmps = (tmEnc D.tmps x).1 := rfl
  have e2 : (D.enc x).objs = (obEnc D.objs y0).1 := by simp only [StD.enc, g3]
  have e3 : (D.enc x).next = D.next := rfl
  have e4 : (D.enc x).nt = D.nt := rfl
  refine ⟨hs.defers, by rw [e4, ← beq_true hnt]; exact hs.size, ?_, ?_, ?_, ?_, ?_⟩
  · intro t v hv
    rw [e1] at hv
    exact ⟨g4 _ (lkA_in hv), by rw [e3]; exact tm_nm _ x w2 t v hv⟩
  · intro n o ho
    rw [e2] at ho
    have hnm := ob_nm _ y0 w3 n o ho
    exact ⟨k4 n o (lkA_in (lkO_some ho)), by rw [e3]; exact hnm.1, by rw [e3]; exact hnm.2⟩
  · intro n L hL
    rw [e2]
    simp only [convE] at hL
    split at hL
    · rename_i hd; exact ob_dom _ _ n hd
    · simp at hL
  · exact convE_env he hinj hlow fun i hi => k5 i hi rfl
  · intro n hn
    rw [e3]
    have := Nat.le_of_ble_eq_true w1
    omega

end Go.Tr
