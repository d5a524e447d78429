/- Code: what the evaluator says of it is what the model does; loops; states that say less.
   Conditions: none. -/
import Derived.Test.YthbkpjlimmckaaaTrS
import Derived.Deep.LoopGhost
namespace Go.Tr
open Go
set_option linter.unusedVariables false
set_option linter.unusedSimpArgs false
universe u

/-- The state g says it of what a frame and a world hold. -/
def SimG (W0 : World) (okIn B : Nat → Prop) (g : Ga) (E : Env) (a : Act) : Prop :=
  SimE W0 okIn B (fun n => n < g.next) (lkA g.tmps) (lkO g.objs) g.nt E a

/-- Code that is begun in the state g ends in states, and ways, of which k holds. -/
def Trip (P : Program) (c : Code) (g : Ga) (k : Exit → Ga → Prop) : Prop :=
  ∀ (W0 : World) (okIn B : Nat → Prop) (E : Env) (a : Act), SimG W0 okIn B g E a →
    c.wp P (fun e a' w' => ∃ g' E', k e g' ∧ E'.w = w' ∧ SimG W0 okIn B g' E' a') a E.w

def hasN (s n : Nat) : Bool := Nat.beq (Nat.land (Nat.shiftRight s n) 1) 1

theorem hasN_eq (a b : Nat) : hasN a b = Nat.testBit a b := by
  have h1 : Nat.testBit a b = decide ((a >>> b) % 2 = 1) := by rw [Nat.testBit_eq_decide_div_mod_eq, Nat.shiftRight_eq_div_pow]
  have h2 : Nat.land (Nat.shiftRight a b) 1 = (a >>> b) % 2 := Nat.and_one_is_mod _
  rw [h1, hasN, h2]
  rcases Nat.mod_two_eq_zero_or_one (a >>> b) with h | h <;> rw [h] <;> rfl

theorem hasN_lor (s m n : Nat) : hasN (Nat.lor s (Nat.shiftLeft 1 m)) n = (hasN s n || decide (m = n)) := by
  rw [hasN_eq, hasN_eq]
  have e : Nat.lor s (Nat.shiftLeft 1 m) = s ||| (1 <<< m) := rfl
  rw [e, Nat.testBit_or, Nat.one_shiftLeft, Nat.testBit_two_pow]

theorem frcT_spec {α : Sort u} : ∀ (l : List (Nat × AV)) (s : Nat) (k : List (Nat × AV) → α), ∃ l', frcT s l k = k l' ∧ ∀ n, lkA l' n = if hasN s n = true then none else lkA l n
  | [], s, k => ⟨[], rfl, fun n => by simp [lkA]⟩
  | (m, v) :: r, s, k => by
    rw [frcT_cons]
    split
    · rename_i hb
      obtain ⟨l', h1, h2⟩ := frcT_spec r s k
      refine ⟨l', h1, fun n => ?_⟩
      rw [h2 n]
      by_cases hs : hasN s n = true
      · rw [if_pos hs, if_pos hs]
      · rw [if_neg hs, if_neg hs]
        simp only [lkA]
        split
        · rename_i he; rw [beq_true he] at hs; exact absurd hb hs
        · rfl
    · rename_i hb
      rw [fv_eq]
      obtain ⟨l', h1, h2⟩ := frcT_spec r (Nat.lor s (Nat.shiftLeft 1 m)) (fun q => k ((m, v) :: q))
      refine ⟨(m, v) :: l', h1, fun n => ?_⟩
      simp only [lkA]
      cases he : Nat.beq n m with
      | true => rw [beq_true he, if_neg (by show ¬ hasN s m = true; rw [show hasN s m = false from hb]; simp)]
      | false =>
        simp only [h2, hasN_lor]
        by_cases hs : hasN s n = true
        · simp [hs]
        · simp [hs, (beq_false he).symm]

theorem frcO_eq {α : Sort u} (o : AO) (k : AO → α) : frcO o k = k o := by
  cases o <;> simp only [frcO, fvl_eq]

theorem lkO_cons (m : Nat) (o : Option AO) (r : Upd) (n : Nat) : lkO ((m, o) :: r) n = if n = m then o else lkO r n := by
  simp only [lkO, lkA]
  cases he : Nat.beq n m with
  | true => rw [if_pos (beq_true he)]
  | false => rw [if_neg (beq_false he)]

theorem frcU_spec {α : Sort u} : ∀ (l : Upd) (s : Nat) (k : Upd → α), ∃ l', frcU s l k = k l' ∧ ∀ n, lkO l' n = if hasN s n = true then none else lkO l n
  | [], s, k => ⟨[], rfl, fun n => by simp [lkO, lkA]⟩
  | (m, o) :: r, s, k => by
    rw [frcU_cons]
    simp only [frcN_eq, frcO_eq]
    split
    · rename_i hb
      obtain ⟨l', h1, h2⟩ := frcU_spec r s k
      refine ⟨l', h1, fun n => ?_⟩
      rw [h2 n]
      by_cases hs : hasN s n = true
      · rw [if_pos hs, if_pos hs]
      · rw [if_neg hs, if_neg hs, lkO_cons]
        rw [if_neg (fun e => by subst e; exact hs hb)]
    · rename_i hb
      cases o with
      | none =>
        obtain ⟨l', h1, h2⟩ := frcU_spec r (Nat.lor s (Nat.shiftLeft 1 m)) k
        refine ⟨l', h1, fun n => ?_⟩
        rw [h2, lkO_cons, hasN_lor]
        by_cases he : n = m
        · subst he; simp
        · by_cases hs : hasN s n = true
          · simp [hs]
          · simp [hs, he, Ne.symm he]
      | some o =>
        obtain ⟨l', h1, h2⟩ := frcU_spec r (Nat.lor s (Nat.shiftLeft 1 m)) (fun q => k ((m, some o) :: q))
        refine ⟨(m, some o) :: l', h1, fun n => ?_⟩
        rw [lkO_cons, lkO_cons, h2, hasN_lor]
        by_cases he : n = m
        · subst he; rw [show hasN s n = false from hb]; simp
        · by_cases hs : hasN s n = true
          · simp [hs, he]
          · simp [hs, he, Ne.symm he]

theorem hasN_zero (n : Nat) : hasN 0 n = false := by rw [hasN_eq]; simp

/-- A state laid open says the same. -/
theorem frc_spec {α : Sort u} (g : Ga) (k : Ga → α) : ∃ g', g.frc k = k g' ∧ ∀ W0 okIn B E a, SimG W0 okIn B g E a → SimG W0 okIn B g' E a := by
  obtain ⟨tm, ob, nx, nt⟩ := g
  simp only [Ga.frc]
  obtain ⟨tm', h1, h2⟩ := frcT_spec tm 0 (fun tm' => frcU 0 ob fun ob' => frcN nx fun nx' => k ⟨tm', ob', nx', nt⟩)
  obtain ⟨ob', h3, h4⟩ := frcU_spec ob 0 (fun ob' => frcN nx fun nx' => k ⟨tm', ob', nx', nt⟩)
  refine ⟨⟨tm', ob', nx, nt⟩, by rw [h1, h3, frcN_eq], fun W0 okIn B E a h => ?_⟩
  have e1 : lkA tm' = lkA tm := by funext n; rw [h2, hasN_zero]; rfl
  have e2 : lkO ob' = lkO ob := by funext n; rw [h4, hasN_zero]; rfl
  simpa only [SimG, e1, e2] using h

/-- What is left to be shown of a loop. -/
structure Looped (P : Program) (c : Code) (g : Ga) (k : Exit → Ga → Prop) : Prop where
  out : Trip P (.loop c) g k

/-- What code comes to. -/
noncomputable def ev (P : Program) (C : Ctx) (c : Code) : Ga → (Exit → Ga → Prop) → Prop :=
  Code.rec (motive := fun _ => Ga → (Exit → Ga → Prop) → Prop)
    (skip := fun g k => k .normal g)
    (region := fun _ ops draw g k => match draw with
      | false => evOps P C ops.toList 0 ops.toList g fun _ g' => g'.frc fun g'' => k .normal g''
      | true => evOps P C ops.toList 0 ops.toList g fun tr g' => Ob (chkA ops.toList tr = true) ∧ g'.frc fun g'' => k .normal g'')
    (seq := fun _ _ iha ihb g k => iha g fun e g' => match e with
      | .normal => ihb g' k
      | e => k e g')
    (cond := fun c _ _ iha ihb g k => match opv (lkA g.tmps) c with
      | .bool t => (t = true → iha g k) ∧ (t = false → ihb g k)
      | .when w (.bool t) => Ob (w = true) ∧ (t = true → iha g k) ∧ (t = false → ihb g k)
      | _ => False)
    (block := fun id _ ih g k => ih g fun e g' => match e with
      | .exit id' => match Nat.beq id' id with
        | true => k .normal g'
        | false => k (.exit id') g'
      | e => k e g')
    (loop := fun c _ g k => Looped P c g k)
    (rangeFunc := fun _ _ _ _ _ _ _ _ => False)
    (exit := fun id g k => k (.exit id) g)
    (scope := fun _ _ _ _ => False)
    (label := fun _ g k => k .normal g)
    (goto := fun _ _ _ => False)
    (ret := fun g k => k .ret g)
    (refuse := fun _ _ _ => False) c

theorem ev_region (P : Program) (C : Ctx) (id : Nat) (ops : Array Oper) (draw : Bool) (g : Ga) (k : Exit → Ga → Prop) : ev P C (.region id ops draw) g k =
    match draw with
    | false => evOps P C ops.toList 0 ops.toList g fun _ g' => g'.frc fun g'' => k .normal g''
    | true => evOps P C ops.toList 0 ops.toList g fun tr g' => Ob (chkA ops.toList tr = true) ∧ g'.frc fun g'' => k .normal g'' := rfl
theorem ev_seq (P : Program) (C : Ctx) (a b : Code) (g : Ga) (k : Exit → Ga → Prop) : ev P C (.seq a b) g k =
    ev P C a g fun e g' => match e with
      | .normal => ev P C b g' k
      | e => k e g' := rfl
theorem ev_cond (P : Program) (C : Ctx) (c : Operand) (a b : Code) (g : Ga) (k : Exit → Ga → Prop) : ev P C (.cond c a b) g k =
    match opv (lkA g.tmps) c with
    | .bool t => (t = true → ev P C a g k) ∧ (t = false → ev P C b g k)
    | .when w (.bool t) => Ob (w = true) ∧ (t = true → ev P C a g k) ∧ (t = false → ev P C b g k)
    | _ => False := rfl
theorem ev_block (P : Program) (C : Ctx) (id : Nat) (c : Code) (g : Ga) (k : Exit → Ga → Prop) : ev P C (.block id c) g k =
    ev P C c g fun e g' => match e with
      | .exit id' => match Nat.beq id' id with
        | true => k .normal g'
        | false => k (.exit id') g'
      | e => k e g' := rfl

theorem Trip.mono {P : Program} {c : Code} {g : Ga} {k k' : Exit → Ga → Prop} (h : Trip P c g k) (hk : ∀ e g, k e g → k' e g) : Trip P c g k' := by
  intro W0 okIn B E a hs
  refine wp_mono (h W0 okIn B E a hs) fun e a' w' hq => ?_
  obtain ⟨g', E', h1, h2, h3⟩ := hq
  exact ⟨g', E', hk _ _ h1, h2, h3⟩

/-- A draw turns nothing. -/
theorem SimE.drawn {W0 : World} {okIn B us : Nat → Prop} {tm : Nat → Option AV} {ob : Nat → Option AO} {nt : Nat} {E : Env} {a : Act} (h : SimE W0 okIn B us tm ob nt E a) :
    SimE W0 okIn B us tm ob nt { E with w := { E.w with drawn := E.w.drawn + 1 } } a := by
  have g : Goes us E { E with w := { E.w with drawn := E.w.drawn + 1 } } := ⟨fun _ _ => rfl, fun _ h => h, fun n _ L h => ⟨L, h, rfl, rfl⟩⟩
  refine ⟨h.defers, h.size, fun t v ht => ⟨VR.mono g _ _ (h.tmp t v ht).2 (h.tmp t v ht).1, (h.tmp t v ht).2⟩, fun n o ho => ⟨ObjR.mono g (h.obj n o ho).2.1 rfl (fun _ _ => rfl) (h.obj n o ho).1, (h.obj n o ho).2⟩, h.dom, ?_⟩
  exact ⟨h.env.inj, h.env.own, h.env.okl, h.env.oki, h.env.fr, h.env.sz, h.env.new, h.env.os, h.env.tape, h.env.output⟩

theorem opv_bool {W0 : World} {okIn B us : Nat → Prop} {tm : Nat → Option AV} {ob : Nat → Option AO} {nt : Nat} {E : Env} {a : Act} (hs : SimE W0 okIn B us tm ob nt E a) {c : Operand} {t : Bool} (h : opv tm c = .bool t) : a.eval c = .bool t := by
  have := (opv_sound hs c).1
  rw [h] at this
  simpa only [VR] using this

theorem ev_sound {P : Program} {C : Ctx} (hC : CtxOK P C) (hmix : P.follows .mixedOrders = true) : ∀ (c : Code) (g : Ga) (k : Exit → Ga → Prop), ev P C c g k → Trip P c g k := by
  intro c
  induction c with
  | skip => intro g k h W0 okIn B E a hs; exact wp_skip ⟨g, E, h, rfl, hs⟩
  | label l => intro g k h W0 okIn B E a hs; exact wp_label ⟨g, E, h, rfl, hs⟩
  | exit id => intro g k h W0 okIn B E a hs; exact wp_exit ⟨g, E, h, rfl, hs⟩
  | ret => intro g k h W0 okIn B E a hs; exact wp_ret ⟨g, E, h, rfl, hs⟩
  | refuse why => intro g k h; exact h.elim
  | goto l => intro g k h; exact h.elim
  | scope c ih => intro g k h; exact h.elim
  | rangeFunc f p x y ih1 ih2 => intro g k h; exact h.elim
  | loop c ih => intro g k h; exact h.out
  | region id ops draw =>
    intro g k h W0 okIn B E a hs
    cases draw with
    | false =>
      rw [ev_region] at h
      simp only at h
      obtain ⟨tr, g', h1, h2, h3, h4⟩ := evOps_runs _ _ _ _ h
      obtain ⟨g2, e2, h2s⟩ := frc_spec ⟨g'.tmps, g'.objs, g.next + (0 + ops.toList.length), g.nt⟩ (fun g'' => k .normal g'')
      rw [e2] at h2
      refine wp_region_list ?_
      have := runs_list hC h1 (W0 := W0) (okIn := okIn) (B := B) (Q := fun e a' w' => ∃ g' E', k e g' ∧ E'.w = w' ∧ SimG W0 okIn B g' E' a') E a (by simpa [SimG] using hs) (fun E' a' hs' => ⟨_, E', h2, rfl, h2s _ _ _ _ _ hs'⟩)
      simpa using this
    | true =>
      rw [ev_region] at h
      simp only at h
      obtain ⟨tr, g', h1, ⟨⟨hchk⟩, h2⟩, h3, h4⟩ := evOps_runs _ _ _ _ h
      obtain ⟨g2, e2, h2s⟩ := frc_spec ⟨g'.tmps, g'.objs, g.next + (0 + ops.toList.length), g.nt⟩ (fun g'' => k .normal g'')
      rw [e2] at h2
      obtain ⟨m1, m2, m3, m4⟩ := runs_met h1
      refine wp_region_any hmix ?_
      have hlen : tr.length = ops.toList.length := by rw [← m1]; simp
      have hfalse : (fun k => (Array.replicate ops.toList.length false).getD k false) = fun _ => false := by
        funext k
        rw [Array.getD_eq_getD_getElem?]
        by_cases hk : k < ops.toList.length
        · rw [Array.getElem?_replicate, if_pos hk]; rfl
        · rw [Array.getElem?_replicate, if_neg hk]; rfl
      have hv : ∀ {V : Type} (W : Tr → Nat → Option V) (f : Nat → V), foldW W f tr 0 (fun _ => false) = f := by
        intro V W f; funext k; exact foldW_keep W tr 0 _ f fun _ _ _ _ => rfl
      have := any_sound hC (W0 := W0) (okIn := okIn) (B := B) (base := g.next) (nt := g.nt) (Q := fun e a' w' => ∃ g' E', k e g' ∧ E'.w = w' ∧ SimG W0 okIn B g' E' a') m1 hchk
        (fun j x hj => by have := m2 j x hj; rwa [Nat.zero_add] at this)
        (fun E' a' hs' => ⟨_, E', h2, rfl, h2s _ _ _ _ _ <| by
          rw [← m3, ← m4] at hs'
          simp only [SimG, Nat.zero_add]
          rw [hlen] at hs'
          exact hs'⟩) ops.toList.length (Array.replicate ops.toList.length false) (by simp) (by omega)
        (fun j o hj hS => by rw [congrFun hfalse j] at hS; simp at hS) { E with w := { E.w with drawn := E.w.drawn + 1 } } a (by
          rw [hfalse]
          have e1 : vT (lkA g.tmps) tr (fun _ => false) = lkA g.tmps := hv _ _
          have e2 : vO (lkO g.objs) tr (fun _ => false) = lkO g.objs := hv _ _
          rw [e1, e2]
          exact (SimE.drawn hs).weak fun n hn => .inl hn)
      simpa using this
  | seq x y ihx ihy =>
    intro g k h W0 okIn B E a hs
    rw [ev_seq] at h
    refine wp_seq (wp_mono (ihx g _ h W0 okIn B E a hs) fun e a' w' hq => ?_)
    obtain ⟨g', E', h1, rfl, h3⟩ := hq
    cases e with
    | normal => exact ihy g' k h1 W0 okIn B E' a' h3
    | _ => exact ⟨g', E', h1, rfl, h3⟩
  | cond c x y ihx ihy =>
    intro g k h W0 okIn B E a hs
    have hv := opv_sound hs c
    rw [ev_cond] at h
    split at h
    · rename_i t ht
      refine wp_cond_split (opv_bool hs ht) (fun e => ihx g k (h.1 e) W0 okIn B E a hs) (fun e => ihy g k (h.2 e) W0 okIn B E a hs)
    · rename_i w t ht
      obtain ⟨⟨rfl⟩, h⟩ := h
      rw [ht] at hv
      have hb : a.eval c = .bool t := by
        have := hv.1
        rw [VR] at this
        have := this.1 rfl
        simpa only [VR] using this
      exact wp_cond_split hb (fun e => ihx g k (h.1 e) W0 okIn B E a hs) (fun e => ihy g k (h.2 e) W0 okIn B E a hs)
    · exact h.elim
  | block id c ih =>
    intro g k h W0 okIn B E a hs
    rw [ev_block] at h
    refine wp_block (wp_mono (ih g _ h W0 okIn B E a hs) fun e a' w' hq => ?_)
    obtain ⟨g', E', h1, rfl, h3⟩ := hq
    cases e with
    | exit id' =>
      simp only [Exit.inBlock]
      simp only at h1
      split at h1
      · rename_i hb; rw [if_pos (beq_true hb)]; exact ⟨g', E', h1, rfl, h3⟩
      · rename_i hb; rw [if_neg (beq_false hb)]; exact ⟨g', E', h1, rfl, h3⟩
    | _ => exact ⟨g', E', h1, rfl, h3⟩

/-! ### States that say less, under other names -/

mutual
def AV.ren (r : Nat → Option Nat) : AV → AV
  | .ptr n off => match r n with
    | some m => .ptr m off
    | none => .unk
  | .rsl n e off len => match r n with
    | some m => .rsl m e off len
    | none => match off, len with
      | 0, 0 => .nilsl
      | _, _ => .unk
  | .epr n e i off => match r n with
    | some m => .epr m e i off
    | none => .unk
  | .csl n off len => match r n with
    | some m => .csl m off len
    | none => .unk
  | .fn f x y => .fn f (AV.rens r x) (AV.rens r y)
  | .ifc t a => .ifc t (AV.ren r a)
  | .agg l => .agg (AV.rens r l)
  | .tup l => .tup (AV.rens r l)
  | .when g a => .when g (AV.ren r a)
  | .ite c a b => .ite c (AV.ren r a) (AV.ren r b)
  | v => v
def AV.rens (r : Nat → Option Nat) : List AV → List AV
  | [] => []
  | a :: l => AV.ren r a :: AV.rens r l
end

mutual
/-- Do all names that are to be told to be empty slices stand for such alone? -/
def AV.renOk (r : Nat → Option Nat) : AV → Bool
  | .ptr n _ => (r n).isSome
  | .rsl n _ off len => match r n with
    | some _ => true
    | none => match off, len with
      | 0, 0 => true
      | _, _ => false
  | .epr n _ _ _ => (r n).isSome
  | .csl n _ _ => (r n).isSome
  | .fn _ x y => AV.rensOk r x && AV.rensOk r y
  | .ifc _ a => AV.renOk r a
  | .agg l => AV.rensOk r l
  | .tup l => AV.rensOk r l
  | .when _ a => AV.renOk r a
  | .ite _ a b => AV.renOk r a && AV.renOk r b
  | _ => true
def AV.rensOk (r : Nat → Option Nat) : List AV → Bool
  | [] => true
  | a :: l => AV.renOk r a && AV.rensOk r l
end

def AO.ren (r : Nat → Option Nat) : AO → AO
  | .cells l => .cells (AV.rens r l)
  | .fcl l => .fcl (AV.rens r l)
  | o => o

mutual
theorem VR.ren {r : Nat → Option Nat} {E E' : Env} (hw : E'.w = E.w) (hok : E'.ok = E.ok) (hmu : ∀ n L, E'.mu n = some L → match r n with | some m => E.mu m = some L | none => L = ⟨none, 0, false⟩) :
    ∀ (a : AV) (v : Value), AV.renOk r a = true → VR E (AV.ren r a) v → VR E' a v
  | .unk, _, _, _ => by simp [VR]
  | .junk, v, _, h => by simpa [VR, AV.ren] using h
  | .int k n, v, _, h => by simpa [VR, AV.ren] using h
  | .bool b, v, _, h => by simpa [VR, AV.ren] using h
  | .str l, v, _, h => by simpa [VR, AV.ren] using h
  | .nilp, v, _, h => by simpa [VR, AV.ren] using h
  | .nilsl, v, _, h => by simpa [VR, AV.ren] using h
  | .nilif, v, _, h => by simpa [VR, AV.ren] using h
  | .nilf, v, _, h => by simpa [VR, AV.ren] using h
  | .fsl e xs, v, _, h => by simp only [VR, AV.ren] at h ⊢; rw [hw, hok]; exact h
  | .fpt e x off, v, _, h => by simp only [VR, AV.ren] at h ⊢; rw [hw, hok]; exact h
  | .arr e xs, v, _, h => by simp only [VR, AV.ren] at h ⊢; rw [hw, hok]; exact h
  | .ptr n off, v, ho, h => by
    simp only [AV.renOk] at ho
    simp only [AV.ren] at h
    cases hr : r n with
    | none => rw [hr] at ho; simp at ho
    | some m =>
      rw [hr] at h
      simp only [VR] at h ⊢
      refine ⟨h.1, fun L hL => h.2 L ?_⟩
      have := hmu n L hL
      rw [hr] at this; exact this
  | .rsl n e off len, v, ho, h => by
    simp only [AV.renOk] at ho
    simp only [AV.ren] at h
    cases hr : r n with
    | none =>
      rw [hr] at ho h
      simp only at ho h
      split at ho
      · simp only [VR] at h ⊢
        subst h
        refine ⟨trivial, fun L hL => ?_⟩
        have := hmu n L hL
        rw [hr] at this
        subst this
        exact ⟨none, rfl, Nat.le_refl _, fun _ => rfl, fun h => by simp at h⟩
      · simp at ho
    | some m =>
      rw [hr] at h
      simp only [VR] at h ⊢
      refine ⟨h.1, fun L hL => h.2 L ?_⟩
      have := hmu n L hL
      rw [hr] at this; exact this
  | .epr n e i off, v, ho, h => by
    simp only [AV.renOk] at ho
    simp only [AV.ren] at h
    cases hr : r n with
    | none => rw [hr] at ho; simp at ho
    | some m =>
      rw [hr] at h
      simp only [VR] at h ⊢
      refine ⟨h.1, fun L hL => h.2 L ?_⟩
      have := hmu n L hL
      rw [hr] at this; exact this
  | .csl n off len, v, ho, h => by
    simp only [AV.renOk] at ho
    simp only [AV.ren] at h
    cases hr : r n with
    | none => rw [hr] at ho; simp at ho
    | some m =>
      rw [hr] at h
      simp only [VR] at h ⊢
      refine ⟨h.1, fun L hL => h.2 L ?_⟩
      have := hmu n L hL
      rw [hr] at this; exact this
  | .fn f x y, v, ho, h => by
    simp only [AV.renOk, Bool.and_eq_true] at ho
    simp only [VR, AV.ren] at h ⊢
    obtain ⟨p, q, h1, h2, h3⟩ := h
    exact ⟨p, q, h1, VRL.ren hw hok hmu x p ho.1 h2, VRL.ren hw hok hmu y q ho.2 h3⟩
  | .ifc t a, v, ho, h => by
    simp only [AV.renOk] at ho
    simp only [VR, AV.ren] at h ⊢
    obtain ⟨x, h1, h2⟩ := h
    exact ⟨x, h1, VR.ren hw hok hmu a x ho h2⟩
  | .agg l, v, ho, h => by
    simp only [AV.renOk] at ho
    simp only [VR, AV.ren] at h ⊢
    obtain ⟨x, h1, h2⟩ := h
    exact ⟨x, h1, VRL.ren hw hok hmu l x ho h2⟩
  | .tup l, v, ho, h => by
    simp only [AV.renOk] at ho
    simp only [VR, AV.ren] at h ⊢
    obtain ⟨x, h1, h2⟩ := h
    exact ⟨x, h1, VRL.ren hw hok hmu l x ho h2⟩
  | .when c a, v, ho, h => by
    simp only [AV.renOk] at ho
    simp only [VR, AV.ren] at h ⊢
    exact ⟨fun hc => VR.ren hw hok hmu a v ho (h.1 hc), h.2⟩
  | .ite c a b, v, ho, h => by
    simp only [AV.renOk, Bool.and_eq_true] at ho
    simp only [VR, AV.ren] at h ⊢
    exact ⟨fun hc => VR.ren hw hok hmu a v ho.1 (h.1 hc), fun hc => VR.ren hw hok hmu b v ho.2 (h.2 hc)⟩
theorem VRL.ren {r : Nat → Option Nat} {E E' : Env} (hw : E'.w = E.w) (hok : E'.ok = E.ok) (hmu : ∀ n L, E'.mu n = some L → match r n with | some m => E.mu m = some L | none => L = ⟨none, 0, false⟩) :
    ∀ (l : List AV) (vs : List Value), AV.rensOk r l = true → VRL E (AV.rens r l) vs → VRL E' l vs
  | [], vs, _, h => by simpa [VRL, AV.rens] using h
  | a :: l, vs, ho, h => by
    simp only [AV.rensOk, Bool.and_eq_true] at ho
    simp only [VRL, AV.rens] at h ⊢
    obtain ⟨v, q, h1, h2, h3⟩ := h
    exact ⟨v, q, h1, VR.ren hw hok hmu a v ho.1 h2, VRL.ren hw hok hmu l q ho.2 h3⟩
end

def subT (r : Nat → Option Nat) (g : Ga) (N : Nat) : List (Nat × AV) → Prop
  | [] => True
  | (t, v) :: q => (lkA g.tmps t = some (AV.ren r v) ∧ AV.renOk r v = true ∧ v.nm (fun n => n < N)) ∧ subT r g N q

def emptyRows : AO → Prop
  | .rows _ xs => xs.length = 0
  | _ => False

def subO (r : Nat → Option Nat) (g : Ga) (N : Nat) : List (Nat × Option AO) → Prop
  | [] => True
  | (n, some o) :: q => ((match r n with
      | some m => lkO g.objs m = some (AO.ren r o)
      | none => emptyRows o) ∧ (match o with | .cells l => AV.rensOk r l = true | .fcl l => AV.rensOk r l = true | _ => True) ∧ o.nm (fun n => n < N) ∧ n < N) ∧ subO r g N q
  | (n, none) :: q => subO r g N q

/-- Are the names to which names go unlike? -/
def injO (r : Nat → Option Nat) : List (Nat × Option AO) → Bool
  | [] => true
  | (n, _) :: q => (match r n with
    | none => true
    | some m => free m q) && injO r q
where
  free (m : Nat) : List (Nat × Option AO) → Bool
    | [] => true
    | (n, _) :: q => (match r n with
      | none => true
      | some k => !(Nat.beq k m)) && free m q

/-- The state G says no more than g does, under names of its own. -/
structure SubG (g G : Ga) (r : Nat → Option Nat) : Prop where
  nt : G.nt = g.nt
  tmp : subT r g G.next G.tmps
  obj : subO r g G.next G.objs
  inj : injO r G.objs = true

theorem subT_get {r : Nat → Option Nat} {g : Ga} {N : Nat} : ∀ {l : List (Nat × AV)}, subT r g N l → ∀ {t : Nat} {v : AV}, lkA l t = some v → lkA g.tmps t = some (AV.ren r v) ∧ AV.renOk r v = true ∧ v.nm (fun n => n < N)
  | [], _, t, v, h => by simp [lkA] at h
  | (s, x) :: q, hs, t, v, h => by
    simp only [lkA] at h
    simp only [subT] at hs
    split at h
    · rename_i hb
      simp only [Option.some.injEq] at h
      subst h
      rw [beq_true hb]
      exact hs.1
    · exact subT_get hs.2 h

theorem subO_get {r : Nat → Option Nat} {g : Ga} {N : Nat} : ∀ {l : List (Nat × Option AO)}, subO r g N l → ∀ {n : Nat} {o : AO}, lkA l n = some (some o) →
    (match r n with | some m => lkO g.objs m = some (AO.ren r o) | none => emptyRows o) ∧ (match o with | .cells l => AV.rensOk r l = true | .fcl l => AV.rensOk r l = true | _ => True) ∧ o.nm (fun n => n < N) ∧ n < N
  | [], _, n, o, h => by simp [lkA] at h
  | (m, x) :: q, hs, n, o, h => by
    simp only [lkA] at h
    split at h
    · rename_i hb
      simp only [Option.some.injEq] at h
      subst h
      simp only [subO] at hs
      rw [beq_true hb]
      exact hs.1
    · cases x with
      | none => simp only [subO] at hs; exact subO_get hs h
      | some o' => simp only [subO] at hs; exact subO_get hs.2 h

theorem lkA_mem' {α : Type} {l : List (Nat × α)} {n : Nat} {x : α} (h : lkA l n = some x) : ∃ y, (n, y) ∈ l := lkA_mem (by rw [h]; rfl)

theorem injO_free {r : Nat → Option Nat} {m : Nat} : ∀ {l : List (Nat × Option AO)}, injO.free r m l = true → ∀ n y, (n, y) ∈ l → r n ≠ some m
  | [], _, n, y, h => by simp at h
  | (k, x) :: q, hf, n, y, h => by
    simp only [injO.free, Bool.and_eq_true] at hf
    rcases List.mem_cons.1 h with h | h
    · simp only [Prod.mk.injEq] at h
      obtain ⟨rfl, rfl⟩ := h
      intro hr
      rw [hr] at hf
      simp [beq_self] at hf
    · exact injO_free hf.2 n y h

theorem injO_spec {r : Nat → Option Nat} : ∀ {l : List (Nat × Option AO)}, injO r l = true → ∀ n n' y y', (n, y) ∈ l → (n', y') ∈ l → ∀ m, r n = some m → r n' = some m → n = n'
  | [], _, n, n', y, y', h, _, m, _, _ => by simp at h
  | (k, x) :: q, hi, n, n', y, y', h, h', m, hn, hn' => by
    simp only [injO, Bool.and_eq_true] at hi
    rcases List.mem_cons.1 h with g | g <;> rcases List.mem_cons.1 h' with g' | g'
    · simp only [Prod.mk.injEq] at g g'
      rw [g.1, g'.1]
    · simp only [Prod.mk.injEq] at g
      rw [← g.1, hn] at hi
      exact absurd hn' (injO_free hi.1 n' y' g')
    · simp only [Prod.mk.injEq] at g'
      rw [← g'.1, hn'] at hi
      exact absurd hn (injO_free hi.1 n y g)
    · exact injO_spec hi.2 n n' y y' g g' m hn hn'

theorem lkO_some {l : List (Nat × Option AO)} {n : Nat} {o : AO} (h : lkO l n = some o) : lkA l n = some (some o) := by
  unfold lkO at h
  split at h
  · rename_i x hx; rw [hx, h]
  · simp at h

theorem SubG.sound {g G : Ga} {r : Nat → Option Nat} (h : SubG g G r) {W0 : World} {okIn B : Nat → Prop} {E : Env} {a : Act} (hs : SimG W0 okIn B g E a) : ∃ E', E'.w = E.w ∧ SimG W0 okIn B G E' a := by
  let mu' : Nat → Option Loc := fun n => match lkO G.objs n with
    | some _ => match r n with
      | some m => E.mu m
      | none => some ⟨none, 0, false⟩
    | none => none
  have hmu : ∀ n L, mu' n = some L → match r n with | some m => E.mu m = some L | none => L = ⟨none, 0, false⟩ := by
    intro n L hL
    simp only [mu'] at hL
    split at hL
    · cases hr : r n with
      | some m => rw [hr] at hL; exact hL
      | none => rw [hr] at hL; simp only [Option.some.injEq] at hL; exact hL.symm
    · simp at hL
  have hown : ∀ n b, owns ⟨E.w, mu', E.ok⟩ n b → ∃ m, r n = some m ∧ owns E m b ∧ ∃ y, (n, y) ∈ G.objs := by
    rintro n b ⟨L, h1, h2, h3⟩
    have hL := hmu n L h1
    cases hr : r n with
    | none => rw [hr] at hL; subst hL; simp at h2
    | some m =>
      rw [hr] at hL
      refine ⟨m, rfl, ⟨L, hL, h2, h3⟩, ?_⟩
      simp only [mu'] at h1
      split at h1
      · rename_i o ho
        exact lkA_mem' (lkO_some ho)
      · simp at h1
  refine ⟨⟨E.w, mu', E.ok⟩, rfl, hs.defers, by rw [hs.size, h.nt], fun t v ht => ?_, fun n o ho => ?_, fun n L hL => ?_, ?_⟩
  · obtain ⟨h1, h2, h3⟩ := subT_get h.tmp ht
    exact ⟨VR.ren (E := E) (E' := ⟨E.w, mu', E.ok⟩) rfl rfl hmu v _ h2 (hs.tmp t _ h1).1, h3⟩
  · obtain ⟨h1, h2, h3, h4⟩ := subO_get h.obj (lkO_some ho)
    refine ⟨?_, h3, h4⟩
    have hmn : mu' n = match r n with | some m => E.mu m | none => some ⟨none, 0, false⟩ := by simp only [mu', ho]
    cases hr : r n with
    | none =>
      rw [hr] at h1 hmn
      simp only at h1 hmn
      cases o with
      | cells l => exact h1.elim
      | frz e xs => exact h1.elim
      | fcl l => exact h1.elim
      | rows e xs => exact ⟨_, hmn, .inl ⟨rfl, h1, rfl⟩⟩
    | some m =>
      rw [hr] at h1 hmn
      simp only at h1 hmn
      obtain ⟨k1, k2, k3⟩ := hs.obj m _ h1
      cases o with
      | cells l =>
        obtain ⟨b, cs, T, fr, g1, g2, g3, g4⟩ := k1
        exact ⟨b, cs, T, fr, hmn.trans g1, g2, g3, VRL.ren (E := E) (E' := ⟨E.w, mu', E.ok⟩) rfl rfl hmu l _ h2 g4⟩
      | rows e xs =>
        obtain ⟨L, g1, g2⟩ := k1
        exact ⟨L, hmn.trans g1, g2⟩
      | frz e xs =>
        obtain ⟨L, g1, g2⟩ := k1
        exact ⟨L, hmn.trans g1, g2⟩
      | fcl l =>
        obtain ⟨b, cs, T, fr, g1, g2, g3, g4⟩ := k1
        exact ⟨b, cs, T, fr, hmn.trans g1, g2, g3, VRL.ren (E := E) (E' := ⟨E.w, mu', E.ok⟩) rfl rfl hmu l _ h2 g4⟩
  · simp only [mu'] at hL
    split at hL
    · rename_i o ho; exact ⟨o, ho⟩
    · simp at hL
  · have he := hs.env
    refine ⟨fun n m b h1 h2 => ?_, fun n b h1 => ?_, he.okl, he.oki, he.fr, he.sz, he.new, he.os, he.tape, he.output⟩
    · obtain ⟨n', a1, a2, y, a3⟩ := hown n b h1
      obtain ⟨m', b1, b2, z, b3⟩ := hown m b h2
      have := he.inj n' m' b a2 b2
      subst this
      exact injO_spec h.inj n m y z a3 b3 n' a1 b1
    · obtain ⟨n', a1, a2, _⟩ := hown n b h1
      exact he.own n' b a2

/-- A loop, by states of its rounds. -/
theorem Trip.loop {P : Program} {c : Code} {g : Ga} {k : Exit → Ga → Prop} {ι : Type} (G : ι → Ga) (A : ι → Prop) (m : ι → Nat) (i0 : ι) (h0 : A i0) (r0 : Nat → Option Nat) (hs0 : SubG g (G i0) r0)
    (hb : ∀ i, A i → Trip P c (G i) fun e g' => match e with
      | .normal => ∃ i' r, A i' ∧ m i' < m i ∧ SubG g' (G i') r
      | e => k e g') : Trip P (.loop c) g k := by
  intro W0 okIn B E a hs
  refine wp_loop_ghost (fun n a w => ∃ i E, m i = n ∧ A i ∧ E.w = w ∧ SimG W0 okIn B (G i) E a) (m i0) ?_ ?_
  · obtain ⟨E', h1, h2⟩ := hs0.sound hs
    exact ⟨i0, E', rfl, h0, h1, h2⟩
  · rintro n a w ⟨i, E, rfl, hA, rfl, hs⟩
    refine wp_mono (hb i hA W0 okIn B E a hs) fun e a' w' hq => ?_
    obtain ⟨g', E', h1, rfl, h3⟩ := hq
    cases e with
    | normal =>
      obtain ⟨i', r, h4, h5, h6⟩ := h1
      obtain ⟨E'', h7, h8⟩ := h6.sound h3
      exact ⟨m i', h5, i', E'', rfl, h4, h7, h8⟩
    | _ => exact ⟨g', E', h1, rfl, h3⟩

theorem Looped.inv {P : Program} {C : Ctx} (hC : CtxOK P C) (hmix : P.follows .mixedOrders = true) {c : Code} {g : Ga} {k : Exit → Ga → Prop} {ι : Type} (G : ι → Ga) (A : ι → Prop) (m : ι → Nat) (i0 : ι) (r0 : Nat → Option Nat) (h0 : A i0) (hs0 : SubG g (G i0) r0)
    (hb : ∀ i, A i → ev P C c (G i) fun e g' => match e with
      | .normal => Obl (∃ i' r, A i' ∧ m i' < m i ∧ SubG g' (G i') r)
      | e => k e g') : Looped P c g k :=
  ⟨Trip.loop G A m i0 h0 r0 hs0 fun i hi => (ev_sound hC hmix _ _ _ (hb i hi)).mono fun e g' h => by
    cases e <;> first | exact h.out | exact h⟩

/-- A state that says less serves as well. -/
theorem Trip.weak {P : Program} {c : Code} {g G : Ga} {k : Exit → Ga → Prop} {r : Nat → Option Nat} (hs : SubG g G r) (h : Trip P c G k) : Trip P c g k := by
  intro W0 okIn B E a hg
  obtain ⟨E', h1, h2⟩ := hs.sound hg
  rw [← h1]
  exact h W0 okIn B E' a h2

end Go.Tr
