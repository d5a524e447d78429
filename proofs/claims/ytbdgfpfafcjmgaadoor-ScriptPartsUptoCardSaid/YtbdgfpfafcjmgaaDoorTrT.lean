/- Code: what the evaluator says of it is what the model does; loops; states that say less.
   Conditions: none. -/
import Derived.Test.YtbdgfpfafcjmgaaDoorTrS
import Derived.Deep.LoopGhost
namespace Go.Tr
open Go
set_option linter.unusedVariables false
set_option linter.unusedSimpArgs false
universe u

/-- The state g says it of what a frame and a world hold. -/
def SimG (W0 : WX) (okIn B : Nat → Prop) (g : Ga) (E : Env) (a : Act) : Prop :=
  SimE W0 okIn B (fun n => n < g.next) (lkA g.tmps) (lkO g.objs) g.nt E a

/-- Code that is begun in the state g ends in states, and ways, of which k holds. -/
def Trip (P : Program) [Tabs P] (c : Code) (g : Ga) (k : Exit → Ga → Prop) : Prop :=
  ∀ (W0 : WX) (okIn B : Nat → Prop) (E : Env) (a : Act), TabIn P W0 B → SimG W0 okIn B g E a →
    c.wp P (fun e a' w' => ∃ g' E', k e g' ∧ E'.w = w' ∧ SimG W0 okIn B g' E' a') a E.w

def hasN (s n : Nat) : Bool := Nat.beq (Nat.land (Nat.shiftRight s n) 1) 1

theorem hasN_eq (a b : Nat) : hasN a b = Nat.testBit a b := by
  have h1 : Nat.testBit a b = decide ((a >>> b) % 2 = 1) := by rw [Nat.testBit_eq_decide_div_mod_eq, Nat.shiftRight_eq_div_pow]
  have h2 : Nat.land (Nat.shiftRight a b) 1 = (a >>> b) % 2 := Nat.and_one_is_mod _
  rw [h1, hasN, h2]
  rcases Nat.mod_two_eq_zero_or_one (a >>> b) with h | h <;> rw [h] <;> rfl

theorem hasN_lor (s m n : Nat) : hasN (Nat.lor s (Nat.shiftLeft 1 m)) n = (hasN s n || decide (m = n)) := by
  rw [hasN_eq, hasN_eq]
  have e : Nat.lor s (Nat.shiftLeft 1 m) = s ||| (1 <<< m) := rfl
  rw [e, Nat.testBit_or, Nat.one_shiftLeft, Nat.testBit_two_pow]

theorem frcT_spec {α : Sort u} : ∀ (l : List (Nat × AV)) (s : Nat) (k : List (Nat × AV) → α), ∃ l', frcT s l k = k l' ∧ ∀ n, lkA l' n = if hasN s n = true then none else lkA l n
  | [], s, k => ⟨[], rfl, fun n => by simp [lkA]⟩
  | (m, v) :: r, s, k => by
    rw [frcT_cons]
    split
    · rename_i hb
      obtain ⟨l', h1, h2⟩ := frcT_spec r s k
      refine ⟨l', h1, fun n => ?_⟩
      rw [h2 n]
      by_cases hs : hasN s n = true
      · rw [if_pos hs, if_pos hs]
      · rw [if_neg hs, if_neg hs]
        simp only [lkA]
        split
        · rename_i he; rw [beq_true he] at hs; exact absurd hb hs
        · rfl
    · rename_i hb
      rw [fv_eq]
      obtain ⟨l', h1, h2⟩ := frcT_spec r (Nat.lor s (Nat.shiftLeft 1 m)) (fun q => k ((m, v) :: q))
      refine ⟨(m, v) :: l', h1, fun n => ?_⟩
      simp only [lkA]
      cases he : Nat.beq n m with
      | true => rw [beq_true he, if_neg (by show ¬ hasN s m = true; rw [show hasN s m = false from hb]; simp)]
      | false =>
        simp only [h2, hasN_lor]
        by_cases hs : hasN s n = true
        · simp [hs]
        · simp [hs, (beq_false he).symm]

theorem frcO_eq {α : Sort u} (o : AO) (k : AO → α) : frcO o k = k o := by
  cases o <;> simp only [frcO, fvl_eq]

theorem lkO_cons (m : Nat) (o : Option AO) (r : Upd) (n : Nat) : lkO ((m, o) :: r) n = if n = m then o else lkO r n := by
  simp only [lkO, lkA]
  cases he : Nat.beq n m with
  | true => rw [if_pos (beq_true he)]
  | false => rw [if_neg (beq_false he)]

theorem frcU_spec {α : Sort u} : ∀ (l : Upd) (s : Nat) (k : Upd → α), ∃ l', frcU s l k = k l' ∧ ∀ n, lkO l' n = if hasN s n = true then none else lkO l n
  | [], s, k => ⟨[], rfl, fun n => by simp [lkO, lkA]⟩
  | (m, o) :: r, s, k => by
    rw [frcU_cons]
    simp only [frcN_eq, frcO_eq]
    split
    · rename_i hb
      obtain ⟨l', h1, h2⟩ := frcU_spec r s k
      refine ⟨l', h1, fun n => ?_⟩
      rw [h2 n]
      by_cases hs : hasN s n = true
      · rw [if_pos hs, if_pos hs]
      · rw [if_neg hs, if_neg hs, lkO_cons]
        rw [if_neg (fun e => by subst e; exact hs hb)]
    · rename_i hb
      cases o with
      | none =>
        obtain ⟨l', h1, h2⟩ := frcU_spec r (Nat.lor s (Nat.shiftLeft 1 m)) k
        refine ⟨l', h1, fun n => ?_⟩
        rw [h2, lkO_cons, hasN_lor]
        by_cases he : n = m
        · subst he; simp
        · by_cases hs : hasN s n = true
          · simp [hs]
          · simp [hs, he, Ne.symm he]
      | some o =>
        obtain ⟨l', h1, h2⟩ := frcU_spec r (Nat.lor s (Nat.shiftLeft 1 m)) (fun q => k ((m, some o) :: q))
        refine ⟨(m, some o) :: l', h1, fun n => ?_⟩
        rw [lkO_cons, lkO_cons, h2, hasN_lor]
        by_cases he : n = m
        · subst he; rw [show hasN s n = false from hb]; simp
        · by_cases hs : hasN s n = true
          · simp [hs, he]
          · simp [hs, he, Ne.symm he]

theorem hasN_zero (n : Nat) : hasN 0 n = false := by rw [hasN_eq]; simp

/-- A state laid open says the same. -/
theorem frc_spec {α : Sort u} (g : Ga) (k : Ga → α) : ∃ g', g.frc k = k g' ∧ ∀ W0 okIn B E a, SimG W0 okIn B g E a → SimG W0 okIn B g' E a := by
  obtain ⟨tm, ob, nx, nt⟩ := g
  simp only [Ga.frc]
  obtain ⟨tm', h1, h2⟩ := frcT_spec tm 0 (fun tm' => frcU 0 ob fun ob' => frcN nx fun nx' => k ⟨tm', ob', nx', nt⟩)
  obtain ⟨ob', h3, h4⟩ := frcU_spec ob 0 (fun ob' => frcN nx fun nx' => k ⟨tm', ob', nx', nt⟩)
  refine ⟨⟨tm', ob', nx, nt⟩, by rw [h1, h3, frcN_eq], fun W0 okIn B E a h => ?_⟩
  have e1 : lkA tm' = lkA tm := by funext n; rw [h2, hasN_zero]; rfl
  have e2 : lkO ob' = lkO ob := by funext n; rw [h4, hasN_zero]; rfl
  simpa only [SimG, e1, e2] using h

/-- What is left to be shown of a loop. -/
structure Looped (P : Program) [Tabs P] (c : Code) (g : Ga) (k : Exit → Ga → Prop) : Prop where
  out : Trip P (.loop c) g k

/-- A slot whose value is known from here on. -/
def Ga.setB (g : Ga) (c : Operand) (b : Bool) : Ga :=
  match c with
  | .tmp i => match g with
    | ⟨tm, ob, nx, nt⟩ => ⟨(i, .bool b) :: tm, ob, nx, nt⟩
  | _ => g

theorem setB_sim {W0 : WX} {okIn B : Nat → Prop} {g : Ga} {E : Env} {a : Act} {c : Operand} {b : Bool} (hs : SimG W0 okIn B g E a) (hv : a.eval c = .bool b) : SimG W0 okIn B (g.setB c b) E a := by
  cases c with
  | tmp i =>
    obtain ⟨tm, ob, nx, nt⟩ := g
    refine ⟨hs.defers, hs.size, fun t v ht => ?_, hs.obj, hs.dom, hs.env, hs.lo⟩
    simp only [Ga.setB, lkA] at ht
    split at ht
    · rename_i he
      obtain rfl := Option.some.inj ht
      obtain rfl := beq_true he
      exact ⟨by simp only [VR]; exact hv, by simp [AV.nm]⟩
    · exact hs.tmp t v ht
  | _ => exact hs

/-- What code comes to. -/
noncomputable def ev (P : Program) [Tabs P] (C : Ctx) (c : Code) : Ga → (Exit → Ga → Prop) → Prop :=
  Code.rec (motive := fun _ => Ga → (Exit → Ga → Prop) → Prop)
    (skip := fun g k => k .normal g)
    (region := fun _ ops draw g k => match draw with
      | false => evOps P C ops.toList 0 ops.toList g fun _ g' => g'.frc fun g'' => k .normal g''
      | true => evOps P C ops.toList 0 ops.toList g fun tr g' => Ob (chkA ops.toList tr = true) ∧ g'.frc fun g'' => k .normal g'')
    (seq := fun _ _ iha ihb g k => iha g fun e g' => match e with
      | .normal => ihb g' k
      | e => k e g')
    (cond := fun c _ _ iha ihb g k => match opv (lkA g.tmps) c with
      | .bool t => (t = true → iha (g.setB c true) k) ∧ (t = false → ihb (g.setB c false) k)
      | .when w (.bool t) => Ob (w = true) ∧ (t = true → iha g k) ∧ (t = false → ihb g k)
      | _ => False)
    (block := fun id _ ih g k => ih g fun e g' => match e with
      | .exit id' => match Nat.beq id' id with
        | true => k .normal g'
        | false => k (.exit id') g'
      | e => k e g')
    (loop := fun c _ g k => Looped P c g k)
    (rangeFunc := fun _ _ _ _ _ _ _ _ => False)
    (exit := fun id g k => k (.exit id) g)
    (scope := fun _ _ _ _ => False)
    (label := fun _ g k => k .normal g)
    (goto := fun _ _ _ => False)
    (ret := fun g k => k .ret g)
    (refuse := fun _ _ _ => False) c

theorem ev_region (P : Program) [Tabs P] (C : Ctx) (id : Nat) (ops : Array Oper) (draw : Bool) (g : Ga) (k : Exit → Ga → Prop) : ev P C (.region id ops draw) g k =
    match draw with
    | false => evOps P C ops.toList 0 ops.toList g fun _ g' => g'.frc fun g'' => k .normal g''
    | true => evOps P C ops.toList 0 ops.toList g fun tr g' => Ob (chkA ops.toList tr = true) ∧ g'.frc fun g'' => k .normal g'' := rfl
theorem ev_seq (P : Program) [Tabs P] (C : Ctx) (a b : Code) (g : Ga) (k : Exit → Ga → Prop) : ev P C (.seq a b) g k =
    ev P C a g fun e g' => match e with
      | .normal => ev P C b g' k
      | e => k e g' := rfl
theorem ev_cond (P : Program) [Tabs P] (C : Ctx) (c : Operand) (a b : Code) (g : Ga) (k : Exit → Ga → Prop) : ev P C (.cond c a b) g k =
    match opv (lkA g.tmps) c with
    | .bool t => (t = true → ev P C a (g.setB c true) k) ∧ (t = false → ev P C b (g.setB c false) k)
    | .when w (.bool t) => Ob (w = true) ∧ (t = true → ev P C a g k) ∧ (t = false → ev P C b g k)
    | _ => False := rfl
theorem ev_block (P : Program) [Tabs P] (C : Ctx) (id : Nat) (c : Code) (g : Ga) (k : Exit → Ga → Prop) : ev P C (.block id c) g k =
    ev P C c g fun e g' => match e with
      | .exit id' => match Nat.beq id' id with
        | true => k .normal g'
        | false => k (.exit id') g'
      | e => k e g' := rfl

theorem Trip.mono {P : Program} [Tabs P] {c : Code} {g : Ga} {k k' : Exit → Ga → Prop} (h : Trip P c g k) (hk : ∀ e g, k e g → k' e g) : Trip P c g k' := by
  intro W0 okIn B E a hT hs
  refine wp_mono (h W0 okIn B E a hT hs) fun e a' w' hq => ?_
  obtain ⟨g', E', h1, h2, h3⟩ := hq
  exact ⟨g', E', hk _ _ h1, h2, h3⟩

/-- A draw turns nothing. -/
theorem SimE.drawn {W0 : WX} {okIn B us : Nat → Prop} {tm : Nat → Option AV} {ob : Nat → Option AO} {nt : Nat} {E : Env} {a : Act} (h : SimE W0 okIn B us tm ob nt E a) :
    SimE W0 okIn B us tm ob nt { E with w := { E.w with drawn := E.w.drawn + 1 } } a := by
  have g : Goes us E { E with w := { E.w with drawn := E.w.drawn + 1 } } := ⟨fun _ _ => rfl, fun _ h => h, fun n _ L h => ⟨L, h, rfl, rfl, rfl⟩⟩
  refine ⟨h.defers, h.size, fun t v ht => ⟨VR.mono g _ _ (h.tmp t v ht).2 (h.tmp t v ht).1, (h.tmp t v ht).2⟩, fun n o ho => ⟨ObjR.mono g (h.obj n o ho).2.1 rfl (fun _ _ => rfl) (h.obj n o ho).1, (h.obj n o ho).2⟩, h.dom, ?_, h.lo⟩
  exact ⟨h.env.inj, h.env.own, h.env.okl, h.env.oki, h.env.fr, h.env.sz, h.env.new, h.env.os, h.env.tape, h.env.output, h.env.li⟩

theorem opv_bool {W0 : WX} {okIn B us : Nat → Prop} {tm : Nat → Option AV} {ob : Nat → Option AO} {nt : Nat} {E : Env} {a : Act} (hs : SimE W0 okIn B us tm ob nt E a) {c : Operand} {t : Bool} (h : opv tm c = .bool t) : a.eval c = .bool t := by
  have := (opv_sound hs c).1
  rw [h] at this
  simpa only [VR] using this

theorem ev_sound {P : Program} [Tabs P] {C : Ctx} (hC : CtxOK P C) (hmix : P.follows .mixedOrders = true) : ∀ (c : Code) (g : Ga) (k : Exit → Ga → Prop), ev P C c g k → Trip P c g k := by
  intro c
  induction c with
  | skip => intro g k h W0 okIn B E a hT hs; exact wp_skip ⟨g, E, h, rfl, hs⟩
  | label l => intro g k h W0 okIn B E a hT hs; exact wp_label ⟨g, E, h, rfl, hs⟩
  | exit id => intro g k h W0 okIn B E a hT hs; exact wp_exit ⟨g, E, h, rfl, hs⟩
  | ret => intro g k h W0 okIn B E a hT hs; exact wp_ret ⟨g, E, h, rfl, hs⟩
  | refuse why => intro g k h; exact h.elim
  | goto l => intro g k h; exact h.elim
  | scope c ih => intro g k h; exact h.elim
  | rangeFunc f p x y ih1 ih2 => intro g k h; exact h.elim
  | loop c ih => intro g k h; exact h.out
  | region id ops draw =>
    intro g k h W0 okIn B E a hT hs
    cases draw with
    | false =>
      rw [ev_region] at h
      simp only at h
      obtain ⟨tr, g', h1, h2, h3, h4⟩ := evOps_runs _ _ _ _ h
      obtain ⟨g2, e2, h2s⟩ := frc_spec ⟨g'.tmps, g'.objs, g.next + (0 + ops.toList.length), g.nt⟩ (fun g'' => k .normal g'')
      rw [e2] at h2
      refine wp_region_list ?_
      have := runs_list hC (hT := hT) h1 (W0 := W0) (okIn := okIn) (B := B) (Q := fun e a' w' => ∃ g' E', k e g' ∧ E'.w = w' ∧ SimG W0 okIn B g' E' a') E a (by simpa [SimG] using hs) (fun E' a' hs' => ⟨_, E', h2, rfl, h2s _ _ _ _ _ hs'⟩)
      simpa using this
    | true =>
      rw [ev_region] at h
      simp only at h
      obtain ⟨tr, g', h1, ⟨⟨hchk⟩, h2⟩, h3, h4⟩ := evOps_runs _ _ _ _ h
      obtain ⟨g2, e2, h2s⟩ := frc_spec ⟨g'.tmps, g'.objs, g.next + (0 + ops.toList.length), g.nt⟩ (fun g'' => k .normal g'')
      rw [e2] at h2
      obtain ⟨m1, m2, m3, m4⟩ := runs_met h1
      refine wp_region_any hmix ?_
      have hlen : tr.length = ops.toList.length := by rw [← m1]; simp
      have hfalse : (fun k => (Array.replicate ops.toList.length false).getD k false) = fun _ => false := by
        funext k
        rw [Array.getD_eq_getD_getElem?]
        by_cases hk : k < ops.toList.length
        · rw [Array.getElem?_replicate, if_pos hk]; rfl
        · rw [Array.getElem?_replicate, if_neg hk]; rfl
      have hv : ∀ {V : Type} (W : Tr → Nat → Option V) (f : Nat → V), foldW W f tr 0 (fun _ => false) = f := by
        intro V W f; funext k; exact foldW_keep W tr 0 _ f fun _ _ _ _ => rfl
      have := any_sound hC (hT := hT) (W0 := W0) (okIn := okIn) (B := B) (base := g.next) (nt := g.nt) (Q := fun e a' w' => ∃ g' E', k e g' ∧ E'.w = w' ∧ SimG W0 okIn B g' E' a') m1 hchk
        (fun j x hj => by have := m2 j x hj; rwa [Nat.zero_add] at this)
        (fun E' a' hs' => ⟨_, E', h2, rfl, h2s _ _ _ _ _ <| by
          rw [← m3, ← m4] at hs'
          simp only [SimG, Nat.zero_add]
          rw [hlen] at hs'
          exact hs'⟩) ops.toList.length (Array.replicate ops.toList.length false) (by simp) (by omega)
        (fun j o hj hS => by rw [congrFun hfalse j] at hS; simp at hS) { E with w := { E.w with drawn := E.w.drawn + 1 } } a (by
          rw [hfalse]
          have e1 : vT (lkA g.tmps) tr (fun _ => false) = lkA g.tmps := hv _ _
          have e2 : vO (lkO g.objs) tr (fun _ => false) = lkO g.objs := hv _ _
          rw [e1, e2]
          exact (SimE.drawn hs).weak fun n hn => .inl hn)
      simpa using this
  | seq x y ihx ihy =>
    intro g k h W0 okIn B E a hT hs
    rw [ev_seq] at h
    refine wp_seq (wp_mono (ihx g _ h W0 okIn B E a hT hs) fun e a' w' hq => ?_)
    obtain ⟨g', E', h1, rfl, h3⟩ := hq
    cases e with
    | normal => exact ihy g' k h1 W0 okIn B E' a' hT h3
    | _ => exact ⟨g', E', h1, rfl, h3⟩
  | cond c x y ihx ihy =>
    intro g k h W0 okIn B E a hT hs
    have hv := opv_sound hs c
    rw [ev_cond] at h
    split at h
    · rename_i t ht
      have hb := opv_bool hs ht
      refine wp_cond_split hb (fun e => ihx _ k (h.1 e) W0 okIn B E a hT (setB_sim hs (by rw [hb, e]))) (fun e => ihy _ k (h.2 e) W0 okIn B E a hT (setB_sim hs (by rw [hb, e])))
    · rename_i w t ht
      obtain ⟨⟨rfl⟩, h⟩ := h
      rw [ht] at hv
      have hb : a.eval c = .bool t := by
        have := hv.1
        rw [VR] at this
        have := this.1 rfl
        simpa only [VR] using this
      exact wp_cond_split hb (fun e => ihx g k (h.1 e) W0 okIn B E a hT hs) (fun e => ihy g k (h.2 e) W0 okIn B E a hT hs)
    · exact h.elim
  | block id c ih =>
    intro g k h W0 okIn B E a hT hs
    rw [ev_block] at h
    refine wp_block (wp_mono (ih g _ h W0 okIn B E a hT hs) fun e a' w' hq => ?_)
    obtain ⟨g', E', h1, rfl, h3⟩ := hq
    cases e with
    | exit id' =>
      simp only [Exit.inBlock]
      simp only at h1
      split at h1
      · rename_i hb; rw [if_pos (beq_true hb)]; exact ⟨g', E', h1, rfl, h3⟩
      · rename_i hb; rw [if_neg (beq_false hb)]; exact ⟨g', E', h1, rfl, h3⟩
    | _ => exact ⟨g', E', h1, rfl, h3⟩

end Go.Tr
