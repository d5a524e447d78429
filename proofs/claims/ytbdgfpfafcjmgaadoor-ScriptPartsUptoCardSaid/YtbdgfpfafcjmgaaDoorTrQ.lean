/- Regions, in the order of the text.
   Conditions: none. -/
import Derived.Test.YtbdgfpfafcjmgaaDoorTrP
import Derived.Tactics
namespace Go.Tr
open Go
universe u
set_option linter.unusedVariables false
set_option linter.unusedSimpArgs false

/-- A call's answer, its condition decided. -/
def resA : AV → AV
  | .ite true a _ => a
  | .ite false _ b => b
  | v => v

theorem resA_sound {E : Env} {v : AV} {x : Value} (h : VR E v x) : VR E (resA v) x := by
  cases v <;> try exact h
  case ite c a b =>
    simp only [VR] at h
    cases c
    · exact h.2 rfl
    · exact h.1 rfl
theorem resA_nm {p : Nat → Prop} {v : AV} (h : v.nm p) : (resA v).nm p := by
  cases v <;> try exact h
  case ite c a b =>
    simp only [AV.nm] at h
    cases c
    · exact h.2
    · exact h.1

theorem splA_eq {v : AV} {k : AV → Prop} (h : splA v k) : k (resA v) := by
  unfold splA at h
  split at h
  · rename_i c a b
    cases c
    · have := h.2 rfl; rwa [fv_eq] at this
    · have := h.1 rfl; rwa [fv_eq] at this
  · rename_i hne
    cases v <;> first | exact h | exact absurd rfl (hne _ _ _)

theorem Ob.iff {p : Prop} : Ob p ↔ p := ⟨fun h => h.out, fun h => ⟨h⟩⟩

theorem evObs_iff {obs : List Prop} {q : Prop} : evObs obs q ↔ (∀ p ∈ obs, p) ∧ q := by
  induction obs with
  | nil => simp [evObs_nil]
  | cons p r ih => simp only [evObs_cons, Ob.iff, ih, List.mem_cons, forall_eq_or_imp, and_assoc]
theorem evObsC_iff {c : Bool} {obs : List Prop} {q : Prop} : evObsC c obs q ↔ (c = true → ∀ p ∈ obs, p) ∧ q := by
  induction obs with
  | nil => simp [evObsC_nil]
  | cons p r ih =>
    simp only [evObsC_cons, Ob.iff, ih, List.mem_cons, forall_eq_or_imp]
    constructor
    · rintro ⟨h1, h2, h3⟩; exact ⟨fun hc => ⟨h1 hc, h2 hc⟩, h3⟩
    · rintro ⟨h1, h2⟩; exact ⟨fun hc => (h1 hc).1, fun hc => (h1 hc).2, h2⟩

def appG (g : Ga) (d : Option Nat) (v : AV) (u : Upd) : Ga :=
  match d with
  | some d => ⟨(d, v) :: g.tmps, appA u g.objs, g.next, g.nt⟩
  | none => ⟨g.tmps, appA u g.objs, g.next, g.nt⟩

theorem frcN_eq {α : Sort u} (n : Nat) (k : Nat → α) : frcN n k = k n := by
  cases n <;> rfl

theorem appK_eq {α : Sort u} : ∀ (l m : Upd) (k : Upd → α), appK l m k = k (appA l m)
  | [], m, k => rfl
  | x :: r, m, k => by rw [appK_cons, appK_eq r m]; rfl

theorem app_eq {α : Sort u} (g : Ga) (d : Option Nat) (v : AV) (w : Upd) (k : Ga → α) : g.app d v w k = k (appG g d v w) := by
  unfold Ga.app appG
  cases d <;> simp only [appK_eq]

theorem appG_tm (g : Ga) (d : Option Nat) (v : AV) (u : Upd) : lkA (appG g d v u).tmps = updT d v (lkA g.tmps) := by
  funext t
  cases d with
  | none => rfl
  | some d => simp only [appG, lkA, updT]; rfl

theorem lkA_app {α : Type} (u w : List (Nat × α)) (n : Nat) : lkA (appA u w) n = match lkA u n with | some r => some r | none => lkA w n := by
  induction u with
  | nil => rfl
  | cons x r ih =>
    obtain ⟨m, y⟩ := x
    simp only [appA, lkA]
    cases Nat.beq n m with
    | true => rfl
    | false => exact ih

theorem appG_ob (g : Ga) (d : Option Nat) (v : AV) (u : Upd) : lkO (appG g d v u).objs = updO u (lkO g.objs) := by
  funext n
  have : (appG g d v u).objs = appA u g.objs := by cases d <;> rfl
  simp only [lkO, this, lkA_app, updO]
  cases lkA u n <;> rfl

theorem appG_next (g : Ga) (d : Option Nat) (v : AV) (u : Upd) : (appG g d v u).next = g.next := by cases d <;> rfl
theorem appG_nt (g : Ga) (d : Option Nat) (v : AV) (u : Upd) : (appG g d v u).nt = g.nt := by cases d <;> rfl

/-- One operation, as it was met: its guard's condition, if it has one; what it yielded; what turned. -/
structure Met (P : Program) (C : Ctx) (all : List Oper) (nm : Nat) (tm : Nat → Option AV) (ob : Nat → Option AO) (nt : Nat) (x : Tr) : Prop where
  dst : dstOk nt x.o.dst = true
  args : x.a = opvs tm x.o.op.operands.toList
  step : (gcA all tm x.o = some none ∧ ∃ obs v, opA P C tm ob nm x.o = some ⟨obs, v, x.u⟩ ∧ (∀ p ∈ obs, p) ∧ x.v = resA v) ∨
    (∃ c obs v, gcA all tm x.o = some (some c) ∧ opA P C tm ob nm x.o = some ⟨obs, v, []⟩ ∧ (c = true → ∀ p ∈ obs, p) ∧ x.v = .when c v ∧ x.u = [])

inductive Runs (P : Program) (C : Ctx) (all : List Oper) (base : Nat) : Nat → List Oper → Ga → List Tr → Ga → Prop where
  | nil (i : Nat) (g : Ga) : Runs P C all base i [] g [] g
  | cons (i : Nat) (r : List Oper) (g : Ga) (x : Tr) (tr : List Tr) (g' : Ga) : Met P C all (base + i) (lkA g.tmps) (lkO g.objs) g.nt x →
      Runs P C all base (i + 1) r (appG g x.o.dst x.v x.u) tr g' → Runs P C all base i (x.o :: r) g (x :: tr) g'

theorem evOps_runs {P : Program} {C : Ctx} {all : List Oper} : ∀ (ops : List Oper) (i : Nat) (g : Ga) (k : List Tr → Ga → Prop), evOps P C all i ops g k →
    ∃ tr g', Runs P C all g.next i ops g tr g' ∧ k tr ⟨g'.tmps, g'.objs, g.next + (i + ops.length), g.nt⟩ ∧ g'.next = g.next ∧ g'.nt = g.nt
  | [], i, ⟨tm, ob, nx, nt⟩, k, h => ⟨[], ⟨tm, ob, nx, nt⟩, .nil i _, h, rfl, rfl⟩
  | o :: r, i, ⟨tm, ob, nx, nt⟩, k, h => by
    rw [evOps_cons] at h
    simp only [evOp, frcN_eq] at h
    generalize hg : (⟨tm, ob, nx, nt⟩ : Ga) = g at h
    obtain rfl : g.tmps = tm := by rw [← hg]
    obtain rfl : g.objs = ob := by rw [← hg]
    obtain rfl : g.next = nx := by rw [← hg]
    obtain rfl : g.nt = nt := by rw [← hg]
    split at h
    · exact h.elim
    · rename_i hd
      split at h
      · exact h.elim
      · rename_i hgc
        split at h
        · exact h.elim
        · rename_i obs v u hop
          obtain ⟨h1, h2⟩ := evObs_iff.1 h
          have h3 := splA_eq h2
          rw [app_eq] at h3
          obtain ⟨tr, g', g1, g2, g3, g4⟩ := evOps_runs r (i + 1) _ _ h3
          rw [appG_next, appG_nt] at g2
          rw [appG_next] at g1 g3
          rw [appG_nt] at g4
          refine ⟨⟨o, resA v, u, opvs (lkA g.tmps) o.op.operands.toList⟩ :: tr, g', .cons i r g ⟨o, resA v, u, opvs (lkA g.tmps) o.op.operands.toList⟩ tr g' ⟨hd, rfl, .inl ⟨hgc, obs, v, hop, h1, rfl⟩⟩ g1, ?_, g3, g4⟩
          rw [List.length_cons, show i + (r.length + 1) = i + 1 + r.length by omega]
          exact g2
      · rename_i c hgc
        split at h
        · rename_i obs v hop
          obtain ⟨h1, h3⟩ := evObsC_iff.1 h
          rw [app_eq] at h3
          obtain ⟨tr, g', g1, g2, g3, g4⟩ := evOps_runs r (i + 1) _ _ h3
          rw [appG_next, appG_nt] at g2
          rw [appG_next] at g1 g3
          rw [appG_nt] at g4
          refine ⟨⟨o, .when c v, [], opvs (lkA g.tmps) o.op.operands.toList⟩ :: tr, g', .cons i r g ⟨o, .when c v, [], opvs (lkA g.tmps) o.op.operands.toList⟩ tr g' ⟨hd, rfl, .inr ⟨c, obs, v, hgc, hop, h1, rfl, rfl⟩⟩ g1, ?_, g3, g4⟩
          rw [List.length_cons, show i + (r.length + 1) = i + 1 + r.length by omega]
          exact g2
        · exact h.elim

section
variable {W0 : WX} {okIn B us : Nat → Prop} {tm : Nat → Option AV} {ob : Nat → Option AO} {nt : Nat} {E : Env} {a : Act}

theorem getD_bool {tmps : Array Value} {t : Nat} {b : Bool} (h : tmps.getD t undef = .bool b) : tmps[t]? = some (.bool b) := by
  rw [Array.getD_eq_getD_getElem?] at h
  cases hh : tmps[t]? with
  | none => rw [hh] at h; simp [undef] at h
  | some v => rw [hh] at h; simp at h; rw [h]

/-- The guard, as the model asks it. -/
theorem gcA_wanted {all : List Oper} (hs : SimE W0 okIn B us tm ob nt E a) {o : Oper} :
    (gcA all tm o = some none → Region.wanted o (yielded all.toArray a.tmps) = true) ∧ (∀ c, gcA all tm o = some (some c) → Region.wanted o (yielded all.toArray a.tmps) = c) := by
  unfold gcA Region.wanted
  cases hg : o.guard with
  | none => exact ⟨fun _ => rfl, fun c h => by simp at h⟩
  | some jw =>
    obtain ⟨j, want⟩ := jw
    simp only
    cases hj : nth all j with
    | none => exact ⟨fun h => by simp at h, fun c h => by simp at h⟩
    | some oj =>
      rw [nth_eq] at hj
      simp only
      cases hd : oj.dst with
      | none => exact ⟨fun h => by simp at h, fun c h => by simp at h⟩
      | some t =>
        simp only
        have hy : ∀ v, a.tmps[t]? = v → yielded all.toArray a.tmps j = match v with | some (.bool b) => some b | _ => none := by
          intro v hv
          have hj' : all.toArray[j]? = some oj := by simpa using hj
          simp only [yielded, hj', Option.bind_some, hd, hv]
          cases v with
          | none => rfl
          | some v => cases v <;> rfl
        cases ht : tm t with
        | none => exact ⟨fun h => by simp at h, fun c h => by simp at h⟩
        | some v =>
          have hv := (hs.tmp t v ht).1
          refine ⟨fun h => ?_, fun c h => ?_⟩
          · split at h <;> first | (split at h <;> simp at h; done) | simp at h
          · split at h
            · rename_i b heq
              simp only [Option.some.injEq] at heq
              subst heq
              simp only [VR] at hv
              have := hy _ (getD_bool hv)
              rw [this]
              split at h <;> simp only [Option.some.injEq] at h <;> subst h <;> cases b <;> rfl
            · rename_i g b heq
              simp only [Option.some.injEq] at heq
              subst heq
              simp only [VR] at hv
              cases g with
              | true =>
                have := hy _ (getD_bool (hv.1 rfl))
                rw [this]
                split at h <;> simp only [Option.some.injEq] at h <;> subst h <;> cases b <;> rfl
              | false =>
                have hu := hv.2 rfl
                have hnone : yielded all.toArray a.tmps j = none := by
                  cases hh : a.tmps[t]? with
                  | none => rw [hy _ hh]
                  | some z =>
                    rw [Array.getD_eq_getD_getElem?, hh] at hu
                    simp at hu
                    rw [hy _ hh, hu]
                    rfl
                rw [hnone]
                split at h <;> simp only [Option.some.injEq] at h <;> subst h <;> simp
            · simp at h

/-- An operation that was met, carried out where what it looks at is as it was met. -/
theorem met_step {P : Program} [Tabs P] {C : Ctx} (hC : CtxOK P C) (hT : TabIn P W0 B) {all : List Oper} {nm : Nat} {x : Tr} (hs : SimE W0 okIn B us tm ob nt E a) (hnm : ¬ us nm) (hm : Met P C all nm tm ob nt x) (K : Act → World → Prop) (Q : Exit → Act → World → Prop)
    (hK : ∀ E' a', SimE W0 okIn B (usn us nm) (updT x.o.dst x.v tm) (updO x.u ob) nt E' a' → K a' E'.w) :
    (if Region.wanted x.o (yielded all.toArray a.tmps) then x.o.wp P a E.w K Q ∨ (x.o.asks P a E.w ∧ LetsOut Q) else K (a.put x.o.dst undef) E.w) := by
  obtain ⟨hd, ha, hstep⟩ := hm
  obtain ⟨w1, w2⟩ := gcA_wanted (all := all) (o := x.o) hs
  rcases hstep with ⟨hgc, obs, v, hop, hobs, hv⟩ | ⟨c, obs, v, hgc, hop, hobs, hv, hu⟩
  · rw [w1 hgc, if_pos rfl]
    refine .inl ?_
    refine opA_sound hC hT hs hnm hop hobs K Q fun E' z hev hz hzn => hK _ _ ?_
    rw [hv]
    exact hs.evo hev hd (resA_sound hz) (resA_nm hzn)
  · rw [w2 c hgc]
    cases c with
    | true =>
      rw [if_pos rfl]
      refine .inl ?_
      refine opA_sound hC hT hs hnm hop (hobs rfl) K Q fun E' z hev hz hzn => hK _ _ ?_
      rw [hv, hu]
      exact hs.evo hev hd (by rw [VR]; exact ⟨fun _ => hz, fun h => by simp at h⟩) (by rw [AV.nm]; exact fun _ => hzn)
    | false =>
      simp only [Bool.false_eq_true, if_false]
      refine hK E _ ?_
      rw [hv, hu]
      exact hs.evo (Evo.refl' hs.env) hd (by rw [VR]; exact ⟨fun h => by simp at h, fun _ => rfl⟩) (by rw [AV.nm]; exact fun h => by simp at h)

end

theorem SimE.weak {W0 : WX} {okIn B us us' : Nat → Prop} {tm : Nat → Option AV} {ob : Nat → Option AO} {nt : Nat} {E : Env} {a : Act} (h : SimE W0 okIn B us tm ob nt E a) (hu : ∀ n, us n → us' n) : SimE W0 okIn B us' tm ob nt E a :=
  { h with tmp := fun t v ht => ⟨(h.tmp t v ht).1, AV.nm_mono hu _ (h.tmp t v ht).2⟩, obj := fun n o ho => ⟨(h.obj n o ho).1, AO.nm_mono hu _ (h.obj n o ho).2.1, hu _ (h.obj n o ho).2.2⟩, lo := fun n hn => hu _ (h.lo n hn) }

theorem runs_list {P : Program} [Tabs P] {C : Ctx} (hC : CtxOK P C) {W0 : WX} {okIn B : Nat → Prop} (hT : TabIn P W0 B) {all : List Oper} {base : Nat} {Q : Exit → Act → World → Prop} : ∀ {i : Nat} {ops : List Oper} {g g' : Ga} {tr : List Tr}, Runs P C all base i ops g tr g' →
    ∀ (E : Env) (a : Act), SimE W0 okIn B (fun n => n < base + i) (lkA g.tmps) (lkO g.objs) g.nt E a →
    (∀ E' a', SimE W0 okIn B (fun n => n < base + (i + ops.length)) (lkA g'.tmps) (lkO g'.objs) g.nt E' a' → Q .normal a' E'.w) → wpList P all.toArray Q ops a E.w := by
  intro i ops g g' tr h
  induction h with
  | nil i g => intro E a hs hQ; exact hQ E a (by simpa using hs)
  | cons i r g x tr g' hm hr ih =>
    intro E a hs hQ
    unfold wpList
    refine met_step hC hT hs (by simp) hm _ Q fun E' a' hs' => ?_
    refine ih E' a' ?_ fun E'' a'' hs'' => hQ E'' a'' ?_
    · rw [appG_tm, appG_ob, appG_nt]
      exact hs'.weak fun n hn => by rcases hn with hn | hn <;> omega
    · rw [appG_nt] at hs''
      rw [List.length_cons, show i + (r.length + 1) = i + 1 + r.length by omega]
      exact hs''

end Go.Tr
