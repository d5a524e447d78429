/- Regions, in the order of the text. Regions whose order is open: whatever the order, they come to what the order of the text comes to. Code: what the evaluator says of it is what the model does; loops; states that say less. Conditions: none but those that each theorem states. -/
import Derived.Test.YtdbpknejbpiebaaBB
import Derived.Tactics
import Derived.Deep.LoopGhost
namespace Go.Tr
open Go
universe u
set_option linter.unusedVariables false
set_option linter.unusedSimpArgs false
def resA : AV → AV
  | .ite true a _ => a
  | .ite false _ b => b
  | v => v
theorem resA_sound {E : Env} {v : AV} {x : Value} (h : VR E v x) : VR E (resA v) x := by
  cases v <;> try exact h
  case ite c a b =>
    simp only [VR] at h
    cases c
    · exact h.2 rfl
    · exact h.1 rfl
theorem resA_nm {p : Nat → Prop} {v : AV} (h : v.nm p) : (resA v).nm p := by
  cases v <;> try exact h
  case ite c a b =>
    simp only [AV.nm] at h
    cases c
    · exact h.2
    · exact h.1
theorem splA_eq {v : AV} {k : AV → Prop} (h : splA v k) : k (resA v) := by
  unfold splA at h
  split at h
  · rename_i c a b
    cases c
    · have := h.2 rfl; rwa [fv_eq] at this
    · have := h.1 rfl; rwa [fv_eq] at this
  · rename_i hne
    cases v <;> first | exact h | exact absurd rfl (hne _ _ _)
theorem Ob.iff {p : Prop} : Ob p ↔ p := ⟨fun h => h.out, fun h => ⟨h⟩⟩
theorem evObs_iff {obs : List Prop} {q : Prop} : evObs obs q ↔ (∀ p ∈ obs, p) ∧ q := by
  induction obs with
  | nil => simp [evObs_nil]
  | cons p r ih => simp only [evObs_cons, Ob.iff, ih, List.mem_cons, forall_eq_or_imp, and_assoc]
theorem evObsC_iff {c : Bool} {obs : List Prop} {q : Prop} : evObsC c obs q ↔ (c = true → ∀ p ∈ obs, p) ∧ q := by
  induction obs with
  | nil => simp [evObsC_nil]
  | cons p r ih =>
    simp only [evObsC_cons, Ob.iff, ih, List.mem_cons, forall_eq_or_imp]
    constructor
    · rintro ⟨h1, h2, h3⟩; exact ⟨fun hc => ⟨h1 hc, h2 hc⟩, h3⟩
    · rintro ⟨h1, h2⟩; exact ⟨fun hc => (h1 hc).1, fun hc => (h1 hc).2, h2⟩
def appG (g : Ga) (d : Option Nat) (v : AV) (u : Upd) : Ga :=
  match d with
  | some d => ⟨(d, v) :: g.tmps, appA u g.objs, g.next, g.nt⟩
  | none => ⟨g.tmps, appA u g.objs, g.next, g.nt⟩
theorem frcN_eq {α : Sort u} (n : Nat) (k : Nat → α) : frcN n k = k n := by
  cases n <;> rfl
theorem appK_eq {α : Sort u} : ∀ (l m : Upd) (k : Upd → α), appK l m k = k (appA l m)
  | [], m, k => rfl
  | x :: r, m, k => by rw [appK_cons, appK_eq r m]; rfl
theorem app_eq {α : Sort u} (g : Ga) (d : Option Nat) (v : AV) (w : Upd) (k : Ga → α) : g.app d v w k = k (appG g d v w) := by
  unfold Ga.app appG
  cases d <;> simp only [appK_eq]
theorem appG_tm (g : Ga) (d : Option Nat) (v : AV) (u : Upd) : lkA (appG g d v u).tmps = updT d v (lkA g.tmps) := by
  funext t
  cases d with
  | none => rfl
  | some d => first
    | (simp only [appG, lkA, updT]; done)
    | (simp only [appG, lkA, updT]; rfl)
theorem lkA_app {α : Type} (u w : List (Nat × α)) (n : Nat) : lkA (appA u w) n = match lkA u n with | some r => some r | none => lkA w n := by
  induction u with
  | nil => rfl
  | cons x r ih =>
    obtain ⟨m, y⟩ := x
    simp only [appA, lkA]
    cases Nat.beq n m with
    | true => rfl
    | false => exact ih
theorem appG_ob (g : Ga) (d : Option Nat) (v : AV) (u : Upd) : lkO (appG g d v u).objs = updO u (lkO g.objs) := by
  funext n
  have : (appG g d v u).objs = appA u g.objs := by cases d <;> rfl
  simp only [lkO, this, lkA_app, updO]
  cases lkA u n <;> rfl
theorem appG_next (g : Ga) (d : Option Nat) (v : AV) (u : Upd) : (appG g d v u).next = g.next := by cases d <;> rfl
theorem appG_nt (g : Ga) (d : Option Nat) (v : AV) (u : Upd) : (appG g d v u).nt = g.nt := by cases d <;> rfl
structure Met (P : Program) (C : Ctx) (all : List Oper) (nm : Nat) (tm : Nat → Option AV) (ob : Nat → Option AO) (nt : Nat) (x : Tr) : Prop where
  dst : dstOk nt x.o.dst = true
  args : x.a = opvs tm x.o.op.operands.toList
  step : (gcA all tm x.o = some none ∧ ∃ obs v, opA P C tm ob nm x.o = some ⟨obs, v, x.u⟩ ∧ (∀ p ∈ obs, p) ∧ x.v = resA v) ∨
    (∃ c obs v, gcA all tm x.o = some (some c) ∧ opA P C tm ob nm x.o = some ⟨obs, v, []⟩ ∧ (c = true → ∀ p ∈ obs, p) ∧ x.v = .when c v ∧ x.u = []) ∨
    (∃ v, gcA all tm x.o = some (some false) ∧ x.v = .when false v ∧ x.u = [])
inductive Runs (P : Program) (C : Ctx) (all : List Oper) (base : Nat) : Nat → List Oper → Ga → List Tr → Ga → Prop where
  | nil (i : Nat) (g : Ga) : Runs P C all base i [] g [] g
  | cons (i : Nat) (r : List Oper) (g : Ga) (x : Tr) (tr : List Tr) (g' : Ga) : Met P C all (base + 16 * i) (lkA g.tmps) (lkO g.objs) g.nt x →
      Runs P C all base (i + 1) r (appG g x.o.dst x.v x.u) tr g' → Runs P C all base i (x.o :: r) g (x :: tr) g'
theorem evOps_runs {P : Program} {C : Ctx} {all : List Oper} : ∀ (ops : List Oper) (i : Nat) (g : Ga) (k : List Tr → Ga → Prop), evOps P C all i ops g k →
    ∃ tr g', Runs P C all g.next i ops g tr g' ∧ k tr ⟨g'.tmps, g'.objs, g.next + 16 * (i + ops.length), g.nt⟩ ∧ g'.next = g.next ∧ g'.nt = g.nt
  | [], i, ⟨tm, ob, nx, nt⟩, k, h => ⟨[], ⟨tm, ob, nx, nt⟩, .nil i _, h, rfl, rfl⟩
  | o :: r, i, ⟨tm, ob, nx, nt⟩, k, h => by
    rw [evOps_cons] at h
    simp only [evOp, frcN_eq] at h
    generalize hg : (⟨tm, ob, nx, nt⟩ : Ga) = g at h
    obtain rfl : g.tmps = tm := by rw [← hg]
    obtain rfl : g.objs = ob := by rw [← hg]
    obtain rfl : g.next = nx := by rw [← hg]
    obtain rfl : g.nt = nt := by rw [← hg]
    split at h
    · exact h.elim
    · rename_i hd
      split at h
      · exact h.elim
      · rename_i hgc
        split at h
        · exact h.elim
        · rename_i obs v u hop
          obtain ⟨h1, h2⟩ := evObs_iff.1 h
          have h3 := splA_eq h2
          rw [app_eq] at h3
          obtain ⟨tr, g', g1, g2, g3, g4⟩ := evOps_runs r (i + 1) _ _ h3
          rw [appG_next, appG_nt] at g2
          rw [appG_next] at g1 g3
          rw [appG_nt] at g4
          refine ⟨⟨o, resA v, u, opvs (lkA g.tmps) o.op.operands.toList⟩ :: tr, g', .cons i r g ⟨o, resA v, u, opvs (lkA g.tmps) o.op.operands.toList⟩ tr g' ⟨hd, rfl, .inl ⟨hgc, obs, v, hop, h1, rfl⟩⟩ g1, ?_, g3, g4⟩
          rw [List.length_cons, show i + (r.length + 1) = i + 1 + r.length by omega]
          exact g2
      · rename_i c hgc
        split at h
        · rename_i obs v hop
          obtain ⟨h1, h3⟩ := evObsC_iff.1 h
          rw [app_eq] at h3
          obtain ⟨tr, g', g1, g2, g3, g4⟩ := evOps_runs r (i + 1) _ _ h3
          rw [appG_next, appG_nt] at g2
          rw [appG_next] at g1 g3
          rw [appG_nt] at g4
          refine ⟨⟨o, .when c v, [], opvs (lkA g.tmps) o.op.operands.toList⟩ :: tr, g', .cons i r g ⟨o, .when c v, [], opvs (lkA g.tmps) o.op.operands.toList⟩ tr g' ⟨hd, rfl, .inr (.inl ⟨c, obs, v, hgc, hop, h1, rfl, rfl⟩)⟩ g1, ?_, g3, g4⟩
          rw [List.length_cons, show i + (r.length + 1) = i + 1 + r.length by omega]
          exact g2
        · rename_i hop
          obtain ⟨h1, h3⟩ := evObsC_iff.1 h
          obtain rfl : c = false := by
            cases c with
            | false => rfl
            | true => exact (h1 rfl False (by simp)).elim
          rw [app_eq] at h3
          obtain ⟨tr, g', g1, g2, g3, g4⟩ := evOps_runs r (i + 1) _ _ h3
          rw [appG_next, appG_nt] at g2
          rw [appG_next] at g1 g3
          rw [appG_nt] at g4
          refine ⟨⟨o, .when false (dumA P o.type), [], opvs (lkA g.tmps) o.op.operands.toList⟩ :: tr, g', .cons i r g ⟨o, .when false (dumA P o.type), [], opvs (lkA g.tmps) o.op.operands.toList⟩ tr g' ⟨hd, rfl, .inr (.inr ⟨_, hgc, rfl, rfl⟩)⟩ g1, ?_, g3, g4⟩
          rw [List.length_cons, show i + (r.length + 1) = i + 1 + r.length by omega]
          exact g2
        · exact h.elim
section
variable {W0 : WX} {okIn B us : Nat → Prop} {tm : Nat → Option AV} {ob : Nat → Option AO} {nt : Nat} {E : Env} {a : Act}
theorem getD_bool {tmps : Array Value} {t : Nat} {b : Bool} (h : tmps.getD t undef = .bool b) : tmps[t]? = some (.bool b) := by
  rw [Array.getD_eq_getD_getElem?] at h
  cases hh : tmps[t]? with
  | none => rw [hh] at h; simp [undef] at h
  | some v => rw [hh] at h; simp at h; rw [h]
theorem gcA_wanted {all : List Oper} (hs : SimE W0 okIn B us tm ob nt E a) {o : Oper} :
    (gcA all tm o = some none → Region.wanted o (yielded all.toArray a.tmps) = true) ∧ (∀ c, gcA all tm o = some (some c) → Region.wanted o (yielded all.toArray a.tmps) = c) := by
  unfold gcA Region.wanted
  cases hg : o.guard with
  | none => exact ⟨fun _ => rfl, fun c h => by simp at h⟩
  | some jw =>
    obtain ⟨j, want⟩ := jw
    simp only
    cases hj : nth all j with
    | none => exact ⟨fun h => by simp at h, fun c h => by simp at h⟩
    | some oj =>
      rw [nth_eq] at hj
      simp only
      cases hd : oj.dst with
      | none => exact ⟨fun h => by simp at h, fun c h => by simp at h⟩
      | some t =>
        simp only
        have hy : ∀ v, a.tmps[t]? = v → yielded all.toArray a.tmps j = match v with | some (.bool b) => some b | _ => none := by
          intro v hv
          have hj' : all.toArray[j]? = some oj := by simpa using hj
          simp only [yielded, hj', Option.bind_some, hd, hv]
          cases v with
          | none => rfl
          | some v => cases v <;> rfl
        cases ht : tm t with
        | none => exact ⟨fun h => by simp at h, fun c h => by simp at h⟩
        | some v =>
          have hv := (hs.tmp t v ht).1
          refine ⟨fun h => ?_, fun c h => ?_⟩
          · split at h <;> first | (split at h <;> simp at h; done) | simp at h
          · split at h
            · rename_i b heq
              simp only [Option.some.injEq] at heq
              subst heq
              simp only [VR] at hv
              have := hy _ (getD_bool hv)
              rw [this]
              split at h <;> simp only [Option.some.injEq] at h <;> subst h <;> cases b <;> rfl
            · rename_i g b heq
              simp only [Option.some.injEq] at heq
              subst heq
              simp only [VR] at hv
              cases g with
              | true =>
                have := hy _ (getD_bool (hv.1 rfl))
                rw [this]
                split at h <;> simp only [Option.some.injEq] at h <;> subst h <;> cases b <;> rfl
              | false =>
                have hu := hv.2 rfl
                have hnone : yielded all.toArray a.tmps j = none := by
                  cases hh : a.tmps[t]? with
                  | none => rw [hy _ hh]
                  | some z =>
                    rw [Array.getD_eq_getD_getElem?, hh] at hu
                    simp at hu
                    rw [hy _ hh, hu]
                    rfl
                rw [hnone]
                split at h <;> simp only [Option.some.injEq] at h <;> subst h <;> simp
            · simp at h
theorem met_step {P : Program} [Tabs P] {C : Ctx} (hC : CtxOK1 P C) (hT : TabIn P W0 B) {all : List Oper} {nm : Nat} {x : Tr} (hs : SimE W0 okIn B us tm ob nt E a) (hnm : ∀ n, nm ≤ n → n < nm + 16 → ¬ us n) (hm : Met P C all nm tm ob nt x) (K : Act → World → Prop) (Q : Exit → Act → World → Prop)
    (hK : ∀ E' a', SimE W0 okIn B (usn us nm) (updT x.o.dst x.v tm) (updO x.u ob) nt E' a' → K a' E'.w) :
    (if Region.wanted x.o (yielded all.toArray a.tmps) then x.o.wp P a E.w K Q ∨ (x.o.asks P a E.w ∧ LetsOut Q) else K (a.put x.o.dst undef) E.w) := by
  obtain ⟨hd, ha, hstep⟩ := hm
  obtain ⟨w1, w2⟩ := gcA_wanted (all := all) (o := x.o) hs
  rcases hstep with ⟨hgc, obs, v, hop, hobs, hv⟩ | ⟨c, obs, v, hgc, hop, hobs, hv, hu⟩ | ⟨v, hgc, hv, hu⟩
  · rw [w1 hgc, if_pos rfl]
    refine .inl ?_
    refine opA_sound hC hT hs hnm hop hobs K Q fun E' z hev hz hzn => hK _ _ ?_
    rw [hv]
    exact hs.evo hev hd (resA_sound hz) (resA_nm hzn)
  · rw [w2 c hgc]
    cases c with
    | true =>
      rw [if_pos rfl]
      refine .inl ?_
      refine opA_sound hC hT hs hnm hop (hobs rfl) K Q fun E' z hev hz hzn => hK _ _ ?_
      rw [hv, hu]
      exact hs.evo hev hd (by rw [VR]; exact ⟨fun _ => hz, fun h => by simp at h⟩) (by rw [AV.nm]; exact fun _ => hzn)
    | false =>
      simp only [Bool.false_eq_true, if_false]
      refine hK E _ ?_
      rw [hv, hu]
      exact hs.evo (Evo.refl' hs.env) hd (by rw [VR]; exact ⟨fun h => by simp at h, fun _ => rfl⟩) (by rw [AV.nm]; exact fun h => by simp at h)
  · rw [w2 false hgc]
    simp only [Bool.false_eq_true, if_false]
    refine hK E _ ?_
    rw [hv, hu]
    exact hs.evo (Evo.refl' hs.env) hd (by rw [VR]; exact ⟨fun h => by simp at h, fun _ => rfl⟩) (by rw [AV.nm]; exact fun h => by simp at h)
end
theorem SimE.weak {W0 : WX} {okIn B us us' : Nat → Prop} {tm : Nat → Option AV} {ob : Nat → Option AO} {nt : Nat} {E : Env} {a : Act} (h : SimE W0 okIn B us tm ob nt E a) (hu : ∀ n, us n → us' n) : SimE W0 okIn B us' tm ob nt E a :=
  { h with tmp := fun t v ht => ⟨(h.tmp t v ht).1, AV.nm_mono hu _ (h.tmp t v ht).2⟩, obj := fun n o ho => ⟨(h.obj n o ho).1, AO.nm_mono hu _ (h.obj n o ho).2.1, hu _ (h.obj n o ho).2.2⟩, lo := fun n hn => hu _ (h.lo n hn) }
theorem runs_list {P : Program} [Tabs P] {C : Ctx} (hC : CtxOK1 P C) {W0 : WX} {okIn B : Nat → Prop} (hT : TabIn P W0 B) {all : List Oper} {base : Nat} {Q : Exit → Act → World → Prop} : ∀ {i : Nat} {ops : List Oper} {g g' : Ga} {tr : List Tr}, Runs P C all base i ops g tr g' →
    ∀ (E : Env) (a : Act), SimE W0 okIn B (fun n => n < base + 16 * i) (lkA g.tmps) (lkO g.objs) g.nt E a →
    (∀ E' a', SimE W0 okIn B (fun n => n < base + 16 * (i + ops.length)) (lkA g'.tmps) (lkO g'.objs) g.nt E' a' → Q .normal a' E'.w) → wpList P all.toArray Q ops a E.w := by
  intro i ops g g' tr h
  induction h with
  | nil i g => intro E a hs hQ; exact hQ E a (by simpa using hs)
  | cons i r g x tr g' hm hr ih =>
    intro E a hs hQ
    unfold wpList
    refine met_step hC hT hs (by intro n h1 h2; omega) hm _ Q fun E' a' hs' => ?_
    refine ih E' a' ?_ fun E'' a'' hs'' => hQ E'' a'' ?_
    · rw [appG_tm, appG_ob, appG_nt]
      exact hs'.weak fun n hn => by rcases hn with hn | hn <;> omega
    · rw [appG_nt] at hs''
      rw [List.length_cons, show i + (r.length + 1) = i + 1 + r.length by omega]
      exact hs''
end Go.Tr
namespace Go.Tr
open Go
set_option linter.unusedVariables false
set_option linter.unusedSimpArgs false
section fold
variable {V : Type} (W : Tr → Nat → Option V)
def foldW : (Nat → V) → List Tr → Nat → (Nat → Bool) → Nat → V
  | f, [], _, _ => f
  | f, x :: r, i, S => foldW (if S i then (fun k => (W x k).getD (f k)) else f) r (i + 1) S
theorem foldW_congr {k : Nat} : ∀ (tr : List Tr) (i : Nat) (S S' : Nat → Bool) (f f' : Nat → V), f k = f' k → (∀ j x, tr[j]? = some x → (W x k).isSome = true → S (i + j) = S' (i + j)) → foldW W f tr i S k = foldW W f' tr i S' k
  | [], i, S, S', f, f', hf, _ => hf
  | x :: r, i, S, S', f, f', hf, h => by
    simp only [foldW]
    refine foldW_congr r (i + 1) S S' _ _ ?_ fun j y hj hy => by have := h (j + 1) y (by simpa using hj) hy; rwa [show i + (j + 1) = i + 1 + j by omega] at this
    cases hw : W x k with
    | none =>
      have e1 : (if S i then (fun k => (W x k).getD (f k)) else f) k = f k := by split <;> simp [hw]
      have e2 : (if S' i then (fun k => (W x k).getD (f' k)) else f') k = f' k := by split <;> simp [hw]
      rw [e1, e2, hf]
    | some v =>
      have := h 0 x rfl (by simp [hw])
      simp only [Nat.add_zero] at this
      rw [this]
      split
      · simp [hw]
      · exact hf
theorem foldW_keep {k : Nat} (tr : List Tr) (i : Nat) (S : Nat → Bool) (f : Nat → V) (h : ∀ j x, tr[j]? = some x → (W x k).isSome = true → S (i + j) = false) : foldW W f tr i S k = f k := by
  have h0 : ∀ (tr : List Tr) (i : Nat) (f : Nat → V), foldW W f tr i (fun _ => false) = f := by
    intro tr
    induction tr with
    | nil => intro i f; rfl
    | cons x r ih => intro i f; simp only [foldW, Bool.false_eq_true, if_false]; exact ih _ _
  rw [foldW_congr W tr i S (fun _ => false) f f rfl h, h0]
theorem foldW_last {k : Nat} {v : V} : ∀ (tr : List Tr) (i j : Nat) (S : Nat → Bool) (f : Nat → V) (x : Tr), tr[j]? = some x → W x k = some v → S (i + j) = true → (∀ m y, j < m → tr[m]? = some y → (W y k).isSome = true → S (i + m) = false) →
    foldW W f tr i S k = v
  | [], i, j, S, f, x, hj, _, _, _ => by simp at hj
  | y :: r, i, 0, S, f, x, hj, hw, hS, h => by
    simp only [List.getElem?_cons_zero, Option.some.injEq] at hj
    subst hj
    simp only [Nat.add_zero] at hS
    simp only [foldW, hS, if_true]
    rw [foldW_keep W r (i + 1) S _ fun m z hm hz => by have := h (m + 1) z (by omega) (by simpa using hm) hz; rwa [show i + (m + 1) = i + 1 + m by omega] at this]
    simp [hw]
  | y :: r, i, j + 1, S, f, x, hj, hw, hS, h => by
    simp only [foldW]
    refine foldW_last r (i + 1) j S _ x (by simpa using hj) hw (by rwa [show i + 1 + j = i + (j + 1) by omega]) fun m z hlt hm hz => ?_
    have := h (m + 1) z (by omega) (by simpa using hm) hz
    rwa [show i + (m + 1) = i + 1 + m by omega] at this
theorem foldW_shift : ∀ (tr : List Tr) (i : Nat) (S : Nat → Bool) (f : Nat → V), foldW W f tr (i + 1) S = foldW W f tr i fun k => S (k + 1)
  | [], i, S, f => rfl
  | x :: r, i, S, f => by simp only [foldW]; exact foldW_shift r (i + 1) S _
end fold
def wT (x : Tr) (t : Nat) : Option (Option AV) :=
  match x.o.dst with
  | some d => match Nat.beq t d with
    | true => some (some x.v)
    | false => none
  | none => none
def wO (x : Tr) (n : Nat) : Option (Option AO) := lkA x.u n
theorem updT_w (x : Tr) (tm : Nat → Option AV) : updT x.o.dst x.v tm = fun t => (wT x t).getD (tm t) := by
  funext t
  unfold updT wT
  cases x.o.dst with
  | none => rfl
  | some d => simp only; cases Nat.beq t d <;> rfl
theorem updO_w (x : Tr) (ob : Nat → Option AO) : updO x.u ob = fun n => (wO x n).getD (ob n) := by
  funext n
  unfold updO wO
  cases lkA x.u n <;> rfl
def vT (tm : Nat → Option AV) (tr : List Tr) (S : Nat → Bool) : Nat → Option AV := foldW wT tm tr 0 S
def vO (ob : Nat → Option AO) (tr : List Tr) (S : Nat → Bool) : Nat → Option AO := foldW wO ob tr 0 S
theorem runs_met {P : Program} {C : Ctx} {all : List Oper} {base i : Nat} {ops : List Oper} {g g' : Ga} {tr : List Tr} (h : Runs P C all base i ops g tr g') :
    tr.map (·.o) = ops ∧ (∀ j x, tr[j]? = some x → Met P C all (base + 16 * (i + j)) (vT (lkA g.tmps) tr fun k => decide (k < j)) (vO (lkO g.objs) tr fun k => decide (k < j)) g.nt x) ∧
      lkA g'.tmps = vT (lkA g.tmps) tr (fun k => decide (k < tr.length)) ∧ lkO g'.objs = vO (lkO g.objs) tr (fun k => decide (k < tr.length)) := by
  have hfalse : ∀ {V : Type} (W : Tr → Nat → Option V) (tr : List Tr) (i : Nat) (f : Nat → V), foldW W f tr i (fun k => decide (k < 0)) = f := by
    intro V W tr i f
    funext k
    exact foldW_keep W tr i _ f fun _ _ _ _ => by simp
  induction h with
  | nil i g => exact ⟨rfl, fun j x hj => by simp at hj, (hfalse _ _ _ _).symm, (hfalse _ _ _ _).symm⟩
  | cons i r g x tr g' hm hr ih =>
    obtain ⟨h1, h2, h3, h4⟩ := ih
    rw [appG_tm, appG_nt, appG_ob] at h2
    rw [appG_tm] at h3
    rw [appG_ob] at h4
    have stepT : ∀ (S : Nat → Bool), S 0 = true → vT (lkA g.tmps) (x :: tr) S = vT (updT x.o.dst x.v (lkA g.tmps)) tr fun k => S (k + 1) := by
      intro S hS
      simp only [vT, foldW, hS, if_true, updT_w]
      exact foldW_shift wT tr 0 S _
    have stepO : ∀ (S : Nat → Bool), S 0 = true → vO (lkO g.objs) (x :: tr) S = vO (updO x.u (lkO g.objs)) tr fun k => S (k + 1) := by
      intro S hS
      simp only [vO, foldW, hS, if_true, updO_w]
      exact foldW_shift wO tr 0 S _
    refine ⟨by simp [h1], fun j y hj => ?_, ?_, ?_⟩
    · cases j with
      | zero =>
        simp only [List.getElem?_cons_zero, Option.some.injEq] at hj
        subst hj
        have e1 : vT (lkA g.tmps) (x :: tr) (fun k => decide (k < 0)) = lkA g.tmps := hfalse _ _ _ _
        have e2 : vO (lkO g.objs) (x :: tr) (fun k => decide (k < 0)) = lkO g.objs := hfalse _ _ _ _
        rw [e1, e2]
        exact hm
      | succ j =>
        have := h2 j y (by simpa using hj)
        rw [stepT _ (by simp), stepO _ (by simp)]
        simp only [Nat.add_lt_add_iff_right]
        rwa [show base + 16 * (i + 1 + j) = base + 16 * (i + (j + 1)) by omega] at this
    · rw [h3, stepT _ (by simp)]
      simp only [List.length_cons, Nat.add_lt_add_iff_right]
    · rw [h4, stepO _ (by simp)]
      simp only [List.length_cons, Nat.add_lt_add_iff_right]
def depsIn (S : Nat → Bool) (o : Oper) : Prop := ∀ e ∈ o.after.toList, Region.binds .any e = true → S e.on = true
theorem nthN_eq (l : List Nat) (n : Nat) : nthN l n = l.getD n 0 := by
  induction l generalizing n with
  | nil => simp [nthN]
  | cons a r ih => cases n <;> simp [nthN, ih]
theorem maskA_bit {acc : List Nat} {i : Nat} : ∀ {es : List Edge} {m : Nat}, (maskA acc es m).testBit i = true → m.testBit i = true ∨ ∃ e ∈ es, Region.binds .any e = true ∧ (i = e.on ∨ (acc.getD e.on 0).testBit i = true)
  | [], m, h => .inl h
  | e :: r, m, h => by
    simp only [maskA] at h
    split at h
    · rename_i hb
      rcases maskA_bit h with h | ⟨e', h1, h2, h3⟩
      · have h' : ((m ||| (1 <<< e.on)) ||| nthN acc e.on).testBit i = true := h
        rw [Nat.testBit_or, Nat.testBit_or, Bool.or_eq_true, Bool.or_eq_true, nthN_eq] at h'
        rcases h' with (h' | h') | h'
        · exact .inl h'
        · refine .inr ⟨e, by simp, hb, .inl ?_⟩
          rw [Nat.testBit_shiftLeft] at h'
          simp only [Bool.and_eq_true, decide_eq_true_eq] at h'
          obtain ⟨ha, hb2⟩ := h'
          have : i - e.on = 0 := by
            rcases Nat.eq_zero_or_pos (i - e.on) with h0 | h0
            · exact h0
            · obtain ⟨q, hq⟩ : ∃ q, i - e.on = q + 1 := ⟨i - e.on - 1, by omega⟩
              rw [hq] at hb2
              simp [Nat.testBit_succ] at hb2
          omega
        · exact .inr ⟨e, by simp, hb, .inr h'⟩
      · exact .inr ⟨e', by simp [h1], h2, h3⟩
    · rcases maskA_bit h with h | ⟨e', h1, h2, h3⟩
      · exact .inl h
      · exact .inr ⟨e', by simp [h1], h2, h3⟩
theorem masksA_get : ∀ (ops : List Oper) (acc : List Nat), ∃ l, masksA ops acc = acc ++ l ∧ l.length = ops.length ∧ ∀ j o, ops[j]? = some o → l[j]? = some (maskA ((acc ++ l).take (acc.length + j)) o.after.toList 0)
  | [], acc => ⟨[], by simp [masksA], rfl, fun j o h => by simp at h⟩
  | o :: r, acc => by
    obtain ⟨l, h1, h2, h3⟩ := masksA_get r (appA acc [maskA acc o.after.toList 0])
    rw [appA_eq] at h1 h3
    refine ⟨maskA acc o.after.toList 0 :: l, by simp only [masksA, appA_eq, h1]; simp, by simp [h2], fun j p hj => ?_⟩
    cases j with
    | zero =>
      simp only [List.getElem?_cons_zero, Option.some.injEq] at hj
      subst hj
      simp
    | succ j =>
      have := h3 j p (by simpa using hj)
      simp only [List.getElem?_cons_succ, this, List.length_append, List.length_singleton]
      rw [show acc.length + 1 + j = acc.length + (j + 1) by omega]
      simp
theorem mask_in {ops : List Oper} {S : Nat → Bool} (hcl : ∀ j o, ops[j]? = some o → S j = true → depsIn S o) :
    ∀ (j : Nat) (o : Oper), ops[j]? = some o → depsIn S o → ∀ i, ((masksA ops []).getD j 0).testBit i = true → S i = true := by
  obtain ⟨l, h1, h2, h3⟩ := masksA_get ops []
  rw [h1, List.nil_append]
  intro j
  induction j using Nat.strongRecOn with
  | _ j ih =>
    intro o ho hdep i hi
    have hm := h3 j o ho
    simp only [List.nil_append, List.length_nil, Nat.zero_add] at hm
    rw [List.getD_eq_getElem?_getD, hm] at hi
    simp only [Option.getD_some] at hi
    rcases maskA_bit hi with hi | ⟨e, g1, g2, g3⟩
    · simp at hi
    · have hS := hdep e g1 g2
      rcases g3 with g3 | g3
      · rw [g3]; exact hS
      · have hlt : e.on < j := by
          rcases Nat.lt_or_ge e.on j with hlt | hge
          · exact hlt
          · rw [List.getD_eq_getElem?_getD, List.getElem?_eq_none (by simp; omega)] at g3
            simp at g3
        have hjl : j < ops.length := by
          rcases Nat.lt_or_ge j ops.length with h | h
          · exact h
          · rw [List.getElem?_eq_none h] at ho; simp at ho
        have ho' : ops[e.on]? = some (ops[e.on]'(by omega)) := List.getElem?_eq_getElem _
        refine ih e.on hlt _ ho' (hcl _ _ ho' hS) i ?_
        rw [List.getD_eq_getElem?_getD] at g3 ⊢
        rwa [List.getElem?_take, if_pos hlt] at g3
theorem chkRow_spec {all : List Oper} {m : Nat} {y : Tr} : ∀ {tr : List Tr} {i : Nat}, chkRow all m y i tr = true → ∀ k x, tr[k]? = some x → confA all x y = true ∨ confA all y x = true → m.testBit (i + k) = true
  | [], i, _, k, x, hk, _ => by simp at hk
  | z :: r, i, h, k, x, hk, hc => by
    simp only [chkRow, Bool.and_eq_true, Bool.or_eq_true, Bool.not_eq_true', Bool.or_eq_false_iff] at h
    cases k with
    | zero =>
      simp only [List.getElem?_cons_zero, Option.some.injEq] at hk
      subst hk
      rcases h.1 with h1 | h1
      · simpa using h1
      · rcases hc with hc | hc
        · rw [h1.1] at hc; simp at hc
        · rw [h1.2] at hc; simp at hc
    | succ k =>
      have := chkRow_spec h.2 k x (by simpa using hk) hc
      rwa [show i + (k + 1) = i + 1 + k by omega]
theorem chkRows_spec {all : List Oper} : ∀ {ms : List Nat} {tr seen : List Tr} {j : Nat}, chkRows all ms tr seen j = true → seen.length = j →
    ∀ k y, tr[k]? = some y → backA (j + k) y.o.after.toList = true ∧ ∀ i x, i < j + k → (seen ++ tr)[i]? = some x → confA all x y = true ∨ confA all y x = true → (ms.getD k 0).testBit i = true
  | ms, [], seen, j, _, _, k, y, hk => by simp at hk
  | [], z :: r, seen, j, h, _, k, y, hk => by simp [chkRows] at h
  | m :: ms, z :: r, seen, j, h, hlen, k, y, hk => by
    simp only [chkRows, Bool.and_eq_true] at h
    obtain ⟨⟨h1, h2⟩, h3⟩ := h
    rw [appA_eq] at h3
    cases k with
    | zero =>
      simp only [List.getElem?_cons_zero, Option.some.injEq] at hk
      subst hk
      refine ⟨h1, fun i x hi hx hc => ?_⟩
      have hx' : seen[i]? = some x := by
        rw [List.getElem?_append_left (by omega)] at hx; exact hx
      simpa using chkRow_spec h2 i x hx' hc
    | succ k =>
      obtain ⟨g1, g2⟩ := chkRows_spec h3 (by simp [hlen]) k y (by simpa using hk)
      rw [show j + 1 + k = j + (k + 1) by omega] at g1 g2
      refine ⟨g1, fun i x hi hx hc => ?_⟩
      simpa using g2 i x hi (by simpa using hx) hc
theorem backA_spec {j : Nat} : ∀ {es : List Edge}, backA j es = true → ∀ e ∈ es, Region.binds .any e = true → e.on < j
  | [], _, e, he, _ => by simp at he
  | f :: r, h, e, he, hb => by
    simp only [backA] at h
    split at h
    · simp at h
    · rename_i hne
      rcases List.mem_cons.1 he with rfl | he
      · cases hlt : Nat.blt e.on j with
        | true => exact Nat.le_of_ble_eq_true hlt
        | false => exact absurd hlt (hne hb)
      · exact backA_spec h e he hb
theorem chkA_spec {all : List Oper} {tr : List Tr} (h : chkA all tr = true) : ∀ j y, tr[j]? = some y →
    (∀ e ∈ y.o.after.toList, Region.binds .any e = true → e.on < j) ∧ ∀ i x, i < j → tr[i]? = some x → confA all x y = true ∨ confA all y x = true → ((masksA all []).getD j 0).testBit i = true := by
  intro j y hj
  obtain ⟨h1, h2⟩ := chkRows_spec h rfl j y hj
  rw [Nat.zero_add] at h1 h2
  exact ⟨backA_spec h1, fun i x hi hx hc => h2 i x hi (by simpa using hx) hc⟩
theorem memN_iff {n : Nat} : ∀ {l : List Nat}, memN n l = true ↔ n ∈ l
  | [] => by simp [memN]
  | m :: r => by
    simp only [memN, List.mem_cons]
    split
    · rename_i h; simp [beq_true h]
    · rename_i h; simp [beq_false h, memN_iff (l := r)]
theorem mem_tmpsOf {t : Nat} : ∀ {l : List Operand}, .tmp t ∈ l → t ∈ tmpsOf l
  | [], h => by simp at h
  | x :: r, h => by
    rcases List.mem_cons.1 h with rfl | h
    · simp [tmpsOf]
    · have := mem_tmpsOf h
      cases x <;> simp only [tmpsOf, List.mem_cons] <;> first | exact .inr this | exact this
theorem looks_sub {all : List Oper} {o : Oper} {t : Nat} (h : t ∈ tmpsOf o.op.operands.toList) : t ∈ looksA all o := by
  unfold looksA
  split
  · exact h
  · split
    · split <;> simp [h]
    · exact h
theorem anyU_iff {u : Upd} {p : Nat → Bool} : anyU u p = true ↔ ∃ n r, (n, r) ∈ u ∧ p n = true := by
  induction u with
  | nil => simp [anyU]
  | cons x r ih =>
    obtain ⟨n, q⟩ := x
    simp only [anyU, Bool.or_eq_true, ih, List.mem_cons, Prod.mk.injEq]
    constructor
    · rintro (h | ⟨m, s, h1, h2⟩)
      · exact ⟨n, q, .inl ⟨rfl, rfl⟩, h⟩
      · exact ⟨m, s, .inr h1, h2⟩
    · rintro ⟨m, s, ⟨rfl, rfl⟩ | h1, h2⟩
      · exact .inl h2
      · exact .inr ⟨m, s, h1, h2⟩
theorem lkA_mem {α : Type} {l : List (Nat × α)} {n : Nat} (h : (lkA l n).isSome = true) : ∃ r, (n, r) ∈ l := by
  induction l with
  | nil => simp [lkA] at h
  | cons x r ih =>
    obtain ⟨m, y⟩ := x
    simp only [lkA] at h
    split at h
    · rename_i hb; exact ⟨y, by simp [beq_true hb]⟩
    · obtain ⟨q, hq⟩ := ih h; exact ⟨q, by simp [hq]⟩
theorem conf_tmp {all : List Oper} {x y : Tr} {t : Nat} (ht : t ∈ looksA all x.o ∨ x.o.dst = some t) (hw : (wT y t).isSome = true) : confA all x y = true := by
  unfold wT at hw
  unfold confA
  cases hd : y.o.dst with
  | none => rw [hd] at hw; simp at hw
  | some d =>
    rw [hd] at hw
    simp only at hw
    split at hw
    · rename_i hb
      have := beq_true hb
      subst this
      rcases ht with ht | ht
      · simp [memN_iff.2 ht]
      · simp [ht, beq_self]
    · simp at hw
theorem conf_obj {all : List Oper} {x y : Tr} {n : Nat} (ht : (rdO x.o.op = true ∧ AV.hass n x.a = true) ∨ (wO x n).isSome = true) (hw : (wO y n).isSome = true) : confA all x y = true := by
  unfold confA
  obtain ⟨r, hr⟩ := lkA_mem hw
  have : anyU y.u (fun n => (rdO x.o.op && AV.hass n x.a) || touchA x.u n) = true := by
    refine anyU_iff.2 ⟨n, r, hr, ?_⟩
    rcases ht with ht | ht
    · simp [ht]
    · unfold wO at ht
      unfold touchA
      cases hl : lkA x.u n with
      | none => rw [hl] at ht; simp at ht
      | some q => simp
  rw [this]
  simp
section
variable {P : Program} [Tabs P] {C : Ctx} {tm0 : Nat → Option AV} {ob0 : Nat → Option AO} {nt base : Nat} {tr : List Tr} {all : List Oper}
theorem agree (hall : tr.map (·.o) = all) (hchk : chkA all tr = true) {S : Nat → Bool} (hcl : ∀ j o, all[j]? = some o → S j = true → depsIn S o) {i : Nat} {x : Tr} (hi : tr[i]? = some x) (hdep : depsIn S x.o) (hSi : S i = false)
    {j : Nat} {y : Tr} (hj : tr[j]? = some y) (hc : confA all x y = true) : S j = decide (j < i) := by
  have hget : ∀ (k : Nat) (z : Tr), tr[k]? = some z → all[k]? = some z.o := by
    intro k z hk
    rw [← hall, List.getElem?_map, hk]
    rfl
  rcases Nat.lt_trichotomy j i with hlt | heq | hgt
  · rw [decide_eq_true hlt]
    exact mask_in hcl i x.o (hget i x hi) hdep j ((chkA_spec hchk i x hi).2 j y hlt hj (.inr hc))
  · subst heq
    rw [hSi]
    simp
  · rw [decide_eq_false (by omega)]
    cases hS : S j with
    | false => rfl
    | true =>
      have := mask_in hcl j y.o (hget j y hj) (hcl j y.o (hget j y hj) hS) i ((chkA_spec hchk j y hj).2 i x hgt hi (.inl hc))
      rw [hSi] at this
      simp at this
theorem met_any (hC : CtxOK P C) (hall : tr.map (·.o) = all) (hchk : chkA all tr = true) {S : Nat → Bool} (hcl : ∀ j o, all[j]? = some o → S j = true → depsIn S o) {i nm : Nat} {x : Tr} (hi : tr[i]? = some x) (hdep : depsIn S x.o) (hSi : S i = false)
    (hm : Met P C all nm (vT tm0 tr fun k => decide (k < i)) (vO ob0 tr fun k => decide (k < i)) nt x) : Met P C all nm (vT tm0 tr S) (vO ob0 tr S) nt x := by
  have hag := fun {j y} => agree (j := j) (y := y) hall hchk hcl hi hdep hSi
  have hT : ∀ t, t ∈ looksA all x.o → vT tm0 tr S t = vT tm0 tr (fun k => decide (k < i)) t := fun t ht =>
    foldW_congr wT tr 0 _ _ _ _ rfl fun j y hj hw => by rw [Nat.zero_add]; exact hag hj (conf_tmp (.inl ht) hw)
  have hO : rdO x.o.op = true → ∀ n, AV.hass n x.a = true → vO ob0 tr S n = vO ob0 tr (fun k => decide (k < i)) n := fun hr n hn =>
    foldW_congr wO tr 0 _ _ _ _ rfl fun j y hj hw => by rw [Nat.zero_add]; exact hag hj (conf_obj (.inl ⟨hr, hn⟩) hw)
  have hopv : ∀ z ∈ x.o.op.operands.toList, opv (vT tm0 tr fun k => decide (k < i)) z = opv (vT tm0 tr S) z := by
    intro z hz
    cases z with
    | tmp t => simp only [opv, hT t (looks_sub (mem_tmpsOf hz))]
    | _ => rfl
  have hopvs : opvs (vT tm0 tr fun k => decide (k < i)) x.o.op.operands.toList = opvs (vT tm0 tr S) x.o.op.operands.toList := by
    have : ∀ l : List Operand, (∀ z ∈ l, opv (vT tm0 tr fun k => decide (k < i)) z = opv (vT tm0 tr S) z) → opvs (vT tm0 tr fun k => decide (k < i)) l = opvs (vT tm0 tr S) l := by
      intro l
      induction l with
      | nil => intro _; rfl
      | cons z r ih => intro h; simp only [opvs]; rw [h z (by simp), ih fun y hy => h y (by simp [hy])]
    exact this _ hopv
  obtain ⟨h1, h2, h3⟩ := hm
  have hop : opA P C (vT tm0 tr fun k => decide (k < i)) (vO ob0 tr fun k => decide (k < i)) nm x.o = opA P C (vT tm0 tr S) (vO ob0 tr S) nm x.o :=
    opA_congr hC hopv fun hr n hn => (hO hr n (by rw [h2]; exact hn)).symm
  have hgc : gcA all (vT tm0 tr fun k => decide (k < i)) x.o = gcA all (vT tm0 tr S) x.o := by
    unfold gcA
    cases hg : x.o.guard with
    | none => rfl
    | some jw =>
      obtain ⟨j, want⟩ := jw
      simp only
      cases hj : nth all j with
      | none => rfl
      | some oj =>
        simp only
        cases hd : oj.dst with
        | none => rfl
        | some t =>
          simp only
          rw [hT t (by unfold looksA; simp [hg, hj, hd])]
  refine ⟨h1, h2.trans hopvs, ?_⟩
  rw [← hop, ← hgc]
  exact h3
theorem view_next (hall : tr.map (·.o) = all) (hchk : chkA all tr = true) {S S' : Nat → Bool} (hcl : ∀ j o, all[j]? = some o → S j = true → depsIn S o) {i : Nat} {x : Tr} (hi : tr[i]? = some x) (hdep : depsIn S x.o) (hSi : S i = false)
    (hS' : ∀ k, S' k = if k = i then true else S k) : updT x.o.dst x.v (vT tm0 tr S) = vT tm0 tr S' ∧ updO x.u (vO ob0 tr S) = vO ob0 tr S' := by
  have hag := fun {j y} => agree (j := j) (y := y) hall hchk hcl hi hdep hSi
  have gen : ∀ {V : Type} (W : Tr → Nat → Option V) (f : Nat → V), (∀ k, (W x k).isSome = true → ∀ (j : Nat) (y : Tr), tr[j]? = some y → (W y k).isSome = true → confA all x y = true) →
      (fun k => (W x k).getD (foldW W f tr 0 S k)) = foldW W f tr 0 S' := by
    intro V W f hconf
    funext k
    cases hw : W x k with
    | none =>
      simp only [Option.getD_none]
      refine foldW_congr W tr 0 S S' f f rfl fun j y hj hy => ?_
      rw [Nat.zero_add, hS']
      split
      · rename_i hji
        subst hji
        rw [hi] at hj
        simp only [Option.some.injEq] at hj
        subst hj
        rw [hw] at hy
        simp at hy
      · rfl
    | some v =>
      simp only [Option.getD_some]
      refine (foldW_last W tr 0 i S' f x hi hw (by rw [Nat.zero_add, hS']; simp) fun m y hlt hm hy => ?_).symm
      rw [Nat.zero_add, hS', if_neg (by omega), hag hm (hconf k (by simp [hw]) m y hm hy)]
      simp; omega
  refine ⟨?_, ?_⟩
  · rw [updT_w]
    refine gen wT tm0 fun k hk j y hj hy => conf_tmp (.inr ?_) hy
    unfold wT at hk
    cases hd : x.o.dst with
    | none => rw [hd] at hk; simp at hk
    | some d =>
      rw [hd] at hk
      simp only at hk
      split at hk
      · rename_i hb; rw [beq_true hb]
      · simp at hk
  · rw [updO_w]
    exact gen wO ob0 fun k hk j y hj hy => conf_obj (.inr hk) hy
end
def usS (base : Nat) (S : Nat → Bool) (n : Nat) : Prop := n < base ∨ ∃ i, S i = true ∧ base + 16 * i ≤ n ∧ n < base + 16 * i + 16
theorem any_sound {P : Program} [Tabs P] {C : Ctx} (hC : CtxOK P C) {W0 : WX} {okIn B : Nat → Prop} (hT : TabIn P W0 B) {all : List Oper} {base nt : Nat} {tm0 : Nat → Option AV} {ob0 : Nat → Option AO} {tr : List Tr} {Q : Exit → Act → World → Prop}
    (hall : tr.map (·.o) = all) (hchk : chkA all tr = true) (hmet : ∀ j x, tr[j]? = some x → Met P C all (base + 16 * j) (vT tm0 tr fun k => decide (k < j)) (vO ob0 tr fun k => decide (k < j)) nt x)
    (hQ : ∀ E a, SimE W0 okIn B (fun n => n < base + 16 * tr.length) (vT tm0 tr fun k => decide (k < tr.length)) (vO ob0 tr fun k => decide (k < tr.length)) nt E a → Q .normal a E.w) :
    ∀ (fuel : Nat) (listed : Array Bool), listed.size = all.length → all.length ≤ fuel + (listed.toList.filter id).length →
      (∀ j o, all[j]? = some o → listed.getD j false = true → depsIn (fun k => listed.getD k false) o) →
      ∀ (E : Env) (a : Act), SimE W0 okIn B (usS base fun k => listed.getD k false) (vT tm0 tr fun k => listed.getD k false) (vO ob0 tr fun k => listed.getD k false) nt E a →
      wpAny P .any all.toArray Q fuel listed a E.w := by
  have hlen : tr.length = all.length := by rw [← hall]; simp
  -- nothing is ready: all is done
  have done : ∀ (listed : Array Bool), listed.size = all.length → Region.ready .any all.toArray listed = [] → ∀ k, k < all.length → listed.getD k false = true := by
    intro listed hsz hr k
    induction k using Nat.strongRecOn with
    | _ k ih =>
      intro hk
      cases hl : listed.getD k false with
      | true => rfl
      | false =>
        exfalso
        have hko : all[k]? = some all[k] := List.getElem?_eq_getElem hk
        have htr : tr[k]? = some (tr[k]'(by omega)) := List.getElem?_eq_getElem _
        have hoo : (tr[k]'(by omega)).o = all[k] := by
          have : (tr.map (·.o))[k]? = some all[k] := by rw [hall]; exact hko
          rw [List.getElem?_map, htr] at this
          simpa using this
        have hback := (chkA_spec hchk k _ htr).1
        rw [hoo] at hback
        have hmem : k ∈ Region.ready .any all.toArray listed := by
          unfold Region.ready
          rw [List.mem_filter]
          refine ⟨by simpa using hk, ?_⟩
          have e1 : listed.getD k true = false := by
            rw [Array.getD_eq_getD_getElem?] at hl ⊢
            rw [Array.getElem?_eq_getElem (by omega)] at hl ⊢
            simpa using hl
          have e2 : all.toArray[k]? = some all[k] := by rw [List.getElem?_toArray]; exact hko
          rw [e1, e2]
          simp only [Bool.not_false, Bool.true_and, Option.map_some, Option.getD_some]
          rw [← Array.all_toList, List.all_eq_true]
          intro e he
          cases hb : Region.binds .any e with
          | false => rfl
          | true =>
            have := hback e he hb
            rw [ih e.on this (by omega)]
            rfl
        rw [hr] at hmem
        simp at hmem
  have finish : ∀ (listed : Array Bool), listed.size = all.length → Region.ready .any all.toArray listed = [] → ∀ (E : Env) (a : Act),
      SimE W0 okIn B (usS base fun k => listed.getD k false) (vT tm0 tr fun k => listed.getD k false) (vO ob0 tr fun k => listed.getD k false) nt E a → Q .normal a E.w := by
    intro listed hsz hr E a hs
    have hd := done listed hsz hr
    have hfun : (fun k => listed.getD k false) = fun k => decide (k < tr.length) := by
      funext k
      by_cases hk : k < all.length
      · rw [hd k hk, decide_eq_true (by omega)]
      · rw [decide_eq_false (by omega), Array.getD_eq_getD_getElem?, Array.getElem?_eq_none (by omega)]
        rfl
    rw [hfun] at hs
    refine hQ E a (hs.weak fun n hn => ?_)
    rcases hn with hn | ⟨i, hi, hi1, hi2⟩
    · omega
    · have := of_decide_eq_true hi
      omega
  intro fuel
  induction fuel with
  | zero =>
    intro listed hsz hcount hcl E a hs
    have hall' : ∀ b ∈ listed.toList, b = true := by
      have hle := List.length_filter_le id listed.toList
      have hl : listed.toList.length = all.length := by simpa using hsz
      have heq : (listed.toList.filter id).length = listed.toList.length := by omega
      intro b hb
      have := (List.length_filter_eq_length_iff.1 heq) b hb
      simpa using this
    have hr : Region.ready .any all.toArray listed = [] := by
      unfold Region.ready
      rw [List.filter_eq_nil_iff]
      intro k hk
      have hk' : k < listed.size := by simp at hk; omega
      have : listed.getD k true = true := by
        rw [Array.getD_eq_getD_getElem?, Array.getElem?_eq_getElem hk']
        exact hall' _ (by simp)
      simp [this]
    exact ⟨hr, finish listed hsz hr E a hs⟩
  | succ fuel ih =>
    intro listed hsz hcount hcl E a hs
    refine ⟨fun hr => finish listed hsz hr E a hs, fun i hi => ?_⟩
    unfold Region.ready at hi
    rw [List.mem_filter] at hi
    obtain ⟨hi1, hi2⟩ := hi
    have hin : i < all.length := by simpa using hi1
    simp only [Bool.and_eq_true, Bool.not_eq_true'] at hi2
    obtain ⟨hnl, hdeps⟩ := hi2
    have hko : all[i]? = some all[i] := List.getElem?_eq_getElem hin
    have htr : tr[i]? = some (tr[i]'(by omega)) := List.getElem?_eq_getElem _
    generalize hx : tr[i]'(by omega) = x at htr
    have hoo : x.o = all[i] := by
      have : (tr.map (·.o))[i]? = some all[i] := by rw [hall]; exact hko
      rw [List.getElem?_map, htr] at this
      simpa using this
    have e2 : all.toArray[i]? = some x.o := by rw [hoo, List.getElem?_toArray]; exact hko
    have hSi : listed.getD i false = false := by
      rw [Array.getD_eq_getD_getElem?] at hnl ⊢
      rw [Array.getElem?_eq_getElem (by omega)] at hnl ⊢
      simpa using hnl
    have hdep : depsIn (fun k => listed.getD k false) x.o := by
      intro e he hb
      rw [e2] at hdeps
      simp only [Option.map_some, Option.getD_some] at hdeps
      rw [← Array.all_toList, List.all_eq_true] at hdeps
      have := hdeps e he
      rw [hb] at this
      simpa using this
    have hS' : ∀ k, (listed.setIfInBounds i true).getD k false = if k = i then true else listed.getD k false := by
      intro k
      rw [Array.getD_eq_getD_getElem?, Array.getD_eq_getD_getElem?, Array.getElem?_setIfInBounds]
      by_cases hki : k = i
      · subst hki
        simp [show k < listed.size by omega]
      · rw [if_neg (Ne.symm hki), if_neg hki]
    obtain ⟨v1, v2⟩ := view_next (tm0 := tm0) (ob0 := ob0) hall hchk hcl htr hdep hSi hS'
    have hm := met_any hC hall hchk hcl htr hdep hSi (hmet i x htr)
    have hnm : ∀ n, base + 16 * i ≤ n → n < base + 16 * i + 16 → ¬ usS base (fun k => listed.getD k false) n := by
      intro n hn1 hn2 hu
      rcases hu with h | ⟨j, hj, hij1, hij2⟩
      · omega
      · have : j = i := by omega
        subst this
        have hj' : listed.getD j false = true := hj
        rw [hSi] at hj'
        simp at hj'
    unfold wpOp
    simp only [e2]
    refine met_step hC.toCtxOK1 hT hs hnm hm _ Q fun E' a' hs' => ?_
    refine ih (listed.setIfInBounds i true) (by simpa using hsz) ?_ ?_ E' a' ?_
    · -- one more is listed
      have hil : i < listed.toList.length := by simp; omega
      have hcnt : ∀ (l : List Bool) (i : Nat) (h : i < l.length), l[i] = false → ((l.set i true).filter id).length = (l.filter id).length + 1 := by
        intro l
        induction l with
        | nil => intro i h; simp at h
        | cons b r ihl =>
          intro i h hb
          cases i with
          | zero =>
            simp only [List.getElem_cons_zero] at hb
            subst hb
            simp
          | succ i =>
            have := ihl i (by simpa using h) (by simpa using hb)
            cases b <;> simp [this]
      have hb : listed.toList[i] = false := by
        rw [Array.getD_eq_getD_getElem?, Array.getElem?_eq_getElem (by omega)] at hSi
        simpa using hSi
      rw [Array.toList_setIfInBounds, hcnt _ i hil hb]
      omega
    · intro j o hj hSj e he hb
      show (listed.setIfInBounds i true).getD e.on false = true
      have hSj' : (listed.setIfInBounds i true).getD j false = true := hSj
      rw [hS'] at hSj' ⊢
      split
      · rfl
      · split at hSj'
        · rename_i hji
          subst hji
          rw [hko] at hj
          simp only [Option.some.injEq] at hj
          subst hj
          rw [← hoo] at he
          exact hdep e he hb
        · exact hcl j o hj hSj' e he hb
    · have hfun : (fun k => (listed.setIfInBounds i true).getD k false) = fun k => (listed.setIfInBounds i true).getD k false := rfl
      rw [v1, v2] at hs'
      refine hs'.weak fun n hn => ?_
      rcases hn with hn | hn
      · rcases hn with hn | ⟨j, hj, hj1⟩
        · exact .inl hn
        · refine .inr ⟨j, ?_, hj1⟩
          show (listed.setIfInBounds i true).getD j false = true
          rw [hS']
          split
          · rfl
          · exact hj
      · refine .inr ⟨i, ?_, hn⟩
        show (listed.setIfInBounds i true).getD i false = true
        rw [hS']
        simp
end Go.Tr
namespace Go.Tr
open Go
set_option linter.unusedVariables false
set_option linter.unusedSimpArgs false
universe u
def SimG (W0 : WX) (okIn B : Nat → Prop) (g : Ga) (E : Env) (a : Act) : Prop :=
  SimE W0 okIn B (fun n => n < g.next) (lkA g.tmps) (lkO g.objs) g.nt E a
def Trip (P : Program) [Tabs P] (c : Code) (g : Ga) (k : Exit → Ga → Prop) : Prop :=
  ∀ (W0 : WX) (okIn B : Nat → Prop) (E : Env) (a : Act), TabIn P W0 B → SimG W0 okIn B g E a →
    c.wp P (fun e a' w' => ∃ g' E', k e g' ∧ E'.w = w' ∧ SimG W0 okIn B g' E' a') a E.w
def hasN (s n : Nat) : Bool := Nat.beq (Nat.land (Nat.shiftRight s n) 1) 1
theorem hasN_eq (a b : Nat) : hasN a b = Nat.testBit a b := by
  have h1 : Nat.testBit a b = decide ((a >>> b) % 2 = 1) := by rw [Nat.testBit_eq_decide_div_mod_eq, Nat.shiftRight_eq_div_pow]
  have h2 : Nat.land (Nat.shiftRight a b) 1 = (a >>> b) % 2 := Nat.and_one_is_mod _
  rw [h1, hasN, h2]
  rcases Nat.mod_two_eq_zero_or_one (a >>> b) with h | h <;> rw [h] <;> rfl
theorem hasN_lor (s m n : Nat) : hasN (Nat.lor s (Nat.shiftLeft 1 m)) n = (hasN s n || decide (m = n)) := by
  rw [hasN_eq, hasN_eq]
  have e : Nat.lor s (Nat.shiftLeft 1 m) = s ||| (1 <<< m) := rfl
  rw [e, Nat.testBit_or, Nat.one_shiftLeft, Nat.testBit_two_pow]
theorem frcT_spec {α : Sort u} : ∀ (l : List (Nat × AV)) (s : Nat) (k : List (Nat × AV) → α), ∃ l', frcT s l k = k l' ∧ ∀ n, lkA l' n = if hasN s n = true then none else lkA l n
  | [], s, k => ⟨[], rfl, fun n => by simp [lkA]⟩
  | (m, v) :: r, s, k => by
    rw [frcT_cons]
    split
    · rename_i hb
      obtain ⟨l', h1, h2⟩ := frcT_spec r s k
      refine ⟨l', h1, fun n => ?_⟩
      rw [h2 n]
      by_cases hs : hasN s n = true
      · rw [if_pos hs, if_pos hs]
      · rw [if_neg hs, if_neg hs]
        simp only [lkA]
        split
        · rename_i he; rw [beq_true he] at hs; exact absurd hb hs
        · rfl
    · rename_i hb
      rw [fv_eq]
      obtain ⟨l', h1, h2⟩ := frcT_spec r (Nat.lor s (Nat.shiftLeft 1 m)) (fun q => k ((m, v) :: q))
      refine ⟨(m, v) :: l', h1, fun n => ?_⟩
      simp only [lkA]
      cases he : Nat.beq n m with
      | true => rw [beq_true he, if_neg (by show ¬ hasN s m = true; rw [show hasN s m = false from hb]; simp)]
      | false =>
        simp only [h2, hasN_lor]
        by_cases hs : hasN s n = true
        · simp [hs]
        · simp [hs, (beq_false he).symm]
theorem frcO_eq {α : Sort u} (o : AO) (k : AO → α) : frcO o k = k o := by
  cases o <;> simp only [frcO, fvl_eq]
theorem lkO_cons (m : Nat) (o : Option AO) (r : Upd) (n : Nat) : lkO ((m, o) :: r) n = if n = m then o else lkO r n := by
  simp only [lkO, lkA]
  cases he : Nat.beq n m with
  | true => rw [if_pos (beq_true he)]
  | false => rw [if_neg (beq_false he)]
theorem frcU_spec {α : Sort u} : ∀ (l : Upd) (s : Nat) (k : Upd → α), ∃ l', frcU s l k = k l' ∧ ∀ n, lkO l' n = if hasN s n = true then none else lkO l n
  | [], s, k => ⟨[], rfl, fun n => by simp [lkO, lkA]⟩
  | (m, o) :: r, s, k => by
    rw [frcU_cons]
    simp only [frcN_eq, frcO_eq]
    split
    · rename_i hb
      obtain ⟨l', h1, h2⟩ := frcU_spec r s k
      refine ⟨l', h1, fun n => ?_⟩
      rw [h2 n]
      by_cases hs : hasN s n = true
      · rw [if_pos hs, if_pos hs]
      · rw [if_neg hs, if_neg hs, lkO_cons]
        rw [if_neg (fun e => by subst e; exact hs hb)]
    · rename_i hb
      cases o with
      | none =>
        obtain ⟨l', h1, h2⟩ := frcU_spec r (Nat.lor s (Nat.shiftLeft 1 m)) k
        refine ⟨l', h1, fun n => ?_⟩
        rw [h2, lkO_cons, hasN_lor]
        by_cases he : n = m
        · subst he; simp
        · by_cases hs : hasN s n = true
          · simp [hs]
          · simp [hs, he, Ne.symm he]
      | some o =>
        obtain ⟨l', h1, h2⟩ := frcU_spec r (Nat.lor s (Nat.shiftLeft 1 m)) (fun q => k ((m, some o) :: q))
        refine ⟨(m, some o) :: l', h1, fun n => ?_⟩
        rw [lkO_cons, lkO_cons, h2, hasN_lor]
        by_cases he : n = m
        · subst he; rw [show hasN s n = false from hb]; simp
        · by_cases hs : hasN s n = true
          · simp [hs, he]
          · simp [hs, he, Ne.symm he]
theorem hasN_zero (n : Nat) : hasN 0 n = false := by rw [hasN_eq]; simp
theorem frc_spec {α : Sort u} (g : Ga) (k : Ga → α) : ∃ g', g.frc k = k g' ∧ ∀ W0 okIn B E a, SimG W0 okIn B g E a → SimG W0 okIn B g' E a := by
  obtain ⟨tm, ob, nx, nt⟩ := g
  simp only [Ga.frc]
  obtain ⟨tm', h1, h2⟩ := frcT_spec tm 0 (fun tm' => frcU 0 ob fun ob' => frcN nx fun nx' => k ⟨tm', ob', nx', nt⟩)
  obtain ⟨ob', h3, h4⟩ := frcU_spec ob 0 (fun ob' => frcN nx fun nx' => k ⟨tm', ob', nx', nt⟩)
  refine ⟨⟨tm', ob', nx, nt⟩, by rw [h1, h3, frcN_eq], fun W0 okIn B E a h => ?_⟩
  have e1 : lkA tm' = lkA tm := by funext n; rw [h2, hasN_zero]; rfl
  have e2 : lkO ob' = lkO ob := by funext n; rw [h4, hasN_zero]; rfl
  simpa only [SimG, e1, e2] using h
structure Looped (P : Program) [Tabs P] (c : Code) (g : Ga) (k : Exit → Ga → Prop) : Prop where
  out : Trip P (.loop c) g k
structure CtxsOK (P : Program) [Tabs P] (C : Bool → Ctx) : Prop where
  l : CtxOK1 P (C false)
  a : CtxOK P (C true)
def Ga.setB (g : Ga) (c : Operand) (b : Bool) : Ga :=
  match c with
  | .tmp i => match g with
    | ⟨tm, ob, nx, nt⟩ => ⟨(i, .bool b) :: tm, ob, nx, nt⟩
  | _ => g
theorem setB_sim {W0 : WX} {okIn B : Nat → Prop} {g : Ga} {E : Env} {a : Act} {c : Operand} {b : Bool} (hs : SimG W0 okIn B g E a) (hv : a.eval c = .bool b) : SimG W0 okIn B (g.setB c b) E a := by
  cases c with
  | tmp i =>
    obtain ⟨tm, ob, nx, nt⟩ := g
    refine ⟨hs.defers, hs.size, fun t v ht => ?_, hs.obj, hs.dom, hs.env, hs.lo⟩
    simp only [Ga.setB, lkA] at ht
    split at ht
    · rename_i he
      obtain rfl := Option.some.inj ht
      obtain rfl := beq_true he
      exact ⟨by simp only [VR]; exact hv, by simp [AV.nm]⟩
    · exact hs.tmp t v ht
  | _ => exact hs
noncomputable def ev (P : Program) [Tabs P] (C : Bool → Ctx) (c : Code) : Ga → (Exit → Ga → Prop) → Prop :=
  Code.rec (motive := fun _ => Ga → (Exit → Ga → Prop) → Prop)
    (skip := fun g k => k .normal g)
    (region := fun _ ops draw g k => match draw with
      | false => evOps P (C false) ops.toList 0 ops.toList g fun _ g' => g'.frc fun g'' => k .normal g''
      | true => evOps P (C true) ops.toList 0 ops.toList g fun tr g' => Ob (chkA ops.toList tr = true) ∧ g'.frc fun g'' => k .normal g'')
    (seq := fun _ _ iha ihb g k => iha g fun e g' => match e with
      | .normal => ihb g' k
      | e => k e g')
    (cond := fun c _ _ iha ihb g k => match opv (lkA g.tmps) c with
      | .bool t => (t = true → iha (g.setB c true) k) ∧ (t = false → ihb (g.setB c false) k)
      | .when w (.bool t) => Ob (w = true) ∧ (t = true → iha g k) ∧ (t = false → ihb g k)
      | _ => False)
    (block := fun id _ ih g k => ih g fun e g' => match e with
      | .exit id' => match Nat.beq id' id with
        | true => k .normal g'
        | false => k (.exit id') g'
      | e => k e g')
    (loop := fun c _ g k => Looped P c g k)
    (rangeFunc := fun _ _ _ _ _ _ _ _ => False)
    (exit := fun id g k => k (.exit id) g)
    (scope := fun _ _ _ _ => False)
    (label := fun _ g k => k .normal g)
    (goto := fun _ _ _ => False)
    (ret := fun g k => k .ret g)
    (refuse := fun _ _ _ => False) c
theorem ev_region (P : Program) [Tabs P] (C : Bool → Ctx) (id : Nat) (ops : Array Oper) (draw : Bool) (g : Ga) (k : Exit → Ga → Prop) : ev P C (.region id ops draw) g k =
    match draw with
    | false => evOps P (C false) ops.toList 0 ops.toList g fun _ g' => g'.frc fun g'' => k .normal g''
    | true => evOps P (C true) ops.toList 0 ops.toList g fun tr g' => Ob (chkA ops.toList tr = true) ∧ g'.frc fun g'' => k .normal g'' := rfl
theorem ev_seq (P : Program) [Tabs P] (C : Bool → Ctx) (a b : Code) (g : Ga) (k : Exit → Ga → Prop) : ev P C (.seq a b) g k =
    ev P C a g fun e g' => match e with
      | .normal => ev P C b g' k
      | e => k e g' := rfl
theorem ev_cond (P : Program) [Tabs P] (C : Bool → Ctx) (c : Operand) (a b : Code) (g : Ga) (k : Exit → Ga → Prop) : ev P C (.cond c a b) g k =
    match opv (lkA g.tmps) c with
    | .bool t => (t = true → ev P C a (g.setB c true) k) ∧ (t = false → ev P C b (g.setB c false) k)
    | .when w (.bool t) => Ob (w = true) ∧ (t = true → ev P C a g k) ∧ (t = false → ev P C b g k)
    | _ => False := rfl
theorem ev_block (P : Program) [Tabs P] (C : Bool → Ctx) (id : Nat) (c : Code) (g : Ga) (k : Exit → Ga → Prop) : ev P C (.block id c) g k =
    ev P C c g fun e g' => match e with
      | .exit id' => match Nat.beq id' id with
        | true => k .normal g'
        | false => k (.exit id') g'
      | e => k e g' := rfl
theorem Trip.mono {P : Program} [Tabs P] {c : Code} {g : Ga} {k k' : Exit → Ga → Prop} (h : Trip P c g k) (hk : ∀ e g, k e g → k' e g) : Trip P c g k' := by
  intro W0 okIn B E a hT hs
  refine wp_mono (h W0 okIn B E a hT hs) fun e a' w' hq => ?_
  obtain ⟨g', E', h1, h2, h3⟩ := hq
  exact ⟨g', E', hk _ _ h1, h2, h3⟩
theorem SimE.drawn {W0 : WX} {okIn B us : Nat → Prop} {tm : Nat → Option AV} {ob : Nat → Option AO} {nt : Nat} {E : Env} {a : Act} (h : SimE W0 okIn B us tm ob nt E a) :
    SimE W0 okIn B us tm ob nt { E with w := { E.w with drawn := E.w.drawn + 1 } } a := by
  have g : Goes us E { E with w := { E.w with drawn := E.w.drawn + 1 } } := ⟨fun _ _ => rfl, fun _ h => h, fun n _ L h => ⟨L, h, rfl, rfl, rfl⟩⟩
  refine ⟨h.defers, h.size, fun t v ht => ⟨VR.mono g _ _ (h.tmp t v ht).2 (h.tmp t v ht).1, (h.tmp t v ht).2⟩, fun n o ho => ⟨ObjR.mono g (h.obj n o ho).2.1 rfl (fun _ _ => rfl) (h.obj n o ho).1, (h.obj n o ho).2⟩, h.dom, ?_, h.lo⟩
  exact ⟨h.env.inj, h.env.own, h.env.okl, h.env.oki, h.env.fr, h.env.sz, h.env.new, h.env.os, h.env.tape, h.env.output, h.env.li⟩
theorem opv_bool {W0 : WX} {okIn B us : Nat → Prop} {tm : Nat → Option AV} {ob : Nat → Option AO} {nt : Nat} {E : Env} {a : Act} (hs : SimE W0 okIn B us tm ob nt E a) {c : Operand} {t : Bool} (h : opv tm c = .bool t) : a.eval c = .bool t := by
  have := (opv_sound hs c).1
  rw [h] at this
  simpa only [VR] using this
theorem ev_sound {P : Program} [Tabs P] {C : Bool → Ctx} (hC : CtxsOK P C) (hmix : P.follows .mixedOrders = true) : ∀ (c : Code) (g : Ga) (k : Exit → Ga → Prop), ev P C c g k → Trip P c g k := by
  intro c
  induction c with
  | skip => intro g k h W0 okIn B E a hT hs; exact wp_skip ⟨g, E, h, rfl, hs⟩
  | label l => intro g k h W0 okIn B E a hT hs; exact wp_label ⟨g, E, h, rfl, hs⟩
  | exit id => intro g k h W0 okIn B E a hT hs; exact wp_exit ⟨g, E, h, rfl, hs⟩
  | ret => intro g k h W0 okIn B E a hT hs; exact wp_ret ⟨g, E, h, rfl, hs⟩
  | refuse why => intro g k h; exact h.elim
  | goto l => intro g k h; exact h.elim
  | scope c ih => intro g k h; exact h.elim
  | rangeFunc f p x y ih1 ih2 => intro g k h; exact h.elim
  | loop c ih => intro g k h; exact h.out
  | region id ops draw =>
    intro g k h W0 okIn B E a hT hs
    cases draw with
    | false =>
      rw [ev_region] at h
      simp only at h
      obtain ⟨tr, g', h1, h2, h3, h4⟩ := evOps_runs _ _ _ _ h
      obtain ⟨g2, e2, h2s⟩ := frc_spec ⟨g'.tmps, g'.objs, g.next + 16 * (0 + ops.toList.length), g.nt⟩ (fun g'' => k .normal g'')
      rw [e2] at h2
      refine wp_region_list ?_
      have := runs_list hC.l (hT := hT) h1 (W0 := W0) (okIn := okIn) (B := B) (Q := fun e a' w' => ∃ g' E', k e g' ∧ E'.w = w' ∧ SimG W0 okIn B g' E' a') E a (by simpa [SimG] using hs) (fun E' a' hs' => ⟨_, E', h2, rfl, h2s _ _ _ _ _ hs'⟩)
      simpa using this
    | true =>
      rw [ev_region] at h
      simp only at h
      obtain ⟨tr, g', h1, ⟨⟨hchk⟩, h2⟩, h3, h4⟩ := evOps_runs _ _ _ _ h
      obtain ⟨g2, e2, h2s⟩ := frc_spec ⟨g'.tmps, g'.objs, g.next + 16 * (0 + ops.toList.length), g.nt⟩ (fun g'' => k .normal g'')
      rw [e2] at h2
      obtain ⟨m1, m2, m3, m4⟩ := runs_met h1
      refine wp_region_any hmix ?_
      have hlen : tr.length = ops.toList.length := by rw [← m1]; simp
      have hfalse : (fun k => (Array.replicate ops.toList.length false).getD k false) = fun _ => false := by
        funext k
        rw [Array.getD_eq_getD_getElem?]
        by_cases hk : k < ops.toList.length
        · rw [Array.getElem?_replicate, if_pos hk]; rfl
        · rw [Array.getElem?_replicate, if_neg hk]; rfl
      have hv : ∀ {V : Type} (W : Tr → Nat → Option V) (f : Nat → V), foldW W f tr 0 (fun _ => false) = f := by
        intro V W f; funext k; exact foldW_keep W tr 0 _ f fun _ _ _ _ => rfl
      have := any_sound hC.a (hT := hT) (W0 := W0) (okIn := okIn) (B := B) (base := g.next) (nt := g.nt) (Q := fun e a' w' => ∃ g' E', k e g' ∧ E'.w = w' ∧ SimG W0 okIn B g' E' a') m1 hchk
        (fun j x hj => by have := m2 j x hj; rwa [Nat.zero_add] at this)
        (fun E' a' hs' => ⟨_, E', h2, rfl, h2s _ _ _ _ _ <| by
          rw [← m3, ← m4] at hs'
          simp only [SimG, Nat.zero_add]
          rw [hlen] at hs'
          exact hs'⟩) ops.toList.length (Array.replicate ops.toList.length false) (by simp) (by omega)
        (fun j o hj hS => by rw [congrFun hfalse j] at hS; simp at hS) { E with w := { E.w with drawn := E.w.drawn + 1 } } a (by
          rw [hfalse]
          have e1 : vT (lkA g.tmps) tr (fun _ => false) = lkA g.tmps := hv _ _
          have e2 : vO (lkO g.objs) tr (fun _ => false) = lkO g.objs := hv _ _
          rw [e1, e2]
          exact (SimE.drawn hs).weak fun n hn => .inl hn)
      simpa using this
  | seq x y ihx ihy =>
    intro g k h W0 okIn B E a hT hs
    rw [ev_seq] at h
    refine wp_seq (wp_mono (ihx g _ h W0 okIn B E a hT hs) fun e a' w' hq => ?_)
    obtain ⟨g', E', h1, rfl, h3⟩ := hq
    cases e with
    | normal => exact ihy g' k h1 W0 okIn B E' a' hT h3
    | _ => exact ⟨g', E', h1, rfl, h3⟩
  | cond c x y ihx ihy =>
    intro g k h W0 okIn B E a hT hs
    have hv := opv_sound hs c
    rw [ev_cond] at h
    split at h
    · rename_i t ht
      have hb := opv_bool hs ht
      refine wp_cond_split hb (fun e => ihx _ k (h.1 e) W0 okIn B E a hT (setB_sim hs (by rw [hb, e]))) (fun e => ihy _ k (h.2 e) W0 okIn B E a hT (setB_sim hs (by rw [hb, e])))
    · rename_i w t ht
      obtain ⟨⟨rfl⟩, h⟩ := h
      rw [ht] at hv
      have hb : a.eval c = .bool t := by
        have := hv.1
        rw [VR] at this
        have := this.1 rfl
        simpa only [VR] using this
      exact wp_cond_split hb (fun e => ihx g k (h.1 e) W0 okIn B E a hT hs) (fun e => ihy g k (h.2 e) W0 okIn B E a hT hs)
    · exact h.elim
  | block id c ih =>
    intro g k h W0 okIn B E a hT hs
    rw [ev_block] at h
    refine wp_block (wp_mono (ih g _ h W0 okIn B E a hT hs) fun e a' w' hq => ?_)
    obtain ⟨g', E', h1, rfl, h3⟩ := hq
    cases e with
    | exit id' =>
      simp only [Exit.inBlock]
      simp only at h1
      split at h1
      · rename_i hb; rw [if_pos (beq_true hb)]; exact ⟨g', E', h1, rfl, h3⟩
      · rename_i hb; rw [if_neg (beq_false hb)]; exact ⟨g', E', h1, rfl, h3⟩
    | _ => exact ⟨g', E', h1, rfl, h3⟩
end Go.Tr
