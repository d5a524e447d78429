/- Contracts of functions: typed arguments, typed results, objects that are handed over.
   Conditions: none. -/
import Derived.Test.YtbdgfpfafcjmgaaDoorUB
namespace Go.Tr
open Go
set_option linter.unusedVariables false
set_option linter.unusedSimpArgs false

/-- What a function takes, and gives: the shapes of its arguments, of the objects to which they lead (names below 16), of its results, of the objects behind the call (16: a new one). -/
structure FD where
  par : List (Nat × VD)
  pob : List (Nat × OD)
  res : List (Nat × VD)
  rob : List (Nat × OD)

@[reducible] def FD.In (D : FD) : Type := tmTo D.par (obTo D.pob Unit)
@[reducible] def FD.Out (D : FD) : Type := tmTo D.res (obTo D.rob Unit)

/-- Keys one behind the other. -/
def keysF : Nat → List (Nat × VD) → Bool
  | _, [] => true
  | i, (j, _) :: l => Nat.beq j i && keysF (i + 1) l
def inDom (l : List (Nat × OD)) (d : LD) : Bool :=
  match d with
  | .own n _ => domO l n
  | .ptr n _ => domO l n
  | .epr n _ _ => domO l n
  | _ => true
def ldsIn (l : List (Nat × OD)) : List LD → Bool
  | [] => true
  | d :: r => inDom l d && ldsIn l r
def VD.inD (l : List (Nat × OD)) : VD → Bool
  | .leaf d => inDom l d
  | .grp _ => true
  | .agg r => ldsIn l r
  | .fn _ x y => ldsIn l x && ldsIn l y
def tmIn (l : List (Nat × OD)) : List (Nat × VD) → Bool
  | [] => true
  | (_, v) :: r => v.inD l && tmIn l r
def OD.inD (l : List (Nat × OD)) : OD → Bool
  | .cells r => ldsIn l r
  | _ => true
def obIn (l : List (Nat × OD)) : List (Nat × OD) → Bool
  | [] => true
  | (_, o) :: r => o.inD l && obIn l r
/-- The objects behind the call are some of those ahead, or the new one; each once. -/
def robOk (p : List (Nat × OD)) : List (Nat × OD) → Bool
  | [] => true
  | (i, _) :: r => (Nat.beq i 16 || (Nat.blt i 16 && domO p i)) && !domO r i && robOk p r
def below16 : List (Nat × OD) → Bool
  | [] => true
  | (i, _) :: r => Nat.blt i 16 && below16 r
def FD.wf (D : FD) : Bool :=
  keysF 0 D.par && keysF 0 D.res && tmOkN 16 D.par && obOkN 16 D.pob && tmIn D.pob D.par && obIn D.pob D.pob && tmIn D.rob D.res && obIn D.rob D.rob && robOk D.pob D.rob

def tmVs {R : Type} (l : List (Nat × VD)) (x : tmTo l R) : List AV := (tmEnc l x).1.map Prod.snd

/-- The contract. -/
def FnX (P : Program) [Tabs P] (F : FuncId) (D : FD) (f : D.In → Option D.Out) : Prop :=
  callable P F ∧ ∀ (x : D.In) (y : D.Out), f x = some y → ∀ (W0 : WX) (E : Env) (vs : List Value), E.w = W0.toWorld → Tabs.G P E.w (fun b => b < E.w.heap.size ∧ ∀ n, ¬ owns E n b) →
    (∀ n m b, owns E n b → owns E m b → n = m) → (∀ n b, owns E n b → b < E.w.heap.size ∧ ¬ E.ok b) → (∀ b, E.ok b → b < E.w.heap.size) →
    (∀ n L, E.mu n = some L → W0.m0 n = some L ∧ domO D.pob n = true) → (∀ n o, (n, some o) ∈ (obEnc D.pob (tmEnc D.par x).2).1 → ObjR E n o) → VRL E (tmVs D.par x) vs →
    Calls P F vs.toArray E.w fun e w' => ∃ z E', e = .returned z ∧ E'.w = w' ∧ VR E' (oneA (tmVs D.res y)) z ∧ (∀ n o, (n, some o) ∈ (obEnc D.rob (tmEnc D.res y).2).1 → ObjR E' n o) ∧
      (∀ n L, E'.mu n = some L → domO D.rob n = true) ∧ EnvOk W0 E.ok (fun b => (∃ n, owns E n b) ∨ W0.heap.size ≤ b) E'

/-! ### A function, evaluated -/

noncomputable def retD (M : Prims) (P : Program) (rs : List ResultVar) (D : FD) : RetF D.Out := fun X g k =>
  match resA' P (lkA g.tmps) (lkO g.objs) rs with
  | none => none
  | some (q, l) => match Nat.beq (lenA l) (lenA D.res) with
    | true => chks M q (match frcR (obUni (lkO g.objs) D.rob (tmUni (nth l) D.res [])) (fun rn => match injR rn, lowR rn with
        | true, true => tmDec none rn (lkO g.objs) (nth l) D.res (obDec true none rn (lkO g.objs) D.rob (some ([], ())))
        | _, _ => none) with
      | some (q', y) => chks M q' (k y)
      | none => none)
    | false => none

theorem retD_nat (P : Program) (rs : List ResultVar) (D : FD) : (retD std P rs D).Nat := by
  refine ⟨fun Y g f y h => ?_⟩
  unfold retD at h ⊢
  split at h
  · simp at h
  · rename_i q l hr
    split at h
    · rename_i hb
      obtain ⟨hq, h⟩ := chks_some h
      split at h
      · rename_i q' z hd
        obtain ⟨hq', h⟩ := chks_some h
        refine ⟨z, h, fun X k => ?_⟩
        have c1 : ∀ {X : Type} (l : List Prop) (x : Option X), (∀ p ∈ l, p) → chks std l x = x := by
          intro X l x hl
          induction l with
          | nil => rfl
          | cons p r ih =>
            show chk p (chks std r x) = x
            rw [chk_pos (hl p (by simp)), ih fun p hp => hl p (by simp [hp])]
        simp only [hr, hb, hd, c1 q _ hq, c1 q' _ hq']
      · simp at h
    · simp at h

noncomputable def fnE (M : Prims) (P : Program) (CO : CtxO) (LS : List (Nat × LoopD)) (D : FD) (fn : Func) (c : Code) (x : D.In) : Option D.Out :=
  match tmEnc D.par x with
  | (tm, y) => match obEnc D.pob y with
    | (ob, _) => Ga.frc ⟨tm, ob, 16, fn.ntmps⟩ fun g => evO M P CO LS (retD M P fn.results.toList D) c D.Out (fun r => r) g fun e g' => match e with
      | .normal => retD M P fn.results.toList D D.Out g' some
      | _ => none

theorem tmEnc_keys {R : Type} : ∀ {l : List (Nat × VD)} {i : Nat} {x : tmTo l R}, keysF i l = true → ∀ {t : Nat} {v : AV}, (t, v) ∈ (tmEnc l x).1 → i ≤ t ∧ (tmVs l x)[t - i]? = some v
  | [], i, x, _, t, v, h => by simp [tmEnc] at h
  | (j, d) :: l, i, x, hk, t, v, h => by
    simp only [keysF, Bool.and_eq_true] at hk
    have hj := beq_true hk.1
    subst hj
    simp only [tmEnc] at h
    rcases List.mem_cons.1 h with h | h
    · simp only [Prod.mk.injEq] at h
      obtain ⟨rfl, rfl⟩ := h
      exact ⟨Nat.le_refl _, by simp [tmVs, tmEnc]⟩
    · obtain ⟨h1, h2⟩ := tmEnc_keys hk.2 h
      refine ⟨by omega, ?_⟩
      rw [show t - j = (t - (j + 1)) + 1 by omega]
      simpa [tmVs, tmEnc] using h2

theorem tmVs_len {R : Type} : ∀ (l : List (Nat × VD)) (x : tmTo l R), (tmVs l x).length = l.length
  | [], x => rfl
  | (j, d) :: l, x => by
    have := tmVs_len l (d.enc x).2
    simp only [tmVs, tmEnc, List.map_cons, List.length_cons, List.length_map] at this ⊢
    omega

theorem VRL.get {E : Env} : ∀ {l : List AV} {vs : List Value}, VRL E l vs → ∀ {i : Nat} {v : AV}, l[i]? = some v → ∃ z, vs[i]? = some z ∧ VR E v z := by
  intro l vs h i v hi
  exact VRL.nth h hi

theorem VRL.of_get {E : Env} : ∀ {l : List AV} {vs : List Value}, l.length = vs.length → (∀ (i : Nat) (v : AV), l[i]? = some v → ∃ z, vs[i]? = some z ∧ VR E v z) → VRL E l vs
  | [], [], _, _ => by simp [VRL]
  | [], _ :: _, h, _ => by simp at h
  | _ :: _, [], h, _ => by simp at h
  | a :: l, z :: vs, hl, h => by
    simp only [VRL]
    refine ⟨z, vs, rfl, ?_, VRL.of_get (by simpa using hl) fun i v hi => ?_⟩
    · obtain ⟨y, h1, h2⟩ := h 0 a rfl
      simp only [List.getElem?_cons_zero, Option.some.injEq] at h1
      subst h1; exact h2
    · obtain ⟨y, h1, h2⟩ := h (i + 1) v (by simpa using hi)
      exact ⟨y, by simpa using h1, h2⟩

theorem oneA_conv {E E' : Env} {l l' : List AV} {z : Value} (hl : l.length = l'.length) (h : VR E (oneA l) z) (hc : ∀ vs, VRL E l vs → VRL E' l' vs) : VR E' (oneA l') z := by
  have key : ∀ {m m' : List AV}, m.length = m'.length → m.length ≠ 1 → VR E (.tup m) z → (∀ vs, VRL E m vs → VRL E' m' vs) → VR E' (.tup m') z := by
    intro m m' _ _ h hc
    simp only [VR] at h ⊢
    obtain ⟨vs, rfl, hv⟩ := h
    exact ⟨vs, rfl, hc vs hv⟩
  match l, l', hl with
  | [], [], hl => exact key hl (by simp) h hc
  | [a], [b], hl =>
    have := hc [z] (by simp only [VRL]; exact ⟨z, [], rfl, h, rfl⟩)
    simp only [VRL] at this
    obtain ⟨v, r, hv, h1, _⟩ := this
    simp only [List.cons.injEq] at hv
    rw [hv.1]; exact h1
  | a :: b :: l, c :: d :: l', hl => exact key hl (by simp) h hc

theorem FnX.of {P : Program} [Tabs P] {CO : CtxO} (hC : CtxOK P (ctxOf CO)) (hmix : P.follows .mixedOrders = true) {LS : List (Nat × LoopD)} (hL : ∀ n D, (n, D) ∈ LS → D.OK) {F : FuncId} {fn : Func} {c : Code} {D : FD} (hwf : D.wf = true) {f : D.In → Option D.Out}
    (hf : P.funcs[F]? = some fn) (hb : fn.body = some c) (hname : (fn.name == "runtime.NumGoroutine") = false) (hle : D.par.length ≤ fn.ntmps) (h : ∀ x, fnE std P CO LS D fn c x = f x) : FnX P F D f := by
  refine ⟨⟨fn, hf, hname, by rw [hb]; rfl⟩, fun x y hxy W0 E vs hw hG hinj hown hok hmu hobj hvs => ?_⟩
  simp only [FD.wf, Bool.and_eq_true] at hwf
  obtain ⟨⟨⟨⟨⟨⟨⟨⟨w1, w2⟩, w3⟩, w4⟩, w5⟩, w6⟩, w7⟩, w8⟩, w9⟩ := hwf
  rw [← h x] at hxy
  have hlen : vs.length = D.par.length := by rw [hvs.length, tmVs_len]
  have hxy' : Ga.frc ⟨(tmEnc D.par x).1, (obEnc D.pob (tmEnc D.par x).2).1, 16, fn.ntmps⟩ (fun g => evO std P CO LS (retD std P fn.results.toList D) c D.Out (fun r => r) g fun e g' => match e with
      | .normal => retD std P fn.results.toList D D.Out g' some
      | _ => none) = some y := hxy
  obtain ⟨g0, hg0, hsub0⟩ := frc_sub ⟨(tmEnc D.par x).1, (obEnc D.pob (tmEnc D.par x).2).1, 16, fn.ntmps⟩ (fun g => evO std P CO LS (retD std P fn.results.toList D) c D.Out (fun r => r) g fun e g' => match e with
      | .normal => retD std P fn.results.toList D D.Out g' some
      | _ => none)
  rw [hg0] at hxy'
  have hs : SimG W0 E.ok (fun b => (∃ n, owns E n b) ∨ W0.heap.size ≤ b) ⟨(tmEnc D.par x).1, (obEnc D.pob (tmEnc D.par x).2).1, 16, fn.ntmps⟩ E { tmps := vs.toArray ++ Array.replicate (fn.ntmps - vs.toArray.size) undef, defers := [] } := by
    refine ⟨rfl, by simp; omega, fun t v ht => ?_, fun n o ho => ?_, fun n L hL => ?_, ?_, fun n hn => hn⟩
    · obtain ⟨_, h2⟩ := tmEnc_keys w1 (lkA_in ht)
      obtain ⟨z, h3, h4⟩ := hvs.get h2
      rw [Nat.sub_zero] at h3
      have hlt : t < vs.length := by
        rcases Nat.lt_or_ge t vs.length with hlt | hge
        · exact hlt
        · rw [List.getElem?_eq_none hge] at h3; simp at h3
      refine ⟨?_, tm_nm _ x w3 t v ht⟩
      have : (vs.toArray ++ Array.replicate (fn.ntmps - vs.toArray.size) undef).getD t undef = z := by
        rw [Array.getD_eq_getD_getElem?, Array.getElem?_append_left (by simpa using hlt)]
        simp [h3]
      rw [this]; exact h4
    · have hnm := ob_nm _ (tmEnc D.par x).2 w4 n o ho
      exact ⟨hobj n o (lkA_in (lkO_some ho)), hnm.1, hnm.2⟩
    · exact ob_dom _ _ n (hmu n L hL).2
    · refine ⟨hinj, fun n b hn => ⟨.inl ⟨n, hn⟩, hown n b hn⟩, fun b hb => ⟨hok b hb, .inl hb⟩, fun b hb => hb, fun _ _ _ => by rw [hw], by rw [hw]; exact Nat.le_refl _, fun b hb => .inr hb, by rw [hw], by rw [hw], by rw [hw], fun n L hL _ => ⟨L, (hmu n L hL).1, rfl, rfl, rfl⟩⟩
  have key : ∀ {g' : Ga} {E' : Env} {a' : Act}, retD std P fn.results.toList D D.Out g' some = some y → SimG W0 E.ok (fun b => (∃ n, owns E n b) ∨ W0.heap.size ≤ b) g' E' a' →
      a'.defers = [] ∧ ∃ z, (results fn a'.tmps).run P E'.w = .ok z E'.w ∧ ∃ z' E'', Ending.returned z = .returned z' ∧ E''.w = E'.w ∧ VR E'' (oneA (tmVs D.res y)) z' ∧ (∀ n o, (n, some o) ∈ (obEnc D.rob (tmEnc D.res y).2).1 → ObjR E'' n o) ∧
      (∀ n L, E''.mu n = some L → domO D.rob n = true) ∧ EnvOk W0 E.ok (fun b => (∃ n, owns E n b) ∨ W0.heap.size ≤ b) E'' := by
    intro g' E' a' hr hs'
    unfold retD at hr
    split at hr
    · simp at hr
    rename_i q l hres
    split at hr
    case h_2 => simp at hr
    rename_i hll
    obtain ⟨hq, hr⟩ := chks_some hr
    split at hr
    case h_2 => simp at hr
    rename_i q' y' hd
    obtain ⟨hq', hr⟩ := chks_some hr
    simp only [Option.some.injEq] at hr
    subst hr
    rw [frcR_eq] at hd
    split at hd
    case h_2 => simp at hd
    rename_i hin hlow
    generalize obUni (lkO g'.objs) D.rob (tmUni (nth l) D.res []) = rn at hd hin hlow
    obtain ⟨z, hz1, hz2⟩ := results_run hs' hres hq
    have hlen2 : l.length = D.res.length := by have := beq_true hll; rwa [lenA_eq, lenA_eq] at this
    have conv : ∀ vs, VRL E' l vs → VRL (convE E' none rn (domO D.rob)) (tmVs D.res y') vs ∧ (∀ n o, (n, some o) ∈ (obEnc D.rob (tmEnc D.res y').2).1 → ObjR (convE E' none rn (domO D.rob)) n o) ∧ (∀ i, domO D.rob i = true → i < 16 → ∃ n, lkA rn i = some n) := by
      intro vs hv
      obtain ⟨q0, y0, g1, g2, g3, g4⟩ := tm_sound (fz := none) (dom := domO D.rob) hs'.ob (val := fun t => vs.getD t undef) (fun t v ht => by
        rw [nth_eq] at ht
        obtain ⟨u, h1, h2⟩ := hv.get ht
        simp only [List.getD_eq_getElem?_getD, h1, Option.getD_some]
        exact h2) hd hq'
      obtain ⟨q1, y1, k1, k2, k3, k4, k5, _⟩ := ob_sound (fz := none) (dom := domO D.rob) hs'.ob g1 g2 (fun _ h => h)
      refine ⟨VRL.of_get (by rw [tmVs_len, hv.length, hlen2]) fun i v hi => ?_, by rw [g3]; exact k4, fun i hi hlt => k5 i hi rfl hlt⟩
      have hlt : i < vs.length := by
        rcases Nat.lt_or_ge i (tmVs D.res y').length with hh | hh
        · rw [tmVs_len] at hh; rw [hv.length]; omega
        · rw [List.getElem?_eq_none hh] at hi; simp at hi
      refine ⟨vs[i], by simp [hlt], ?_⟩
      simp only [tmVs, List.getElem?_map, Option.map_eq_some_iff] at hi
      obtain ⟨⟨t, v'⟩, hm, rfl⟩ := hi
      have hmem := List.mem_of_getElem? hm
      have hv1 := g4 _ hmem
      obtain ⟨_, ht2⟩ := tmEnc_keys w2 hmem
      have hti : t = i := by
        have hkey : ∀ {l : List (Nat × VD)} {R : Type} {x : tmTo l R} {j i : Nat} {p : Nat × AV}, keysF j l = true → (tmEnc l x).1[i]? = some p → p.1 = j + i := by
          intro l
          induction l with
          | nil => intro R x j i p _ hp; simp [tmEnc] at hp
          | cons a l ih =>
            obtain ⟨k, d⟩ := a
            intro R x j i p hk hp
            simp only [keysF, Bool.and_eq_true] at hk
            simp only [tmEnc] at hp
            cases i with
            | zero => simp only [List.getElem?_cons_zero, Option.some.injEq] at hp; subst hp; exact beq_true hk.1
            | succ i => simp only [List.getElem?_cons_succ] at hp; have := ih hk.2 hp; omega
        have := hkey w2 hm
        simpa using this
      subst hti
      simpa [hlt] using hv1
    refine ⟨hs'.defers, z, hz1, z, convE E' none rn (domO D.rob), rfl, rfl, ?_, ?_, ?_, ?_⟩
    · exact oneA_conv (by rw [tmVs_len, hlen2]) hz2 fun vs hv => (conv vs hv).1
    · obtain ⟨vs0, hvs0, hv0⟩ := resA'_sound hs' hres hq
      exact (conv vs0 hv0).2.1
    · intro n L hL
      simp only [convE] at hL
      split at hL
      · assumption
      · simp at hL
    · obtain ⟨vs0, hvs0, hv0⟩ := resA'_sound hs' hres hq
      exact convE_env hs'.env hin hlow (conv vs0 hv0).2.2
  have hT : TabIn P W0 (fun b => (∃ n, owns E n b) ∨ W0.heap.size ≤ b) := by
    refine Tabs.mono _ _ _ _ (fun b hb => ⟨⟨by rw [← hw]; exact hb.1, ?_⟩, by rw [hw]⟩) hG
    rintro (⟨n, hn⟩ | h)
    · exact hb.2 n hn
    · rw [← hw] at h; have := hb.1; omega
  refine calls_of_wp hf hb ?_
  refine wp_mono (Trip.sub hsub0 (ev_sound hC hmix c _ _ (evO_ev hC hmix hL (retD_nat P _ D) c _ _ _ _ y hxy')) W0 E.ok _ E _ hT hs) fun e a' w' hq => ?_
  obtain ⟨g', E', h1, rfl, h3⟩ := hq
  cases e with
  | normal => exact key h1 h3
  | ret => exact key h1 h3
  | exit id => simp [outK] at h1
  | goto l => simp [outK] at h1
  | panic ch => simp [outK] at h1
  | outgrown => simp [outK] at h1

end Go.Tr
