/- Calls by contracts: a table of contracts is a table of calls.
   Conditions: none. -/
import Derived.Test.YtbdgfpfafcjmgaaDoorUC
namespace Go.Tr
open Go
set_option linter.unusedVariables false
set_option linter.unusedSimpArgs false
universe u

structure Ent where
  F : FuncId
  D : FD
  f : D.In → Option D.Out
  dflt : D.Out
  fz : Bool

/-! ### Data that leads nowhere -/

def Sh.noref : Sh → Bool
  | .int _ => true
  | .bool => true
  | .str => true
  | .unit => true
  | .sl _ => false
  | .arr _ e => e.noref
  | .pair a b => a.noref && b.noref
def LD.noref : LD → Bool
  | .sl _ => false
  | .fpt _ _ => false
  | _ => true
def ldsNoref : List LD → Bool
  | [] => true
  | d :: l => d.noref && ldsNoref l
def VD.noref : VD → Bool
  | .leaf d => d.noref
  | .grp s => s.noref
  | .agg l => ldsNoref l
  | .fn _ x y => ldsNoref x && ldsNoref y
def tmNoref : List (Nat × VD) → Bool
  | [] => true
  | (_, v) :: l => v.noref && tmNoref l
def OD.noref : OD → Bool
  | .rows e => e.noref
  | .cells l => ldsNoref l
  | .grp s => s.noref
def obNoref : List (Nat × OD) → Bool
  | [] => true
  | (_, o) :: l => o.noref && obNoref l

theorem LRs.free {w w' : World} {ok ok' : Nat → Prop} : ∀ (s : Sh), s.noref = true → ∀ (x : s.T) (vs : List Value), LRs w ok s x vs → LRs w' ok' s x vs := by
  intro s
  induction s with
  | int k => intro _ x vs h; exact h
  | bool => intro _ x vs h; exact h
  | str => intro _ x vs h; exact h
  | unit => intro _ x vs h; exact h
  | sl e ih => intro hn; simp [Sh.noref] at hn
  | arr n e ih =>
    intro hn x vs h
    simp only [LRs] at h ⊢
    exact ⟨h.1, h.2.1, fun i hi => ih hn _ _ (h.2.2 i hi)⟩
  | pair a b iha ihb =>
    intro hn x vs h
    simp only [Sh.noref, Bool.and_eq_true] at hn
    simp only [LRs] at h ⊢
    obtain ⟨v1, v2, h1, h2, h3⟩ := h
    exact ⟨v1, v2, h1, iha hn.1 _ _ h2, ihb hn.2 _ _ h3⟩

/-! ### Other names -/

def re1 (f : Nat → Nat) (v : AV) : AV :=
  match v with
  | .own n e => .own (f n) e
  | .ptr n off => .ptr (f n) off
  | .epr n e i off => .epr (f n) e i off
  | v => v
def mapA {α β : Type} (f : α → β) : List α → List β
  | [] => []
  | a :: l => f a :: mapA f l
def re2 (f : Nat → Nat) (v : AV) : AV :=
  match v with
  | .agg l => .agg (mapA (re1 f) l)
  | .fn F x y => .fn F (mapA (re1 f) x) (mapA (re1 f) y)
  | v => re1 f v
def AO.re (f : Nat → Nat) (o : AO) : AO :=
  match o with
  | .cells l => .cells (mapA (re1 f) l)
  | o => o
theorem mapA_eq {α β : Type} (f : α → β) : ∀ l : List α, mapA f l = l.map f
  | [] => rfl
  | a :: l => by simp [mapA, mapA_eq f l]

def reF (k0 : Nat) (rn : List (Nat × Nat)) (nm i : Nat) : Nat :=
  match Nat.beq i k0 with
  | true => nm
  | false => match lkA rn i with
    | some n => n
    | none => nm

/-! ### A call -/

def obR (args : List AV) (ob : Nat → Option AO) (n : Nat) : Option AO :=
  match AV.hass n args with
  | true => ob n
  | false => none
def lfNames (v : AV) : List Nat :=
  match v with
  | .own n _ => [n]
  | .rsl n _ _ _ => [n]
  | .csl n _ _ => [n]
  | .ptr n _ => [n]
  | _ => []
def lfsNames : List AV → List Nat
  | [] => []
  | v :: l => appA (lfNames v) (lfsNames l)
def avNames (v : AV) : List Nat :=
  match v with
  | .agg l => lfsNames l
  | .fn _ x y => appA (lfsNames x) (lfsNames y)
  | v => lfNames v
def argNames : List AV → List Nat
  | [] => []
  | v :: l => appA (avNames v) (argNames l)
def keysIn (p : List (Nat × OD)) : List (Nat × Nat) → Bool
  | [] => true
  | (i, _) :: r => domO p i && keysIn p r
def robIn (k0 : Nat) (rn : List (Nat × Nat)) : List (Nat × OD) → Bool
  | [] => true
  | (i, _) :: r => (match Nat.beq i k0 with
    | true => true
    | false => match lkA rn i with
      | some _ => true
      | none => false) && robIn k0 rn r
/-- The name under which something new comes back: 16, or a row that was nil ahead of the call. -/
def nwI (rn : List (Nat × Nat)) : List (Nat × OD) → Nat
  | [] => 16
  | (i, _) :: r => match Nat.beq i 16 with
    | true => 16
    | false => match lkA rn i with
      | some _ => nwI rn r
      | none => i

def updRob (f : Nat → Nat) : Upd → Upd
  | [] => []
  | (i, o) :: r => (f i, match o with
    | some o => some (o.re f)
    | none => none) :: updRob f r
def updDrop (rn : List (Nat × Nat)) (rob : List (Nat × OD)) : List (Nat × OD) → Upd
  | [] => []
  | (i, _) :: r => match domO rob i with
    | true => updDrop rn rob r
    | false => match lkA rn i with
      | some n => (n, none) :: updDrop rn rob r
      | none => updDrop rn rob r
def updFz (rn : List (Nat × Nat)) (ob : Nat → Option AO) : List Nat → Upd
  | [] => []
  | n :: r => match keptB n rn with
    | true => updFz rn ob r
    | false => match ob n with
      | some (.rows e xs) => (n, some (.frz e xs)) :: updFz rn ob r
      | some (.cells l) => (n, some (.fcl l)) :: updFz rn ob r
      | _ => updFz rn ob r

def fzL (b : Bool) (args : List AV) : Option (List Nat) :=
  match b with
  | true => some (argNames args)
  | false => none

noncomputable def coE (M : Prims) (e : Ent) (args : List AV) (ob : Nat → Option AO) (nm : Nat) : Option CallR :=
  match Nat.beq (lenA args) (lenA e.D.par) with
  | false => none
  | true => frcR (obUni (obR args ob) e.D.pob (tmUni (nth args) e.D.par [])) fun rn => frcN (nwI rn e.D.rob) fun k0 => match injR rn, keysIn e.D.pob rn, robIn k0 rn e.D.rob with
    | true, true, true => match tmDec (fzL e.fz args) rn (obR args ob) (nth args) e.D.par (obDec false (fzL e.fz args) rn (obR args ob) e.D.pob (some ([], ()))) with
      | some (q, x) => some ⟨e.D.Out, chks M q (e.f x), e.dflt,
          fun y => oneA (mapA (re2 (reF k0 rn nm)) (tmVs e.D.res y)),
          fun y => appA (updRob (reF k0 rn nm) (obEnc e.D.rob (tmEnc e.D.res y).2).1) (appA (updDrop rn e.D.rob e.D.pob) (match e.fz with
            | true => updFz rn (obR args ob) (argNames args)
            | false => []))⟩
      | none => none
    | _, _, _ => none

def Ent.st (e : Ent) : Bool := e.D.wf && (e.fz || (tmNoref e.D.res && obNoref e.D.rob))

structure Ent.OK (P : Program) [Tabs P] (e : Ent) : Prop where
  fn : FnX P e.F e.D e.f
  st : e.st = true

noncomputable def coL (M : Prims) (es : List Ent) : CtxO := fun F args ob nm => go M F args ob nm es
 where
  go (M : Prims) (F : FuncId) (args : List AV) (ob : Nat → Option AO) (nm : Nat) : List Ent → Option CallR
    | [] => none
    | e :: r => match Nat.beq F e.F with
      | true => match coE M e args ob nm with
        | some R => some R
        | none => go M F args ob nm r
      | false => go M F args ob nm r

theorem coE_cong {M : Prims} {e : Ent} {args : List AV} {ob ob' : Nat → Option AO} {nm : Nat} (h : ∀ n, AV.hass n args = true → ob n = ob' n) : coE M e args ob nm = coE M e args ob' nm := by
  have : obR args ob = obR args ob' := by
    funext n
    unfold obR
    cases hh : AV.hass n args with
    | true => exact h n hh
    | false => rfl
  unfold coE
  rw [this]

theorem memN_app {n : Nat} : ∀ {l m : List Nat}, memN n (appA l m) = (memN n l || memN n m)
  | [], m => by simp [appA, memN]
  | a :: l, m => by
    simp only [appA, memN]
    cases Nat.beq n a <;> simp [memN_app]
theorem lf_has {n : Nat} {v : AV} (h : memN n (lfNames v) = true) : v.has n = true := by
  cases v <;> simp [lfNames, memN] at h <;> (split at h <;> simp at h <;> rename_i hb <;> simp only [AV.has]; exact hb)
theorem lfs_has {n : Nat} : ∀ {l : List AV}, memN n (lfsNames l) = true → AV.hass n l = true
  | [], h => by simp [lfsNames, memN] at h
  | v :: l, h => by
    simp only [lfsNames, memN_app, Bool.or_eq_true] at h
    simp only [AV.hass, Bool.or_eq_true]
    exact h.imp lf_has lfs_has
theorem av_has {n : Nat} {v : AV} (h : memN n (avNames v) = true) : v.has n = true := by
  cases v with
  | agg l => exact lfs_has h
  | fn f x y =>
    simp only [avNames, memN_app, Bool.or_eq_true] at h
    simp only [AV.has, Bool.or_eq_true]
    exact h.imp lfs_has lfs_has
  | _ => exact lf_has h
theorem arg_has {n : Nat} : ∀ {l : List AV}, memN n (argNames l) = true → AV.hass n l = true
  | [], h => by simp [argNames, memN] at h
  | v :: l, h => by
    simp only [argNames, memN_app, Bool.or_eq_true] at h
    simp only [AV.hass, Bool.or_eq_true]
    exact h.imp av_has arg_has

/-! values under other names, in another world -/

section
variable {E2 E' : Env} {f : Nat → Nat} {rob : List (Nat × OD)}

structure Moves (E2 E' : Env) (f : Nat → Nat) (rob : List (Nat × OD)) (ref : Prop) : Prop where
  w : E'.w = E2.w
  mu : ∀ i, domO rob i = true → E'.mu (f i) = E2.mu i
  ok : ref → ∀ b, E2.ok b → E'.ok b

theorem ld_re {ref : Prop} (m : Moves E2 E' f rob ref) {d : LD} {x : d.T} {z : Value} (hd : inDom rob d = true) (hr : d.noref = true ∨ ref) (h : VR E2 (d.enc x) z) : VR E' (re1 f (d.enc x)) z := by
  cases d <;> simp only [LD.enc, re1, VR] at h ⊢ <;> try exact h
  · rcases hr with hr | hr
    · simp [LD.noref] at hr
    · exact LRs.mono (fun b hb => by rw [m.w]) (m.ok hr) _ _ _ h
  · exact ⟨h.1, fun L hL => h.2 L ((m.mu _ hd).symm.trans hL)⟩
  · exact ⟨h.1, fun L hL => h.2 L ((m.mu _ hd).symm.trans hL)⟩
  · exact ⟨h.1, fun L hL => h.2 L ((m.mu _ hd).symm.trans hL)⟩
  · rcases hr with hr | hr
    · simp [LD.noref] at hr
    · obtain ⟨b, o, cs, h1, h2, h3, h4, h5⟩ := h
      exact ⟨b, o, cs, h1, m.ok hr b h2, h3, h4.mono (by rw [m.w]), LRs.mono (fun b hb => by rw [m.w]) (m.ok hr) _ _ _ h5⟩

theorem lds_re {ref : Prop} (m : Moves E2 E' f rob ref) {R : Type} : ∀ {ds : List LD} {x : ldsTo ds R} {zs : List Value}, ldsIn rob ds = true → (ldsNoref ds = true ∨ ref) → VRL E2 (ldsEnc ds x).1 zs → VRL E' (mapA (re1 f) (ldsEnc ds x).1) zs
  | [], x, zs, _, _, h => by simpa [ldsEnc, mapA, VRL] using h
  | d :: ds, x, zs, hd, hr, h => by
    simp only [ldsIn, Bool.and_eq_true] at hd
    simp only [ldsNoref, Bool.and_eq_true] at hr
    simp only [ldsEnc, mapA, VRL] at h ⊢
    obtain ⟨z, r, rfl, h1, h2⟩ := h
    exact ⟨z, r, rfl, ld_re m hd.1 (hr.imp_left And.left) h1, lds_re m hd.2 (hr.imp_left And.right) h2⟩

theorem encs_re {s : Sh} {x : s.T} : mapA (re1 f) (enc s x) = enc s x := by
  rw [mapA_eq]
  have : ∀ (s : Sh) (x : s.T), ∀ v ∈ enc s x, re1 f v = v := by
    intro s
    induction s with
    | int k => intro x v hv; simp [enc] at hv; subst hv; rfl
    | bool => intro x v hv; simp [enc] at hv; subst hv; rfl
    | str => intro x v hv; simp [enc] at hv; subst hv; rfl
    | sl e ih => intro x v hv; simp [enc] at hv; subst hv; rfl
    | arr n e ih => intro x v hv; simp [enc] at hv
    | unit => intro x v hv; simp [enc] at hv
    | pair a b iha ihb =>
      intro x v hv
      simp only [enc, appA_eq] at hv
      rcases List.mem_append.1 hv with hv | hv
      · exact iha _ v hv
      · exact ihb _ v hv
  have h2 := List.map_congr_left (f := re1 f) (g := id) (l := enc s x) fun v hv => this s x v hv
  simpa using h2

/-- Values of plain data in another world. -/
theorem enc_free {s : Sh} (hn : s.noref = true) {x : s.T} {zs : List Value} (h : VRL E2 (enc s x) zs) : VRL E' (enc s x) zs := by
  have : ∀ (s : Sh), s.noref = true → ∀ (x : s.T), ∀ v ∈ enc s x, ∀ z, VR E2 v z → VR E' v z := by
    intro s
    induction s with
    | int k => intro _ x v hv z hz; simp [enc] at hv; subst hv; simpa [VR] using hz
    | bool => intro _ x v hv z hz; simp [enc] at hv; subst hv; simpa [VR] using hz
    | str => intro _ x v hv z hz; simp [enc] at hv; subst hv; simpa [VR] using hz
    | sl e ih => intro hn; simp [Sh.noref] at hn
    | arr n e ih => intro _ x v hv; simp [enc] at hv
    | unit => intro _ x v hv; simp [enc] at hv
    | pair a b iha ihb =>
      intro hn x v hv
      simp only [Sh.noref, Bool.and_eq_true] at hn
      simp only [enc, appA_eq] at hv
      rcases List.mem_append.1 hv with hv | hv
      · exact iha hn.1 _ v hv
      · exact ihb hn.2 _ v hv
  refine VRL.of_get h.length.symm fun i v hi => ?_
  obtain ⟨z, h1, h2⟩ := h.get hi
  exact ⟨z, h1, this s hn x v (List.mem_of_getElem? hi) z h2⟩

theorem enc_moves {ref : Prop} (m : Moves E2 E' f rob ref) {s : Sh} {x : s.T} (hr : s.noref = true ∨ ref) {zs : List Value} (h : VRL E2 (enc s x) zs) : VRL E' (mapA (re1 f) (enc s x)) zs := by
  rw [encs_re]
  rcases hr with hr | hr
  · exact enc_free hr h
  · refine VRL.mono (us := fun _ => False) ⟨fun b hb => by rw [m.w], m.ok hr, fun n h => h.elim⟩ _ _ ?_ h
    exact enc_nms _ s x

theorem vd_re {ref : Prop} (m : Moves E2 E' f rob ref) {R : Type} {d : VD} {x : d.To R} {z : Value} (hd : d.inD rob = true) (hr : d.noref = true ∨ ref) (h : VR E2 (d.enc x).1 z) : VR E' (re2 f (d.enc x).1) z := by
  cases d with
  | leaf d =>
    have := ld_re m (x := hdC d x) hd hr h
    cases d <;> exact this
  | grp s =>
    simp only [VD.enc, re2, VR] at h ⊢
    obtain ⟨vs, rfl, hv⟩ := h
    exact ⟨vs, rfl, enc_moves m hr hv⟩
  | agg l =>
    simp only [VD.enc, re2, VR] at h ⊢
    obtain ⟨vs, rfl, hv⟩ := h
    exact ⟨vs, rfl, lds_re m hd hr hv⟩
  | fn F a b =>
    simp only [VD.inD, Bool.and_eq_true] at hd
    simp only [VD.noref, Bool.and_eq_true] at hr
    simp only [VD.enc, re2, VR] at h ⊢
    obtain ⟨p, q, rfl, h1, h2⟩ := h
    exact ⟨p, q, rfl, lds_re m hd.1 (hr.imp_left And.left) h1, lds_re m hd.2 (hr.imp_left And.right) h2⟩

theorem tms_re {ref : Prop} (m : Moves E2 E' f rob ref) {R : Type} : ∀ {l : List (Nat × VD)} {x : tmTo l R} {zs : List Value}, tmIn rob l = true → (tmNoref l = true ∨ ref) → VRL E2 (tmVs l x) zs → VRL E' (mapA (re2 f) (tmVs l x)) zs
  | [], x, zs, _, _, h => by simpa [tmVs, tmEnc, mapA, VRL] using h
  | (t, d) :: l, x, zs, hd, hr, h => by
    simp only [tmIn, Bool.and_eq_true] at hd
    simp only [tmNoref, Bool.and_eq_true] at hr
    have e1 : tmVs ((t, d) :: l) x = (d.enc x).1 :: tmVs l (d.enc x).2 := rfl
    rw [e1] at h ⊢
    simp only [mapA, VRL] at h ⊢
    obtain ⟨z, r, rfl, h1, h2⟩ := h
    exact ⟨z, r, rfl, vd_re m hd.1 (hr.imp_left And.left) h1, tms_re m hd.2 (hr.imp_left And.right) h2⟩

theorem od_re {ref : Prop} (m : Moves E2 E' f rob ref) {R : Type} {d : OD} {x : d.To R} {i : Nat} (hi : domO rob i = true) (hd : d.inD rob = true) (hr : d.noref = true ∨ ref) (h : ObjR E2 i (d.enc x).1) : ObjR E' (f i) ((d.enc x).1.re f) := by
  cases d with
  | rows e =>
    obtain ⟨L, h1, h2, h3⟩ := h
    refine ⟨L, (m.mu i hi).trans h1, h2, ?_⟩
    rcases h3 with h3 | ⟨b, cs, T, fr, k1, k2, k3, k4, k5, k6, k7⟩
    · exact .inl h3
    · refine .inr ⟨b, cs, T, fr, k1, k2, by rw [m.w]; exact k3, k4, k5, k6, fun j hj => ?_⟩
      rcases hr with hr | hr
      · exact LRs.free _ hr _ _ (k7 j hj)
      · exact LRs.mono (fun b hb => by rw [m.w]) (m.ok hr) _ _ _ (k7 j hj)
  | cells l =>
    obtain ⟨b, cs, T, fr, h1, h2, h3, h4⟩ := h
    exact ⟨b, cs, T, fr, (m.mu i hi).trans h1, by rw [m.w]; exact h2, h3, lds_re m hd hr h4⟩
  | grp s =>
    obtain ⟨b, cs, T, fr, h1, h2, h3, h4⟩ := h
    exact ⟨b, cs, T, fr, (m.mu i hi).trans h1, by rw [m.w]; exact h2, h3, enc_moves m hr h4⟩

theorem obs_re {ref : Prop} (m : Moves E2 E' f rob ref) {R : Type} : ∀ {l : List (Nat × OD)} {x : obTo l R}, (∀ i, domO l i = true → domO rob i = true) → obIn rob l = true → (obNoref l = true ∨ ref) → (∀ i o, (i, some o) ∈ (obEnc l x).1 → ObjR E2 i o) →
    ∀ n r, (n, r) ∈ updRob f (obEnc l x).1 → ∃ i o, domO l i = true ∧ n = f i ∧ r = some o ∧ ObjR E' n o ∧ ∀ p : Nat → Prop, (∀ j, domO rob j = true → p (f j)) → o.nm p
  | [], x, _, _, _, _, n, r, h => by simp [obEnc, updRob] at h
  | (i, d) :: l, x, hsub, hd, hr, hob, n, r, h => by
    simp only [obIn, Bool.and_eq_true] at hd
    simp only [obNoref, Bool.and_eq_true] at hr
    have hi : domO rob i = true := hsub i (by simp [domO, beq_self])
    simp only [obEnc, updRob] at h
    rcases List.mem_cons.1 h with h | h
    · simp only [Prod.mk.injEq] at h
      obtain ⟨rfl, rfl⟩ := h
      refine ⟨i, _, by simp [domO, beq_self], rfl, rfl, od_re m hi hd.1 (hr.imp_left And.left) (hob i _ (by simp [obEnc])), fun p hp => ?_⟩
      have hlf : ∀ (d : LD) (y : d.T), inDom rob d = true → (re1 f (d.enc y)).nm p := by
        intro d y hd
        cases d <;> simp only [LD.enc, re1, AV.nm] <;> first | trivial | exact hp _ hd
      have hls : ∀ (ds : List LD) (y : ldsTo ds (obTo l R)), ldsIn rob ds = true → AV.nms p (mapA (re1 f) (ldsEnc ds y).1) := by
        intro ds
        induction ds with
        | nil => intro y _; simp [ldsEnc, mapA, AV.nms]
        | cons d ds ih =>
          intro y hds
          simp only [ldsIn, Bool.and_eq_true] at hds
          simp only [ldsEnc, mapA, AV.nms]
          exact ⟨hlf d _ hds.1, ih _ hds.2⟩
      cases d with
      | rows e => simp [OD.enc, AO.re, AO.nm]
      | cells ds => exact hls ds _ hd.1
      | grp s => simp only [OD.enc, AO.re, AO.nm, encs_re]; exact enc_nms p _ _
    · obtain ⟨i', o, h1, h2⟩ := obs_re m (fun j hj => hsub j (by simp only [domO]; split <;> first | rfl | exact hj)) hd.2 (hr.imp_left And.right) (fun i' o' ho' => hob i' o' (by simp [obEnc, ho'])) n r h
      exact ⟨i', o, by simp only [domO]; split <;> first | rfl | exact h1, h2⟩

end

end Go.Tr
