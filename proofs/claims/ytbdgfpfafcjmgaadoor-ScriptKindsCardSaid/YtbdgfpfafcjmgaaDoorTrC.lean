/- What abstract values and objects say stays true where the world, and what the names mean, go on.
   Conditions: none. -/
import Derived.Test.YtbdgfpfafcjmgaaDoorTrB
namespace Go.Tr
open Go
set_option linter.unusedVariables false
set_option linter.unusedSimpArgs false

theorem Row.mono {w w' : World} {b o : Nat} {cs : List Value} (hb : w'.heap[b]? = w.heap[b]?) (h : Row w b o cs) : Row w' b o cs := by
  intro j hj
  have := h j hj
  simpa only [World.cell?, hb] using this

theorem LRs.mono {w w' : World} {ok ok' : Nat → Prop} (hw : ∀ b, ok b → w'.heap[b]? = w.heap[b]?) (ho : ∀ b, ok b → ok' b) :
    ∀ (s : Sh) (x : s.T) (vs : List Value), LRs w ok s x vs → LRs w' ok' s x vs := by
  intro s
  induction s with
  | int k => intro x vs h; exact h
  | bool => intro x vs h; exact h
  | str => intro x vs h; exact h
  | unit => intro x vs h; exact h
  | sl e ih =>
    intro x vs h
    simp only [LRs] at h ⊢
    obtain ⟨base, cap, h1, h2, h3⟩ := h
    refine ⟨base, cap, h1, h2, ?_⟩
    rcases h3 with h3 | ⟨b, o, h4, h5, h6⟩
    · exact .inl h3
    · refine .inr ⟨b, o, h4, ho _ h5, fun i hi => ?_⟩
      obtain ⟨cs, g1, g2, g3⟩ := h6 i hi
      exact ⟨cs, g1, g2.mono (hw b h5), ih _ _ g3⟩
  | arr n e ih =>
    intro x vs h
    simp only [LRs] at h ⊢
    exact ⟨h.1, h.2.1, fun i hi => ih _ _ (h.2.2 i hi)⟩
  | pair a b iha ihb =>
    intro x vs h
    simp only [LRs] at h ⊢
    obtain ⟨v1, v2, h1, h2, h3⟩ := h
    exact ⟨v1, v2, h1, iha _ _ h2, ihb _ _ h3⟩

/-- The environment goes on: the frozen blocks are as they were, the names of 'us' mean what they meant, or nothing. -/
structure Goes (us : Nat → Prop) (E E' : Env) : Prop where
  hw : ∀ b, E.ok b → E'.w.heap[b]? = E.w.heap[b]?
  ho : ∀ b, E.ok b → E'.ok b
  mu : ∀ n, us n → ∀ L', E'.mu n = some L' → ∃ L, E.mu n = some L ∧ L.base = L'.base ∧ L.cap = L'.cap ∧ L.len = L'.len

mutual
theorem VR.mono {us : Nat → Prop} {E E' : Env} (g : Goes us E E') : ∀ (a : AV) (v : Value), a.nm us → VR E a v → VR E' a v
  | .unk, _, _, _ => by simp [VR]
  | .junk, v, _, h => by simpa [VR] using h
  | .int k n, v, _, h => by simpa [VR] using h
  | .bool b, v, _, h => by simpa [VR] using h
  | .str l, v, _, h => by simpa [VR] using h
  | .nilp, v, _, h => by simpa [VR] using h
  | .nilsl, v, _, h => by simpa [VR] using h
  | .nilif, v, _, h => by simpa [VR] using h
  | .nilf, v, _, h => by simpa [VR] using h
  | .fsl e xs, v, _, h => by
    simp only [VR] at h ⊢
    exact LRs.mono g.hw g.ho _ _ _ h
  | .fpt e x off, v, _, h => by
    simp only [VR] at h ⊢
    obtain ⟨b, o, cs, h1, h2, h3, h4, h5⟩ := h
    exact ⟨b, o, cs, h1, g.ho _ h2, h3, h4.mono (g.hw _ h2), LRs.mono g.hw g.ho _ _ _ h5⟩
  | .ptr n off, v, hn, h => by
    simp only [VR, AV.nm] at h hn ⊢
    refine ⟨h.1, fun L' hL' => ?_⟩
    obtain ⟨L, hL, hb, hc⟩ := g.mu n hn L' hL'
    obtain ⟨b, h1, h2⟩ := h.2 L hL
    exact ⟨b, hb ▸ h1, h2⟩
  | .rsl n e off len, v, hn, h => by
    simp only [VR, AV.nm] at h hn ⊢
    refine ⟨h.1, fun L' hL' => ?_⟩
    obtain ⟨L, hL, hb, hc, _⟩ := g.mu n hn L' hL'
    rw [← hb, ← hc]
    exact h.2 L hL
  | .epr n e i off, v, hn, h => by
    simp only [VR, AV.nm] at h hn ⊢
    refine ⟨h.1, fun L' hL' => ?_⟩
    obtain ⟨L, hL, hb, hc⟩ := g.mu n hn L' hL'
    rw [← hb]
    exact h.2 L hL
  | .csl n off len, v, hn, h => by
    simp only [VR, AV.nm] at h hn ⊢
    refine ⟨h.1, fun L' hL' => ?_⟩
    obtain ⟨L, hL, hb, hc⟩ := g.mu n hn L' hL'
    rw [← hb]
    exact h.2 L hL
  | .own n e, v, hn, h => by
    simp only [VR, AV.nm] at h hn ⊢
    refine ⟨h.1, fun L' hL' => ?_⟩
    obtain ⟨L, hL, hb, hc, hl⟩ := g.mu n hn L' hL'
    rw [← hb, ← hc, ← hl]
    exact h.2 L hL
  | .cpr n off i m, v, hn, h => by
    simp only [VR, AV.nm] at h hn ⊢
    refine ⟨h.1, h.2.1, fun L' hL' => ?_⟩
    obtain ⟨L, hL, hb, hc, hl⟩ := g.mu n hn L' hL'
    rw [← hb]
    exact h.2.2 L hL
  | .fn f x y, v, hn, h => by
    simp only [VR, AV.nm] at h hn ⊢
    obtain ⟨p, q, h1, h2, h3⟩ := h
    exact ⟨p, q, h1, VRL.mono g x p hn.1 h2, VRL.mono g y q hn.2 h3⟩
  | .ifc t a, v, hn, h => by
    simp only [VR, AV.nm] at h hn ⊢
    obtain ⟨x, h1, h2⟩ := h
    exact ⟨x, h1, VR.mono g a x hn h2⟩
  | .agg l, v, hn, h => by
    simp only [VR, AV.nm] at h hn ⊢
    obtain ⟨x, h1, h2⟩ := h
    exact ⟨x, h1, VRL.mono g l x hn h2⟩
  | .arr e xs, v, _, h => by
    simp only [VR] at h ⊢
    obtain ⟨x, h1, h2⟩ := h
    exact ⟨x, h1, LRs.mono g.hw g.ho _ _ _ h2⟩
  | .tup l, v, hn, h => by
    simp only [VR, AV.nm] at h hn ⊢
    obtain ⟨x, h1, h2⟩ := h
    exact ⟨x, h1, VRL.mono g l x hn h2⟩
  | .when c a, v, hn, h => by
    simp only [VR, AV.nm] at h hn ⊢
    exact ⟨fun hc => VR.mono g a v (hn hc) (h.1 hc), h.2⟩
  | .ite c a b, v, hn, h => by
    simp only [VR, AV.nm] at h hn ⊢
    exact ⟨fun hc => VR.mono g a v hn.1 (h.1 hc), fun hc => VR.mono g b v hn.2 (h.2 hc)⟩
theorem VRL.mono {us : Nat → Prop} {E E' : Env} (g : Goes us E E') : ∀ (l : List AV) (vs : List Value), AV.nms us l → VRL E l vs → VRL E' l vs
  | [], vs, _, h => by simpa [VRL] using h
  | a :: l, vs, hn, h => by
    simp only [VRL, AV.nms] at h hn ⊢
    obtain ⟨v, r, h1, h2, h3⟩ := h
    exact ⟨v, r, h1, VR.mono g a v hn.1 h2, VRL.mono g l r hn.2 h3⟩
end

mutual
theorem AV.nm_mono {p q : Nat → Prop} (h : ∀ n, p n → q n) : ∀ a : AV, a.nm p → a.nm q
  | .unk, _ | .junk, _ | .int _ _, _ | .bool _, _ | .str _, _ | .nilp, _ | .nilsl, _ | .nilif, _ | .nilf, _ | .fsl _ _, _ | .fpt _ _ _, _ | .arr _ _, _ => by simp [AV.nm]
  | .ptr n _, hn | .rsl n _ _ _, hn | .epr n _ _ _, hn | .csl n _ _, hn | .own n _, hn | .cpr n _ _ _, hn => by
    simp only [AV.nm] at hn ⊢
    exact h _ hn
  | .fn f x y, hn => by simp only [AV.nm] at hn ⊢; exact ⟨AV.nms_mono h x hn.1, AV.nms_mono h y hn.2⟩
  | .ifc t a, hn => by simp only [AV.nm] at hn ⊢; exact AV.nm_mono h a hn
  | .agg l, hn => by simp only [AV.nm] at hn ⊢; exact AV.nms_mono h l hn
  | .tup l, hn => by simp only [AV.nm] at hn ⊢; exact AV.nms_mono h l hn
  | .when c a, hn => by simp only [AV.nm] at hn ⊢; exact fun hc => AV.nm_mono h a (hn hc)
  | .ite c a b, hn => by simp only [AV.nm] at hn ⊢; exact ⟨AV.nm_mono h a hn.1, AV.nm_mono h b hn.2⟩
theorem AV.nms_mono {p q : Nat → Prop} (h : ∀ n, p n → q n) : ∀ l : List AV, AV.nms p l → AV.nms q l
  | [], _ => by simp [AV.nms]
  | a :: l, hn => by simp only [AV.nms] at hn ⊢; exact ⟨AV.nm_mono h a hn.1, AV.nms_mono h l hn.2⟩
end

theorem AO.nm_mono {p q : Nat → Prop} (h : ∀ n, p n → q n) (o : AO) (hn : o.nm p) : o.nm q := by
  cases o <;> simp only [AO.nm] at hn ⊢
  · exact AV.nms_mono h _ hn
  · exact AV.nms_mono h _ hn

theorem ObjR.mono {us : Nat → Prop} {E E' : Env} (g : Goes us E E') {n : Nat} {o : AO} (hn : o.nm us) (hmu : E'.mu n = E.mu n)
    (hb : ∀ b, owns E n b → E'.w.heap[b]? = E.w.heap[b]?) (h : ObjR E n o) : ObjR E' n o := by
  cases o with
  | cells l =>
    simp only [ObjR, AO.nm] at h hn ⊢
    obtain ⟨b, cs, T, fr, h1, h2, h3, h4⟩ := h
    exact ⟨b, cs, T, fr, hmu.trans h1, (hb b ⟨_, h1, rfl, rfl⟩).trans h2, h3, VRL.mono g _ _ hn h4⟩
  | rows e xs =>
    simp only [ObjR] at h ⊢
    obtain ⟨L, h1, hl, h2⟩ := h
    refine ⟨L, hmu.trans h1, hl, ?_⟩
    rcases h2 with h2 | ⟨b, cs, T, fr, h3, h4, h5, h6, h7, h8, h9⟩
    · exact .inl h2
    · exact .inr ⟨b, cs, T, fr, h3, h4, (hb b ⟨L, h1, h4, h3⟩).trans h5, h6, h7, h8, fun i hi => LRs.mono g.hw g.ho _ _ _ (h9 i hi)⟩
  | frz e xs =>
    simp only [ObjR] at h ⊢
    obtain ⟨L, h1, hl, h2, h2', h3⟩ := h
    exact ⟨L, hmu.trans h1, hl, h2, h2', LRs.mono g.hw g.ho _ _ _ h3⟩
  | fcl l =>
    simp only [ObjR, AO.nm] at h hn ⊢
    obtain ⟨b, cs, T, fr, h1, h2, h3, h4⟩ := h
    exact ⟨b, cs, T, fr, hmu.trans h1, g.ho _ h2, (g.hw b h2).trans h3, VRL.mono g _ _ hn h4⟩

/-- What holds of the environment throughout a call: what is owned is the call's to write; what is frozen came in so, or was the call's. -/
structure EnvOk (W0 : WX) (okIn B : Nat → Prop) (E : Env) : Prop where
  inj : ∀ n m b, owns E n b → owns E m b → n = m
  own : ∀ n b, owns E n b → B b ∧ b < E.w.heap.size ∧ ¬ E.ok b
  okl : ∀ b, E.ok b → b < E.w.heap.size ∧ (okIn b ∨ B b)
  oki : ∀ b, okIn b → E.ok b
  fr : ∀ b, b < W0.heap.size → ¬ B b → E.w.heap[b]? = W0.heap[b]?
  sz : W0.heap.size ≤ E.w.heap.size
  new : ∀ b, W0.heap.size ≤ b → B b
  os : E.w.os = W0.os
  tape : E.w.tape = W0.tape
  output : E.w.output = W0.output
  li : ∀ n L, E.mu n = some L → n < 16 → ∃ L0, W0.m0 n = some L0 ∧ L0.base = L.base ∧ L0.cap = L.cap ∧ L0.len = L.len

/-- What a program's package variables read as, as long as nobody touches them. -/
class Tabs (P : Program) where
  G : World → (Nat → Prop) → Prop
  mono : ∀ (w w' : World) (fz fz' : Nat → Prop), (∀ b, fz b → fz' b ∧ w'.heap[b]? = w.heap[b]?) → G w fz → G w' fz'

def TabIn (P : Program) [Tabs P] (W0 : WX) (B : Nat → Prop) : Prop := Tabs.G P W0.toWorld fun b => b < W0.heap.size ∧ ¬ B b

structure SimE (W0 : WX) (okIn B us : Nat → Prop) (tm : Nat → Option AV) (ob : Nat → Option AO) (nt : Nat) (E : Env) (a : Act) : Prop where
  defers : a.defers = []
  size : a.tmps.size = nt
  tmp : ∀ t v, tm t = some v → VR E v (a.tmps.getD t undef) ∧ v.nm us
  obj : ∀ n o, ob n = some o → ObjR E n o ∧ o.nm us ∧ us n
  dom : ∀ n L, E.mu n = some L → ∃ o, ob n = some o
  env : EnvOk W0 okIn B E
  lo : ∀ n, n < 16 → us n

/-- What the objects say. -/
structure ObS (E : Env) (us : Nat → Prop) (ob : Nat → Option AO) : Prop where
  obj : ∀ n o, ob n = some o → ObjR E n o ∧ o.nm us ∧ us n
theorem SimE.ob {W0 : WX} {okIn B us : Nat → Prop} {tm : Nat → Option AV} {ob : Nat → Option AO} {nt : Nat} {E : Env} {a : Act} (h : SimE W0 okIn B us tm ob nt E a) : ObS E us ob := ⟨h.obj⟩

def updO (u : Upd) (ob : Nat → Option AO) (n : Nat) : Option AO :=
  match lkA u n with
  | some r => r
  | none => ob n

def updT (d : Option Nat) (v : AV) (tm : Nat → Option AV) (t : Nat) : Option AV :=
  match d with
  | some d => match Nat.beq t d with
    | true => some v
    | false => tm t
  | none => tm t

/-- One operation's step on the environment. -/
structure Evo (W0 : WX) (okIn B us us' : Nat → Prop) (E E' : Env) (u : Upd) : Prop where
  sub : ∀ n, us n → us' n
  mu : ∀ n, lkA u n = none → E'.mu n = E.mu n
  muo : ∀ n, us n → ∀ L', E'.mu n = some L' → ∃ L, E.mu n = some L ∧ L.base = L'.base ∧ L.cap = L'.cap ∧ L.len = L'.len
  non : ∀ n, lkA u n = some none → E'.mu n = none
  obj : ∀ n o, lkA u n = some (some o) → ObjR E' n o ∧ o.nm us' ∧ us' n
  keep : ∀ b, b < E.w.heap.size → (∀ n, owns E n b → lkA u n = none) → E'.w.heap[b]? = E.w.heap[b]?
  ho : ∀ b, E.ok b → E'.ok b
  env : EnvOk W0 okIn B E'

theorem Evo.goes {W0 : WX} {okIn B us us' : Nat → Prop} {E E' : Env} {u : Upd} (h : Evo W0 okIn B us us' E E' u) (he : EnvOk W0 okIn B E) : Goes us E E' :=
  ⟨fun b hb => h.keep b (he.okl b hb).1 fun n hn => absurd hb (he.own n b hn).2.2, h.ho, h.muo⟩

theorem beq_true {n m : Nat} (h : Nat.beq n m = true) : n = m := Nat.eq_of_beq_eq_true h
theorem beq_false {n m : Nat} (h : Nat.beq n m = false) : n ≠ m := Nat.ne_of_beq_eq_false h
theorem beq_self (n : Nat) : Nat.beq n n = true := Nat.beq_refl n
theorem beq_ne {n m : Nat} (h : n ≠ m) : Nat.beq n m = false := by
  cases hb : Nat.beq n m with
  | true => exact absurd (beq_true hb) h
  | false => rfl

theorem put_get (a : Act) (d : Option Nat) (x : Value) (t : Nat) :
    (a.put d x).tmps.getD t undef = if d = some t ∧ t < a.tmps.size then x else a.tmps.getD t undef := by
  cases d with
  | none => simp [Act.put]
  | some d =>
    simp only [Act.put, Array.getD_eq_getD_getElem?, Option.some.injEq]
    by_cases hdt : d = t
    · subst hdt
      by_cases hlt : d < a.tmps.size
      · simp [hlt]
      · simp [hlt]
    · simp [Array.getElem?_setIfInBounds_ne hdt, hdt]

theorem SimE.evo {W0 : WX} {okIn B us us' : Nat → Prop} {tm : Nat → Option AV} {ob : Nat → Option AO} {nt : Nat} {E E' : Env} {a : Act} {u : Upd}
    (h : SimE W0 okIn B us tm ob nt E a) (hv : Evo W0 okIn B us us' E E' u) {d : Option Nat} (hd : dstOk nt d = true) {v : AV} {x : Value}
    (hx : VR E' v x) (hnm : v.nm us') : SimE W0 okIn B us' (updT d v tm) (updO u ob) nt E' (a.put d x) := by
  have g := hv.goes h.env
  refine ⟨?_, ?_, ?_, ?_, ?_, hv.env, fun n hn => hv.sub n (h.lo n hn)⟩
  · cases d <;> simp [Act.put, h.defers]
  · cases d <;> simp [Act.put, h.size]
  · intro t y ht
    have hput := put_get a d x t
    unfold updT at ht
    cases d with
    | none =>
      simp only at ht
      simp only [reduceCtorEq, false_and, if_false] at hput
      rw [hput]
      have := h.tmp t y ht
      exact ⟨VR.mono g _ _ this.2 this.1, AV.nm_mono hv.sub _ this.2⟩
    | some d =>
      cases hb : Nat.beq t d with
      | true =>
        have htd := beq_true hb
        subst htd
        simp only [hb, Option.some.injEq] at ht
        subst ht
        have hlt : t < a.tmps.size := by
          simp only [dstOk] at hd
          rw [h.size]; exact Nat.le_of_ble_eq_true hd
        simp only [true_and, hlt, if_true] at hput
        rw [hput]
        exact ⟨hx, hnm⟩
      | false =>
        have htd := beq_false hb
        simp only [hb] at ht
        have : ¬ (some d = some t ∧ t < a.tmps.size) := fun hh => htd (Option.some.inj hh.1).symm
        rw [if_neg this] at hput
        rw [hput]
        have := h.tmp t y ht
        exact ⟨VR.mono g _ _ this.2 this.1, AV.nm_mono hv.sub _ this.2⟩
  · intro n o hn
    unfold updO at hn
    cases hl : lkA u n with
    | some r =>
      rw [hl] at hn
      simp only at hn
      subst hn
      exact hv.obj n o hl
    | none =>
      rw [hl] at hn
      simp only at hn
      obtain ⟨h1, h2, h3⟩ := h.obj n o hn
      refine ⟨ObjR.mono g h2 (hv.mu n hl) (fun b hb => ?_) h1, AO.nm_mono hv.sub _ h2, hv.sub _ h3⟩
      refine hv.keep b (h.env.own n b hb).2.1 fun m hm => ?_
      rw [h.env.inj m n b hm hb]; exact hl
  · intro n L hL
    unfold updO
    cases hl : lkA u n with
    | some r =>
      cases r with
      | some o => exact ⟨o, rfl⟩
      | none => rw [hv.non n hl] at hL; exact absurd hL (by simp)
    | none =>
      rw [hv.mu n hl] at hL
      obtain ⟨o, ho⟩ := h.dom n L hL
      exact ⟨o, by simp [ho]⟩

/-- Nothing turns. -/
theorem Evo.refl {W0 : WX} {okIn B us : Nat → Prop} {E : Env} (he : EnvOk W0 okIn B E) : Evo W0 okIn B us us E E [] :=
  ⟨fun _ h => h, fun _ _ => rfl, fun n _ L h => ⟨L, h, rfl, rfl, rfl⟩, fun n h => by simp [lkA] at h, fun n o h => by simp [lkA] at h, fun _ _ _ => rfl, fun _ h => h, he⟩

end Go.Tr
