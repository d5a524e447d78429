/- Tables of pure functions serve as tables of calls.
   Conditions: none. -/
import Derived.Test.YthbkpjlimmckaaaTrU
namespace Go.Tr
open Go
set_option linter.unusedVariables false
set_option linter.unusedSimpArgs false

section
variable {ob ob' : Nat → Option AO}

theorem frzArg_congr {v : AV} (h : ∀ n, v.has n = true → ob n = ob' n) : frzArg ob v = frzArg ob' v := by
  unfold frzArg
  cases v <;> try rfl
  case ptr n off => have e := h n (by simp [AV.has, beq_self]); simp only [e]
  case rsl n s off len => have e := h n (by simp [AV.has, beq_self]); simp only [e]

theorem frzArgs_congr : ∀ {l : List AV}, (∀ n, AV.hass n l = true → ob n = ob' n) → frzArgs ob l = frzArgs ob' l
  | [], _ => rfl
  | v :: r, h => by
    unfold frzArgs
    rw [frzArg_congr fun n hn => h n (by simp [AV.hass, hn]), frzArgs_congr fun n hn => h n (by simp [AV.hass, hn])]

theorem frzTop_congr : ∀ {l : List AV}, (∀ n, AV.hass n l = true → ob n = ob' n) → frzTop ob l = frzTop ob' l
  | [], _ => rfl
  | v :: r, h => by
    have hr := frzTop_congr (l := r) fun n hn => h n (by simp [AV.hass, hn])
    have hv := frzArg_congr (v := v) fun n hn => h n (by simp [AV.hass, hn])
    cases v <;> simp only [frzTop, hr, hv]
    case fn f x y =>
      rw [frzArgs_congr (l := x) fun n hn => h n (by simp [AV.hass, AV.has, hn]), frzArgs_congr (l := y) fun n hn => h n (by simp [AV.hass, AV.has, hn])]
    case agg l =>
      rw [frzArgs_congr (l := l) fun n hn => h n (by simp [AV.hass, AV.has, hn])]

end

section
variable {W0 : World} {okIn B us : Nat → Prop} {ob : Nat → Option AO} {E : Env}

/-- What is frozen where the objects of F are. -/
def okFF (E : Env) (F : Nat → Prop) (b : Nat) : Prop := E.ok b ∨ ∃ n, F n ∧ owns E n b

def frzE (E : Env) (F : Nat → Prop) : Env := ⟨E.w, fun _ => none, okFF E F⟩

theorem frzE_goes (F : Nat → Prop) : Goes (fun _ => True) E (frzE E F) := ⟨fun _ _ => rfl, fun b h => .inl h, fun n _ L h => by simp [frzE] at h⟩

/-- What an update of freezing says. -/
def FrzU (ob : Nat → Option AO) (u : Upd) : Prop := ∀ n r, (n, r) ∈ u → (∃ e xs, ob n = some (.rows e xs) ∧ r = some (.frz e xs)) ∨ (∃ l, ob n = some (.cells l) ∧ (shV l).isSome = true ∧ r = some (.fcl l))

theorem FrzU.app {u u' : Upd} (h : FrzU ob u) (h' : FrzU ob u') : FrzU ob (appA u u') := by
  intro n r hm
  rw [appA_eq] at hm
  rcases List.mem_append.1 hm with hm | hm
  · exact h n r hm
  · exact h' n r hm

theorem shV_leaf_sound {v : AV} {e : Sh} {x : e.T} {y : Value} (h : shV.leaf v = some ⟨e, x⟩) (hv : VR E v y) : LRs E.w E.ok e x [y] ∧ e.size = 1 := by
  unfold shV.leaf at h
  split at h <;> simp only [Option.some.injEq, Sigma.mk.injEq, reduceCtorEq] at h
  all_goals
    obtain ⟨rfl, h⟩ := h
    simp only [heq_eq_eq] at h
    subst h
    simp only [VR] at hv
  · subst hv; exact ⟨by simp [LRs], rfl⟩
  · subst hv; exact ⟨by simp [LRs], rfl⟩
  · subst hv; exact ⟨by simp [LRs], rfl⟩
  · exact ⟨hv, rfl⟩

theorem shV_sound : ∀ {l : List AV} {e : Sh} {x : e.T} {vs : List Value}, shV l = some ⟨e, x⟩ → VRL E l vs → LRs E.w E.ok e x vs
  | [], e, x, vs, h, _ => by simp [shV] at h
  | [v], e, x, vs, h, hv => by
    simp only [shV] at h
    simp only [VRL] at hv
    obtain ⟨y, r, rfl, h1, rfl⟩ := hv
    exact (shV_leaf_sound h h1).1
  | v :: v' :: r, e, x, vs, h, hv => by
    simp only [shV] at h
    split at h
    · rename_i a p b q h1 h2
      simp only [Option.some.injEq, Sigma.mk.injEq] at h
      obtain ⟨rfl, h⟩ := h
      simp only [heq_eq_eq] at h
      subst h
      simp only [VRL] at hv
      obtain ⟨y, ys, rfl, g1, g2⟩ := hv
      exact ⟨[y], ys, rfl, (shV_leaf_sound h1 g1).1, shV_sound h2 (by simpa only [VRL] using g2)⟩
    · simp at h

theorem shV_leaf_nm {v : AV} (h : (shV.leaf v).isSome = true) (p : Nat → Prop) : v.nm p := by
  unfold shV.leaf at h
  split at h <;> first | (simp at h; done) | simp [AV.nm]

theorem shV_nm : ∀ {l : List AV}, (shV l).isSome = true → ∀ p, AV.nms p l
  | [], h, p => by simp [AV.nms]
  | [v], h, p => by simp only [shV] at h; exact ⟨shV_leaf_nm h p, trivial⟩
  | v :: v' :: r, h, p => by
    simp only [shV] at h
    split at h
    · rename_i a x b q h1 h2
      exact ⟨shV_leaf_nm (by rw [h1]; rfl) p, shV_nm (l := v' :: r) (by rw [h2]; rfl) p⟩
    · simp at h

theorem sliceA_cast {e e' : Sh} (h : e' = e) (xs : List e'.T) : (h ▸ xs : List e.T).length = xs.length := by subst h; rfl

theorem frzArg_sound (hobj : ∀ n o, ob n = some o → ObjR E n o ∧ o.nm us ∧ us n) {F : Nat → Prop} {v w : AV} {q : List Prop} {u : Upd} {x : Value} (h : frzArg ob v = some (q, w, u)) (hq : ∀ p ∈ q, p) (hF : ∀ n, touchA u n = true → F n) (hx : VR E v x) :
    VR (frzE E F) w x ∧ w.nm (fun _ => False) ∧ FrzU ob u := by
  have mono : ∀ {u : AV}, VR E u x → (u.nm fun _ => True) → VR (frzE E F) u x := fun hu hn => VR.mono (frzE_goes F) _ _ hn hu
  unfold frzArg at h
  split at h
  · rename_i n e off len
    split at h
    · rename_i e' xs hob
      split at h
      · rename_i he
        subst he
        simp only [Option.some.injEq, Prod.mk.injEq] at h
        obtain ⟨rfl, rfl, rfl⟩ := h
        have hle : off + len ≤ xs.length := hq _ (List.Mem.head _)
        refine ⟨?_, by simp [AV.nm], fun m r hm => ?_⟩
        · obtain ⟨h1, _, _⟩ := hobj n _ hob
          obtain ⟨L, g1, g2⟩ := h1
          simp only [VR] at hx
          obtain ⟨base, rfl, k1, k2, k3⟩ := hx.2 L g1
          have hlen : (sliceA off (off + len) xs).length = len := by rw [sliceA_length (by omega) hle]; omega
          simp only [VR, LRs]
          refine ⟨base, L.cap - off, by rw [hlen], by rw [hlen]; omega, ?_⟩
          by_cases h0 : len = 0
          · exact .inl (by rw [hlen]; exact h0)
          · rcases g2 with g2 | ⟨b, cs, T, fr, f1, f2, f3, f4, f5, f6, f7⟩
            · omega
            · refine .inr ⟨b, off * e'.size, ?_, .inr ⟨n, hF n (by simp [touchA, lkA, beq_self]), L, g1, f2, f1⟩, fun i hi => ?_⟩
              · rw [k3 (by omega), f1]; simp [add_mk]
              · rw [sliceA_get hle hi]
                have hi' : off + i < xs.length := by rw [hlen] at hi; omega
                refine ⟨_, LRs.length e' _ _ (f7 (off + i) hi'), ?_, LRs.mono (fun _ _ => rfl) (fun _ h => .inl h) _ _ _ (f7 (off + i) hi')⟩
                have hrow := ((cells_row f3).drop ((off + i) * e'.size)).take e'.size
                rw [Nat.zero_add, Nat.add_mul] at hrow
                rw [Nat.add_mul]
                exact hrow
        · simp only [List.mem_singleton, Prod.mk.injEq] at hm
          obtain ⟨rfl, rfl⟩ := hm
          exact .inl ⟨e', xs, hob, rfl⟩
      · simp at h
    · rename_i e' xs hob
      split at h
      · rename_i he
        subst he
        simp only [Option.some.injEq, Prod.mk.injEq] at h
        obtain ⟨rfl, rfl, rfl⟩ := h
        have hle : off + len ≤ xs.length := hq _ (List.Mem.head _)
        refine ⟨?_, by simp [AV.nm], fun m r hm => by simp at hm⟩
        obtain ⟨h1, _, _⟩ := hobj n _ hob
        obtain ⟨L, g1, g2, g3, g4⟩ := h1
        simp only [VR] at hx
        obtain ⟨base, rfl, k1, k2, k3⟩ := hx.2 L g1
        have hlen : (sliceA off (off + len) xs).length = len := by rw [sliceA_length (by omega) hle]; omega
        simp only [VR, LRs]
        refine ⟨base, L.cap - off, by rw [hlen], by rw [hlen]; omega, ?_⟩
        by_cases h0 : len = 0
        · exact .inl (by rw [hlen]; exact h0)
        · have hr := Rd.of_fsl g4
          obtain ⟨base', cap', hv, _, hh⟩ := hr
          simp only [Value.slice.injEq] at hv
          obtain ⟨rfl, _, rfl⟩ := hv
          rcases hh with hh | ⟨b, o, f1, f0, f2⟩
          · omega
          · refine .inr ⟨b, o + off * e'.size, ?_, .inl f0, fun i hi => ?_⟩
            · rw [k3 (by omega), f1]; simp [add_mk]
            · rw [sliceA_get hle hi]
              have hi' : off + i < xs.length := by rw [hlen] at hi; omega
              obtain ⟨cs, c1, c2, c3⟩ := f2 (off + i) hi'
              refine ⟨cs, c1, ?_, LRs.mono (fun _ _ => rfl) (fun _ h => .inl h) _ _ _ c3⟩
              rw [Nat.add_mul] at c2
              rw [Nat.add_assoc]
              exact c2
      · simp at h
    · simp at h
  · rename_i n off
    split at h
    · rename_i l hob
      split at h
      · rename_i e y hsh
        simp only [Option.some.injEq, Prod.mk.injEq] at h
        obtain ⟨rfl, rfl, rfl⟩ := h
        refine ⟨?_, by simp [AV.nm], fun m r hm => ?_⟩
        · obtain ⟨h1, _, _⟩ := hobj n _ hob
          obtain ⟨b, cs, T, fr, g1, g2, g3, g4⟩ := h1
          simp only [VR] at hx
          obtain ⟨b', hb', rfl⟩ := hx.2 _ g1
          simp only [Option.some.injEq, Addr.mk.injEq, and_true] at hb'
          subst hb'
          have hl := shV_sound hsh g4
          simp only [VR]
          exact ⟨b, 0, cs.toList, by simp, .inr ⟨n, hF n (by simp [touchA, lkA, beq_self]), _, g1, rfl, rfl⟩, LRs.length _ _ _ hl, cells_row g2, LRs.mono (fun _ _ => rfl) (fun _ h => .inl h) _ _ _ hl⟩
        · simp only [List.mem_singleton, Prod.mk.injEq] at hm
          obtain ⟨rfl, rfl⟩ := hm
          exact .inr ⟨l, hob, by rw [hsh]; rfl, rfl⟩
      · simp at h
    · rename_i l hob
      split at h
      · rename_i e y hsh
        simp only [Option.some.injEq, Prod.mk.injEq] at h
        obtain ⟨rfl, rfl, rfl⟩ := h
        refine ⟨?_, by simp [AV.nm], fun m r hm => by simp at hm⟩
        obtain ⟨h1, _, _⟩ := hobj n _ hob
        obtain ⟨b, cs, T, fr, g1, g0, g2, g4⟩ := h1
        simp only [VR] at hx
        obtain ⟨b', hb', rfl⟩ := hx.2 _ g1
        simp only [Option.some.injEq, Addr.mk.injEq, and_true] at hb'
        subst hb'
        have hl := shV_sound hsh g4
        simp only [VR]
        exact ⟨b, 0, cs.toList, by simp, .inl g0, LRs.length _ _ _ hl, cells_row g2, LRs.mono (fun _ _ => rfl) (fun _ h => .inl h) _ _ _ hl⟩
      · simp at h
    · simp at h
  all_goals first
    | (simp only [Option.some.injEq, Prod.mk.injEq] at h; obtain ⟨rfl, rfl, rfl⟩ := h; exact ⟨mono hx (by simp [AV.nm]), by simp [AV.nm], fun m r hm => by simp at hm⟩)
    | simp at h

theorem touch_app {u u' : Upd} {n : Nat} : touchA (appA u u') n = true ↔ touchA u n = true ∨ touchA u' n = true := by
  unfold touchA
  rw [lkA_app]
  cases lkA u n with
  | none => simp
  | some r => simp

theorem frzArgs_sound (hobj : ∀ n o, ob n = some o → ObjR E n o ∧ o.nm us ∧ us n) {F : Nat → Prop} : ∀ {l m : List AV} {q : List Prop} {u : Upd} {vs : List Value}, frzArgs ob l = some (q, m, u) → (∀ p ∈ q, p) → (∀ n, touchA u n = true → F n) → VRL E l vs →
    VRL (frzE E F) m vs ∧ AV.nms (fun _ => False) m ∧ FrzU ob u
  | [], m, q, u, vs, h, _, _, hv => by
    simp only [frzArgs, Option.some.injEq, Prod.mk.injEq] at h
    obtain ⟨rfl, rfl, rfl⟩ := h
    exact ⟨by simpa [VRL] using hv, by simp [AV.nms], fun m r hm => by simp at hm⟩
  | v :: r, m, q, u, vs, h, hq, hF, hv => by
    unfold frzArgs at h
    split at h
    · rename_i p w u1 q' l u2 h1 h2
      simp only [Option.some.injEq, Prod.mk.injEq] at h
      obtain ⟨rfl, rfl, rfl⟩ := h
      simp only [VRL] at hv ⊢
      obtain ⟨y, ys, rfl, g1, g2⟩ := hv
      obtain ⟨a1, a2, a3⟩ := frzArg_sound hobj h1 (hq_l hq) (fun n hn => hF n (touch_app.2 (.inl hn))) g1
      obtain ⟨b1, b2, b3⟩ := frzArgs_sound hobj h2 (hq_r hq) (fun n hn => hF n (touch_app.2 (.inr hn))) g2
      exact ⟨⟨y, ys, rfl, a1, b1⟩, ⟨a2, b2⟩, a3.app b3⟩
    · simp at h

theorem frzTop_sound (hobj : ∀ n o, ob n = some o → ObjR E n o ∧ o.nm us ∧ us n) {F : Nat → Prop} : ∀ {l m : List AV} {q : List Prop} {u : Upd} {vs : List Value}, frzTop ob l = some (q, m, u) → (∀ p ∈ q, p) → (∀ n, touchA u n = true → F n) → VRL E l vs →
    VRL (frzE E F) m vs ∧ AV.nms (fun _ => False) m ∧ FrzU ob u
  | [], m, q, u, vs, h, _, _, hv => by
    simp only [frzTop, Option.some.injEq, Prod.mk.injEq] at h
    obtain ⟨rfl, rfl, rfl⟩ := h
    exact ⟨by simpa [VRL] using hv, by simp [AV.nms], fun m r hm => by simp at hm⟩
  | v :: r, m, q, u, vs, h, hq, hF, hv => by
    unfold frzTop at h
    split at h
    · rename_i heq; simp at heq
    · rename_i l' r' heq
      simp only [List.cons.injEq] at heq
      obtain ⟨rfl, rfl⟩ := heq
      split at h
      · rename_i p w u1 q' l u2 h1 h2
        simp only [Option.some.injEq, Prod.mk.injEq] at h
        obtain ⟨rfl, rfl, rfl⟩ := h
        simp only [VRL, VR] at hv ⊢
        obtain ⟨y, ys, rfl, ⟨z, rfl, g1⟩, g2⟩ := hv
        obtain ⟨a1, a2, a3⟩ := frzArgs_sound hobj h1 (hq_l hq) (fun n hn => hF n (touch_app.2 (.inl hn))) g1
        obtain ⟨b1, b2, b3⟩ := frzTop_sound hobj h2 (hq_r hq) (fun n hn => hF n (touch_app.2 (.inr hn))) g2
        exact ⟨⟨_, ys, rfl, ⟨z, rfl, a1⟩, b1⟩, ⟨a2, b2⟩, a3.app b3⟩
      · simp at h
    · rename_i f x y r' heq
      simp only [List.cons.injEq] at heq
      obtain ⟨rfl, rfl⟩ := heq
      split at h
      · rename_i p x' u1 p' y' u2 q' l u3 h1 h2 h3
        simp only [Option.some.injEq, Prod.mk.injEq] at h
        obtain ⟨rfl, rfl, rfl⟩ := h
        simp only [VRL, VR] at hv ⊢
        obtain ⟨z, ys, rfl, ⟨a, b, rfl, g1, g1'⟩, g2⟩ := hv
        obtain ⟨a1, a2, a3⟩ := frzArgs_sound hobj h1 (hq_l hq) (fun n hn => hF n (touch_app.2 (.inl hn))) g1
        obtain ⟨b1, b2, b3⟩ := frzArgs_sound hobj h2 (hq_l (hq_r hq)) (fun n hn => hF n (touch_app.2 (.inr (touch_app.2 (.inl hn))))) g1'
        obtain ⟨c1, c2, c3⟩ := frzTop_sound hobj h3 (hq_r (hq_r hq)) (fun n hn => hF n (touch_app.2 (.inr (touch_app.2 (.inr hn))))) g2
        exact ⟨⟨_, ys, rfl, ⟨a, b, rfl, a1, b1⟩, c1⟩, ⟨⟨a2, b2⟩, c2⟩, a3.app (b3.app c3)⟩
      · simp at h
    · rename_i v' r' hne1 hne2 heq
      simp only [List.cons.injEq] at heq
      obtain ⟨rfl, rfl⟩ := heq
      split at h
      · rename_i p w u1 q' l u2 h1 h2
        simp only [Option.some.injEq, Prod.mk.injEq] at h
        obtain ⟨rfl, rfl, rfl⟩ := h
        simp only [VRL] at hv ⊢
        obtain ⟨y, ys, rfl, g1, g2⟩ := hv
        obtain ⟨a1, a2, a3⟩ := frzArg_sound hobj h1 (hq_l hq) (fun n hn => hF n (touch_app.2 (.inl hn))) g1
        obtain ⟨b1, b2, b3⟩ := frzTop_sound hobj h2 (hq_r hq) (fun n hn => hF n (touch_app.2 (.inr hn))) g2
        exact ⟨⟨y, ys, rfl, a1, b1⟩, ⟨a2, b2⟩, a3.app b3⟩
      · simp at h

theorem lkA_in {α : Type} {l : List (Nat × α)} {n : Nat} {x : α} (h : lkA l n = some x) : (n, x) ∈ l := by
  induction l with
  | nil => simp [lkA] at h
  | cons y r ih =>
    obtain ⟨m, z⟩ := y
    simp only [lkA] at h
    split at h
    · rename_i hb
      simp only [Option.some.injEq] at h
      rw [beq_true hb, h]
      simp
    · exact List.mem_cons_of_mem _ (ih h)

/-- The step of a call whose arguments were frozen. -/
theorem evo_frozen (he : EnvOk W0 okIn B E) (hobj : ∀ n o, ob n = some o → ObjR E n o ∧ o.nm us ∧ us n) {nm : Nat} {u : Upd} (hu : FrzU ob u) {w' : World} {ok'' : Nat → Prop} (hk : Keeps E.w w')
    (h1 : ∀ b, okFF E (fun n => touchA u n = true) b → ok'' b) (h2 : ∀ b, ok'' b → b < w'.heap.size ∧ (okFF E (fun n => touchA u n = true) b ∨ E.w.heap.size ≤ b)) :
    Evo W0 okIn B us (usn us nm) E ⟨w', fun n => if touchA u n = true then (E.mu n).map fun L => { L with own := false } else E.mu n, ok''⟩ u := by
  have hw : ∀ b, E.ok b → w'.heap[b]? = E.w.heap[b]? := fun b hb => hk.heap b (he.okl b hb).1
  have hown : ∀ n b, owns ⟨w', fun n => if touchA u n = true then (E.mu n).map fun L => { L with own := false } else E.mu n, ok''⟩ n b → touchA u n = false ∧ owns E n b := by
    rintro n b ⟨L, g1, g2, g3⟩
    simp only at g1
    split at g1
    · simp only [Option.map_eq_some_iff] at g1
      obtain ⟨L', _, rfl⟩ := g1
      simp at g2
    · rename_i ht
      exact ⟨by simpa using ht, L, g1, g2, g3⟩
  have hmu : ∀ n L', (if touchA u n = true then (E.mu n).map fun L => { L with own := false } else E.mu n) = some L' → ∃ L, E.mu n = some L ∧ L.base = L'.base ∧ L.cap = L'.cap := by
    intro n L' h
    split at h
    · simp only [Option.map_eq_some_iff] at h
      obtain ⟨L, hL, rfl⟩ := h
      exact ⟨L, hL, rfl, rfl⟩
    · exact ⟨L', h, rfl, rfl⟩
  refine ⟨fun n h => .inl h, ?_, fun n _ => hmu n, ?_, ?_, fun b hb _ => hk.heap b hb, fun b hb => h1 b (.inl hb), ?_⟩
  · intro n h
    have : touchA u n = false := by simp [touchA, h]
    simp [this]
  · intro n h
    exact absurd (hu n none (lkA_in h)) (by rintro (⟨_, _, _, h⟩ | ⟨_, _, _, h⟩) <;> simp at h)
  · intro n o h
    have ht : touchA u n = true := by simp [touchA, h]
    rcases hu n (some o) (lkA_in h) with ⟨e, xs, hob, ho⟩ | ⟨l, hob, hsh, ho⟩
    · simp only [Option.some.injEq] at ho
      subst ho
      obtain ⟨k1, k2, k3⟩ := hobj n _ hob
      refine ⟨?_, by simp [AO.nm], .inl k3⟩
      obtain ⟨L, g1, g2⟩ := k1
      refine ⟨{ L with own := false }, by simp [ht, g1], rfl, ?_, ?_⟩
      · rcases g2 with g2 | ⟨b, cs, T, fr, f1, _⟩
        · exact .inl g2.1
        · exact .inr ⟨b, f1⟩
      · simp only [LRs]
        rcases g2 with ⟨g2, g3, g4⟩ | ⟨b, cs, T, fr, f1, f2, f3, f4, f5, f6, f7⟩
        · exact ⟨L.base, L.cap, rfl, by omega, .inl g3⟩
        · refine ⟨L.base, L.cap, rfl, f5, .inr ⟨b, 0, f1, h1 b (.inr ⟨n, ht, L, g1, f2, f1⟩), fun i hi => ⟨_, LRs.length e _ _ (f7 i hi), ?_, LRs.mono hw (fun b hb => h1 b (.inl hb)) _ _ _ (f7 i hi)⟩⟩⟩
          have hb : b < E.w.heap.size := (he.own n b ⟨L, g1, f2, f1⟩).2.1
          exact (((cells_row f3).drop (i * e.size)).take e.size).mono (hk.heap b hb)
    · simp only [Option.some.injEq] at ho
      subst ho
      obtain ⟨k1, k2, k3⟩ := hobj n _ hob
      refine ⟨?_, shV_nm hsh _, .inl k3⟩
      obtain ⟨b, cs, T, fr, g1, g2, g3, g4⟩ := k1
      have hb : b < E.w.heap.size := (he.own n b ⟨_, g1, rfl, rfl⟩).2.1
      refine ⟨b, cs, T, fr, by simp [ht, g1], h1 b (.inr ⟨n, ht, _, g1, rfl, rfl⟩), (hk.heap b hb).trans g2, ?_⟩
      exact VRL.mono (us := fun _ => False) ⟨hw, fun b hb => h1 b (.inl hb), fun n h => h.elim⟩ _ _ (shV_nm hsh _) g4
  · refine ⟨fun n m b a1 a2 => he.inj n m b (hown n b a1).2 (hown m b a2).2, fun n b a => ?_, fun b hb => ?_, fun b hb => h1 b (.inl (he.oki b hb)), fun b hb hB => ?_, Nat.le_trans he.sz hk.size, he.new, hk.os.trans he.os, hk.tape.trans he.tape, hk.output.trans he.output⟩
    · obtain ⟨a1, a2⟩ := hown n b a
      obtain ⟨b1, b2, b3⟩ := he.own n b a2
      refine ⟨b1, Nat.lt_of_lt_of_le b2 hk.size, fun hok => ?_⟩
      rcases (h2 b hok).2 with (h | ⟨m, hm, hmo⟩) | h
      · exact b3 h
      · have := he.inj m n b hmo a2
        subst this
        rw [a1] at hm
        simp at hm
      · omega
    · obtain ⟨c1, c2⟩ := h2 b hb
      refine ⟨c1, ?_⟩
      rcases c2 with (h | ⟨m, hm, hmo⟩) | h
      · exact (he.okl b h).2
      · exact .inr (he.own m b hmo).1
      · exact .inr (he.new b (Nat.le_trans he.sz h))
    · show w'.heap[b]? = _
      rw [hk.heap b (Nat.lt_of_lt_of_le hb he.sz)]
      exact he.fr b hb hB

end

theorem allP_iff : ∀ {l : List Prop}, allP l ↔ ∀ p ∈ l, p
  | [] => by simp [allP]
  | [p] => by simp only [allP, List.mem_singleton]; exact ⟨fun h q hq => hq ▸ h, fun h => h p rfl⟩
  | p :: q :: r => by
    simp only [allP, List.mem_cons, forall_eq_or_imp]
    rw [allP_iff (l := q :: r)]
    simp only [List.mem_cons, forall_eq_or_imp]

theorem ctxP_ok {P : Program} {T : Pure} (hT : PureOK P T) : CtxOK P (ctxP T) := by
  refine ⟨fun F args ob nm p r u h hp => ?_, fun F args ob ob' nm h => ?_⟩
  · unfold ctxP at h
    split at h
    · rename_i q args' u' hfr
      split at h
      · rename_i p' r' hTr
        have h : p = p ∧ r' = r ∧ u' = u ∧ ∀ x ∈ appA q [p'], x := by
          unfold ctxQ at h
          split at h
          · simp only [Option.some.injEq, Prod.mk.injEq] at h
            obtain ⟨rfl, rfl, rfl⟩ := h
            exact ⟨rfl, rfl, rfl, fun x hx => by simp only [appA, List.mem_singleton] at hx; rw [hx]; exact hp⟩
          · simp only [Option.some.injEq, Prod.mk.injEq] at h
            obtain ⟨rfl, rfl, rfl⟩ := h
            exact ⟨rfl, rfl, rfl, allP_iff.1 hp⟩
        obtain ⟨-, rfl, rfl, hall⟩ := h
        have hfn := hT.ok _ _ _ _ hTr (hall _ (mem_appA.2 (.inr (List.Mem.head _))))
        have hcl := hT.closed _ _ _ _ hTr
        refine ⟨hfn.1, fun W0 okIn B us E vs he hnm hobj hdom hvs hn => ?_⟩
        obtain ⟨g1, g2, g3⟩ := frzTop_sound (F := fun n => touchA u' n = true) hobj hfr (fun p hp => hall p (mem_appA.2 (.inl hp))) (fun n hn => hn) hvs
        refine Calls.mono (hfn.2 E.w (okFF E fun n => touchA u' n = true) vs (fun b hb => ?_) g1) fun e w' hq => ?_
        · rcases hb with hb | ⟨n, _, hn⟩
          · exact (he.okl b hb).1
          · exact (he.own n b hn).2.1
        · obtain ⟨x, ok', rfl, hk, h1, h2, hx⟩ := hq
          refine ⟨_, x, rfl, rfl, evo_frozen he hobj g3 hk h1 h2, ?_, AV.nm_mono (fun _ h => h.elim) _ hcl⟩
          exact VR.mono (us := fun _ => False) (E := ⟨w', fun _ => none, ok'⟩) (E' := ⟨w', fun n => if touchA u' n = true then (E.mu n).map fun L => { L with own := false } else E.mu n, ok'⟩) ⟨fun _ _ => rfl, fun _ h => h, fun n h => h.elim⟩ _ _ hcl hx
      · simp at h
    · simp at h
  · unfold ctxP
    rw [frzTop_congr h]

/-- The empty table. -/
def noP : Pure := fun _ _ => none
theorem noP_ok (P : Program) : PureOK P noP := ⟨fun F args p r h => by simp [noP] at h, fun F args p r h => by simp [noP] at h⟩

/-- A table with a function more. -/
def addP (F : FuncId) (f : List AV → Option (Prop × AV)) (T : Pure) : Pure := fun G args => match Nat.beq G F with
  | true => f args
  | false => T G args

theorem addP_ok {P : Program} {F : FuncId} {f : List AV → Option (Prop × AV)} {T : Pure} (hT : PureOK P T) (h : ∀ args p r, f args = some (p, r) → (p → FnOK P F args r) ∧ r.nm (fun _ => False)) : PureOK P (addP F f T) := by
  refine ⟨fun G args p r hG hp => ?_, fun G args p r hG => ?_⟩
  · unfold addP at hG
    split at hG
    · rename_i hb
      rw [beq_true hb]
      exact (h _ _ _ hG).1 hp
    · exact hT.ok _ _ _ _ hG hp
  · unfold addP at hG
    split at hG
    · exact (h _ _ _ hG).2
    · exact hT.closed _ _ _ _ hG

end Go.Tr
