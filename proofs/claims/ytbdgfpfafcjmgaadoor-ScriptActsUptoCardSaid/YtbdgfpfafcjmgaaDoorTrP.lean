/- An operation hangs on its operands' values alone, and on the objects that they name.
   Conditions: none. -/
import Derived.Test.YtbdgfpfafcjmgaaDoorTrO
namespace Go.Tr
open Go
set_option linter.unusedVariables false
set_option linter.unusedSimpArgs false

theorem hass_iff (n : Nat) : ∀ l : List AV, AV.hass n l = true ↔ ∃ a ∈ l, AV.has n a = true
  | [] => by simp [AV.hass]
  | a :: l => by simp [AV.hass, hass_iff n l]

theorem hass_opvs (tm : Nat → Option AV) (n : Nat) : ∀ l : List Operand, AV.hass n (opvs tm l) = true ↔ ∃ x ∈ l, AV.has n (opv tm x) = true
  | [] => by simp [opvs, AV.hass]
  | x :: l => by simp [opvs, AV.hass, hass_opvs tm n l]

section
variable {tm tm' : Nat → Option AV} {ob ob' : Nat → Option AO}

theorem fe_congr {α : Type} {x : Operand} {k k' : List Prop → AV → Option α} (hx : opv tm x = opv tm' x) (h : ∀ p v, (∀ n, v.has n = true → (opv tm x).has n = true) → k p v = k' p v) : fe tm x k = fe tm' x k' := by
  unfold fe
  rw [← hx]
  split
  · rename_i g v hv
    rw [fv_eq, fv_eq]
    exact h _ _ fun n hn => by rw [hv]; simpa [AV.has] using hn
  · rw [fv_eq, fv_eq]
    exact h _ _ fun n hn => hn

theorem fel_congr {α : Type} : ∀ {xs : List Operand} {k k' : List Prop → List AV → Option α}, (∀ x ∈ xs, opv tm x = opv tm' x) → (∀ p vs, (∀ n, AV.hass n vs = true → ∃ x ∈ xs, (opv tm x).has n = true) → k p vs = k' p vs) → fel tm xs k = fel tm' xs k'
  | [], k, k', _, h => h _ _ (by simp [AV.hass])
  | x :: xs, k, k', hx, h => by
    simp only [fel]
    refine fe_congr (hx x (by simp)) fun p v hv => fel_congr (fun y hy => hx y (by simp [hy])) fun q vs hvs => h _ _ fun n hn => ?_
    simp only [AV.hass, Bool.or_eq_true] at hn
    rcases hn with hn | hn
    · exact ⟨x, by simp, hv n hn⟩
    · obtain ⟨y, hy, hy'⟩ := hvs n hn
      exact ⟨y, by simp [hy], hy'⟩

theorem fep_congr {α : Type} : ∀ {xs : List (Nat × Operand)} {k : List Prop → List (Nat × AV) → Option α}, (∀ x ∈ xs, opv tm x.2 = opv tm' x.2) → fep tm xs k = fep tm' xs k
  | [], k, _ => rfl
  | (i, x) :: xs, k, hx => by
    simp only [fep]
    exact fe_congr (hx (i, x) (by simp)) fun p v _ => fep_congr (fun y hy => hx y (by simp [hy]))

theorem optI_congr {α : Type} {x : Option Operand} {d : Int} {k : List Prop → Int → Option α} (hx : ∀ o, x = some o → opv tm o = opv tm' o) : optI tm x d k = optI tm' x d k := by
  unfold optI
  cases x with
  | none => rfl
  | some o => exact fe_congr (hx o rfl) fun p v _ => rfl

theorem lvA_congr {n : Nat} (h : ob n = ob' n) : lvA ob n = lvA ob' n := by simp [lvA, h]

theorem liveA_congr {v : AV} (h : ∀ n, v.has n = true → ob n = ob' n) : liveA ob v = liveA ob' v := by
  unfold liveA
  split <;> first | rfl | exact lvA_congr (h _ (by simp [AV.has, beq_self]))

theorem opLoad_congr {P : Program} {T : TypeId} {v : AV} (h : ∀ n, v.has n = true → ob n = ob' n) : opLoad P T ob v = opLoad P T ob' v := by
  unfold opLoad
  cases v <;> try rfl
  case ptr n off => have e := h n (by simp [AV.has, beq_self]); simp only [e]
  case epr n s i off => have e := h n (by simp [AV.has, beq_self]); simp only [e]
  case cpr n off i m => have e := h n (by simp [AV.has, beq_self]); simp only [e]

theorem opStore_congr {P : Program} {T : TypeId} {v y : AV} (h : ∀ n, v.has n = true → ob n = ob' n) : opStore P T ob v y = opStore P T ob' v y := by
  unfold opStore
  cases v <;> try rfl
  case ptr n off => have e := h n (by simp [AV.has, beq_self]); simp only [e]
  case epr n s i off => have e := h n (by simp [AV.has, beq_self]); simp only [e]
  case cpr n off i m => have e := h n (by simp [AV.has, beq_self]); simp only [e]

theorem readA_congr {e : Sh} {v : AV} (h : ∀ n, v.has n = true → ob n = ob' n) : readA ob e v = readA ob' e v := by
  unfold readA
  cases v <;> try rfl
  case rsl n s off len => have e := h n (by simp [AV.has, beq_self]); simp only [e]
  case own n s => have e := h n (by simp [AV.has, beq_self]); simp only [e]
  case csl n off len => have e := h n (by simp [AV.has, beq_self]); simp only [e]

theorem opConvert_congr {P : Program} {src dst : TypeId} {nm : Nat} {v : AV} (h : ∀ n, v.has n = true → ob n = ob' n) : opConvert P src dst ob nm v = opConvert P src dst ob' nm v := by
  unfold opConvert
  simp only [readA_congr (e := .int .u8) h]

theorem apSrc_congr {P : Program} {T : TypeId} {e : Sh} {v : AV} (h : ∀ n, v.has n = true → ob n = ob' n) : apSrc P T ob e v = apSrc P T ob' e v := by
  unfold apSrc
  simp only [readA_congr (e := e) h]

theorem opAppend_congr {P : Program} {T T' : TypeId} {nm : Nat} {v y : AV} (h : ∀ n, v.has n = true → ob n = ob' n) (hy : ∀ n, y.has n = true → ob n = ob' n) : opAppend P T T' ob nm v y = opAppend P T T' ob' nm v y := by
  unfold opAppend
  simp only [apSrc_congr (P := P) (T := T') hy]
  cases v <;> try rfl
  case rsl n s off len => have e := h n (by simp [AV.has, beq_self]); simp only [e]
  case own n s => have e := h n (by simp [AV.has, beq_self]); simp only [e]

theorem opSlice_congr {P : Program} {T : TypeId} {v : AV} {lo hi mx : Option Operand} {nm : Nat} (h : ∀ o, lo = some o ∨ hi = some o ∨ mx = some o → opv tm o = opv tm' o) (hv : ∀ n, v.has n = true → ob n = ob' n) : opSlice P T tm ob v lo hi mx nm = opSlice P T tm' ob' v lo hi mx nm := by
  have hlo : ∀ {α : Type} (d : Int) (k : List Prop → Int → Option α), optI tm lo d k = optI tm' lo d k := fun d k => optI_congr fun o ho => h o (.inl ho)
  have hhi : ∀ {α : Type} (d : Int) (k : List Prop → Int → Option α), optI tm hi d k = optI tm' hi d k := fun d k => optI_congr fun o ho => h o (.inr (.inl ho))
  have hmx : ∀ {α : Type} (d : Int) (k : List Prop → Int → Option α), optI tm mx d k = optI tm' mx d k := fun d k => optI_congr fun o ho => h o (.inr (.inr ho))
  unfold opSlice
  cases mx with
  | none =>
    simp only [hlo, hhi]
    cases v <;> try rfl
    case own n s => have e := hv n (by simp [AV.has, beq_self]); simp only [e]
  | some m =>
    cases hi with
    | none => rfl
    | some hh => simp only [hlo, hhi, hmx]

theorem opLen_congr {P : Program} {T : TypeId} {v : AV} (h : ∀ n, v.has n = true → ob n = ob' n) : opLen P T ob v = opLen P T ob' v := by
  unfold opLen
  cases v <;> try rfl
  case own n s => have e := h n (by simp [AV.has, beq_self]); simp only [e]

theorem opIndexAddr_congr {P : Program} {T : TypeId} {cst : Bool} {v i : AV} (h : ∀ n, v.has n = true → ob n = ob' n) : opIndexAddr P T cst ob v i = opIndexAddr P T cst ob' v i := by
  unfold opIndexAddr
  cases v <;> try rfl
  case own n s => have e := h n (by simp [AV.has, beq_self]); simp only [e]

theorem opA_congr {P : Program} [Tabs P] {C : Ctx} (hC : CtxOK P C) {nm : Nat} {o : Oper} (hx : ∀ x ∈ o.op.operands.toList, opv tm x = opv tm' x) (hob : ∀ n, AV.hass n (opvs tm o.op.operands.toList) = true → ob n = ob' n) :
    opA P C tm ob nm o = opA P C tm' ob' nm o := by
  have hn : ∀ x ∈ o.op.operands.toList, ∀ n, (opv tm x).has n = true → ob n = ob' n := fun x hx n hn => hob n ((hass_opvs tm n _).2 ⟨x, hx, hn⟩)
  unfold opA
  cases hop : o.op <;> simp only [hop, Op.operands] at hx hn ⊢
  case move x => exact fe_congr (hx x (by simp)) fun p v _ => rfl
  case assign x => exact fe_congr (hx x (by simp)) fun p v _ => rfl
  case pick c x y =>
    rw [hx x (by simp), hx y (by simp)]
    exact fe_congr (hx c (by simp)) fun p v _ => rfl
  case box T x => exact fe_congr (hx x (by simp)) fun p v _ => rfl
  case build T parts =>
    have : ∀ x ∈ parts.toList, opv tm x.2 = opv tm' x.2 := fun x hxm => hx x.2 (by simp; exact ⟨x.1, by simpa using hxm⟩)
    split
    · exact fep_congr this
    · rfl
  case buildSlice T n parts =>
    have : ∀ x ∈ parts.toList, opv tm x.2 = opv tm' x.2 := fun x hxm => hx x.2 (by simp; exact ⟨x.1, by simpa using hxm⟩)
    split
    · split
      · exact fep_congr this
      · rfl
    · rfl
  case load T x => exact fe_congr (hx x (by simp)) fun p v hv => by rw [opLoad_congr fun n h => hn x (by simp) n (hv n h)]
  case store T x y =>
    refine fe_congr (hx x (by simp)) fun p v hv => fe_congr (hx y (by simp)) fun p' v' hv' => ?_
    rw [opStore_congr fun n h => hn x (by simp) n (hv n h)]
  case nilCheck x => exact fe_congr (hx x (by simp)) fun p v hv => by rw [liveA_congr fun n h => hn x (by simp) n (hv n h)]
  case binOp op T x y yT => exact fe_congr (hx x (by simp)) fun p v hv => fe_congr (hx y (by simp)) fun p' v' hv' => rfl
  case unOp op T x => exact fe_congr (hx x (by simp)) fun p v _ => rfl
  case convert src dst x => exact fe_congr (hx x (by simp)) fun p v hv => by rw [opConvert_congr fun n h => hn x (by simp) n (hv n h)]
  case sliceToArrayPointer arr x => exact fe_congr (hx x (by simp)) fun p v _ => rfl
  case makeInterface T x => exact fe_congr (hx x (by simp)) fun p v _ => rfl
  case makeFunc fn first cap =>
    split
    · exact fel_congr (fun x hxm => hx x (by simp at hxm ⊢; exact .inl hxm)) fun p vs _ => fel_congr (fun x hxm => hx x (by simp at hxm ⊢; exact .inr hxm)) fun q ws _ => rfl
    · rfl
  case makeSlice T l c => exact fe_congr (hx l (by simp)) fun p v hv => fe_congr (hx c (by simp)) fun p' v' hv' => rfl
  case slice T x lo hi mx =>
    refine fe_congr (hx x (by simp)) fun p v hv => ?_
    rw [liveA_congr fun n h => hn x (by simp) n (hv n h), opSlice_congr (fun o ho => hx o ?_) fun n h => hn x (by simp) n (hv n h)]
    rcases ho with rfl | rfl | rfl <;> simp
  case fieldAddr T x f => exact fe_congr (hx x (by simp)) fun p v hv => by rw [liveA_congr fun n h => hn x (by simp) n (hv n h)]
  case field T x f => exact fe_congr (hx x (by simp)) fun p v _ => rfl
  case indexAddr T x i =>
    refine fe_congr (hx x (by simp)) fun p v hv => fe_congr (hx i (by simp)) fun p' v' hv' => ?_
    rw [liveA_congr fun n h => hn x (by simp) n (hv n h), opIndexAddr_congr fun n h => hn x (by simp) n (hv n h)]
  case index T x i => exact fe_congr (hx x (by simp)) fun p v hv => fe_congr (hx i (by simp)) fun p' v' hv' => rfl
  case extract x i => exact fe_congr (hx x (by simp)) fun p v _ => rfl
  case call c =>
    split
    · rename_i f hc
      simp only [Call.operands, hc] at hx hn
      refine fe_congr (hx f (by simp)) fun p v hv => fel_congr (fun x hxm => hx x (by simp at hxm ⊢; exact .inr hxm)) fun q vs hvs => ?_
      split
      · rename_i F first cap
        rw [hC.cong F _ ob ob' nm fun n h => ?_]
        rw [appA_eq, appA_eq] at h
        obtain ⟨b, hb, hbn⟩ := (hass_iff n _).1 h
        rcases List.mem_append.1 hb with hb | hb
        · exact hn f (by simp) n (hv n (by simp only [AV.has, Bool.or_eq_true]; exact .inl ((hass_iff n _).2 ⟨b, hb, hbn⟩)))
        · rcases List.mem_append.1 hb with hb | hb
          · obtain ⟨x, hxm, hxn⟩ := hvs n ((hass_iff n _).2 ⟨b, hb, hbn⟩)
            exact hn x (by simp at hxm ⊢; exact .inr hxm) n hxn
          · exact hn f (by simp) n (hv n (by simp only [AV.has, Bool.or_eq_true]; exact .inr ((hass_iff n _).2 ⟨b, hb, hbn⟩)))
      · rfl
    · rename_i hc
      simp only [Call.operands, hc] at hx hn
      split
      · rename_i x T hl _
        refine fe_congr (hx x (by simp [hl])) fun p v hv => ?_
        rw [liveA_congr fun n h => hn x (by simp [hl]) n (hv n h), opLen_congr fun n h => hn x (by simp [hl]) n (hv n h)]
      · rfl
    · rename_i hc
      simp only [Call.operands, hc] at hx hn
      split
      · rename_i x y T T' hl _
        refine fe_congr (hx x (by simp [hl])) fun p v hv => fe_congr (hx y (by simp [hl])) fun p' v' hv' => ?_
        rw [opAppend_congr (fun n h => hn x (by simp [hl]) n (hv n h)) (fun n h => hn y (by simp [hl]) n (hv' n h))]
      · rfl
    · rename_i hc
      simp only [Call.operands, hc] at hx hn
      exact fel_congr (fun x hxm => hx x (by simpa using hxm)) fun p vs _ => rfl
    · rename_i hc
      simp only [Call.operands, hc] at hx hn
      exact fel_congr (fun x hxm => hx x (by simpa using hxm)) fun p vs _ => rfl
    · rfl

end
end Go.Tr
