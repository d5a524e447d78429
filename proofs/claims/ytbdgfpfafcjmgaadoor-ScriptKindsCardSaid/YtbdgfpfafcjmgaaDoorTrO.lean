/- An operation: what the evaluator says of it is what the model does.
   Conditions: none. -/
import Derived.Test.YtbdgfpfafcjmgaaDoorTrN
namespace Go.Tr
open Go
set_option linter.unusedVariables false
set_option linter.unusedSimpArgs false

/-- What a call comes to, wherever it is made. -/
def CallOK (P : Program) [Tabs P] (F : FuncId) (args : List AV) (ob : Nat → Option AO) (nm : Nat) (r : AV) (u : Upd) : Prop :=
  (∃ fn, P.funcs[F]? = some fn ∧ (fn.name == "runtime.NumGoroutine") = false ∧ fn.body.isNone = false) ∧
  ∀ (W0 : WX) (okIn B us : Nat → Prop) (E : Env) (vs : List Value), TabIn P W0 B → EnvOk W0 okIn B E → (∀ n, n < 16 → us n) → ¬ us nm → (∀ n o, ob n = some o → ObjR E n o ∧ o.nm us ∧ us n) → (∀ n L, E.mu n = some L → ∃ o, ob n = some o) →
    VRL E args vs → AV.nms us args →
    Calls P F vs.toArray E.w fun e w' => ∃ E' x, E'.w = w' ∧ e = .returned x ∧ Evo W0 okIn B us (usn us nm) E E' u ∧ VR E' r x ∧ r.nm (usn us nm)

/-- A table of calls: what it says is so, and hangs on the objects alone that are named. -/
structure CtxOK (P : Program) [Tabs P] (C : Ctx) : Prop where
  ok : ∀ F args ob nm p r u, C F args ob nm = some (p, r, u) → p → CallOK P F args ob nm r u
  cong : ∀ F args ob ob' nm, (∀ n, AV.hass n args = true → ob n = ob' n) → C F args ob nm = C F args ob' nm

section
variable {W0 : WX} {okIn B us : Nat → Prop} {tm : Nat → Option AV} {ob : Nat → Option AO} {nt : Nat} {E : Env} {a : Act}

theorem exec_v {P : Program} {w w' : World} {s : Sem Value} {x : Value} (h : s.run P w = .ok x w') : ((do pure (.value (← s))) : Sem Next).run P w = .ok (.value x) w' := by
  simp [h]

theorem usn_of {nm n : Nat} (h : us n) : usn us nm n := .inl h

theorem hq_l {p q : List Prop} (hq : ∀ r ∈ appA p q, r) : ∀ r ∈ p, r := fun r hr => hq r (mem_appA.2 (.inl hr))
theorem hq_r {p q : List Prop} (hq : ∀ r ∈ appA p q, r) : ∀ r ∈ q, r := fun r hr => hq r (mem_appA.2 (.inr hr))

theorem call_sound {P : Program} [Tabs P] {C : Ctx} (hC : CtxOK P C) (hT : TabIn P W0 B) (hs : SimE W0 okIn B us tm ob nt E a) {nm : Nat} (hnm : ¬ us nm) {o : Oper} {c : Call} {f : Operand} (hop : o.op = .call c) (hc : c.callee = .value f)
    {F : FuncId} {first cap args : List AV} (hf : VR E (.fn F first cap) (a.eval f)) (hfn : (AV.fn F first cap).nm us) (hargs : VRL E args (c.args.toList.map a.eval)) (hargsn : AV.nms us args)
    {p : Prop} {r : AV} {u : Upd} (h : C F (appA first (appA args cap)) ob nm = some (p, r, u)) (hp : p) : StepOK P o a W0 okIn B us nm E r u := by
  intro K Q hK
  obtain ⟨⟨fn, h1, h2, h3⟩, hcall⟩ := hC.ok _ _ _ _ _ _ _ h hp
  simp only [VR] at hf
  obtain ⟨x, y, hv, hx, hy⟩ := hf
  have hlist : appA first (appA args cap) = first ++ (args ++ cap) := by rw [appA_eq, appA_eq]
  rw [hlist] at hcall
  have hall := hx.append (hargs.append hy)
  have hcalls := hcall W0 okIn B us E _ hT hs.env hs.lo hnm (fun n o hn => hs.obj n o hn) hs.dom hall (nms_append hfn.1 (nms_append hargsn hfn.2))
  unfold Oper.wp
  have hrun : (execOp a.eval o).run P E.w = .ok (.enter F (x ++ (c.args.toList.map a.eval ++ y)).toArray) E.w := by
    simp only [execOp, hop, resolve, hc, hv, Deferred.ofValue, Sem.run_bind, Sem.run_pure, Result.andThen_ok, invoke, callFunc, run_program, h1, h2, h3, Bool.false_eq_true, if_false]
    congr 2
    apply Array.ext'
    simp
  rw [hrun]
  simp only [Oper.upon]
  refine Calls.mono hcalls fun e w' he => ?_
  obtain ⟨E', z, rfl, rfl, hev, hz, hzn⟩ := he
  exact hK E' z hev hz hzn

theorem opA_sound {P : Program} [Tabs P] {C : Ctx} (hC : CtxOK P C) (hT : TabIn P W0 B) (hs : SimE W0 okIn B us tm ob nt E a) {nm : Nat} (hnm : ¬ us nm) {o : Oper} {R : OpR} (h : opA P C tm ob nm o = some R) (hq : ∀ p ∈ R.obs, p) :
    StepOK P o a W0 okIn B us nm E R.v R.u := by
  unfold opA at h
  split at h
  · -- move
    rename_i x hop
    obtain ⟨p, v, h1, h2, h3⟩ := fe_sound hs h
    simp only [Option.some.injEq] at h1
    subst h1
    exact StepOK.value hs (by simp [execOp, hop]) (h2 hq) (h3 hq)
  · -- assign
    rename_i x hop
    obtain ⟨p, v, h1, h2, h3⟩ := fe_sound hs h
    simp only [Option.some.injEq] at h1
    subst h1
    exact StepOK.value hs (by simp [execOp, hop]) (h2 hq) (h3 hq)
  · -- pick
    rename_i c x y hop
    obtain ⟨p, v, h1, h2, h3⟩ := fe_sound hs h
    split at h1
    · rename_i t
      split at h1
      · rename_i q r hp
        simp only [Option.some.injEq] at h1
        subst h1
        have hc := h2 (hq_l hq)
        simp only [VR] at hc
        obtain ⟨g1, g2⟩ := pickA_sound hp (hq_r hq) (opv_sound hs x).1 (opv_sound hs y).1 (fun c hc => by rw [hc]; rfl) (fun c hc => by rw [hc]; rfl)
        refine StepOK.value hs (x := if t then a.eval x else a.eval y) ?_ g1 (g2 us)
        simp only [execOp, hop, hc, asBool, Sem.run_bind, Sem.run_pure, Result.andThen_ok]
      · simp at h1
    · simp at h1
  · -- alloc
    rename_i T hop
    split at h
    · rename_i l hz
      split at h
      · rw [fvl_eq] at h
        simp only [Option.some.injEq] at h
        subst h
        obtain ⟨E', z, h1, h2, h3⟩ := opAlloc_sound hs hnm hz
        exact StepOK.valueE (by simp only [execOp, hop]; exact exec_v h1) h2 h3 (.inr rfl)
      · simp at h
    · simp at h
  · -- box
    rename_i T x hop
    obtain ⟨p, v, h1, h2, h3⟩ := fe_sound hs h
    split at h1
    · rename_i l hl
      simp only [Option.some.injEq] at h1
      subst h1
      obtain ⟨E', z, g1, g2, g3⟩ := opBox_sound (T := T) hs hnm hl (h2 hq) (h3 hq)
      exact StepOK.valueE (by simp only [execOp, hop]; exact exec_v g1) g2 g3 (.inr rfl)
    · simp at h1
  · -- build
    rename_i T parts hop
    split at h
    · rename_i z pl hz hpl
      obtain ⟨p, l, h1, h2, h3⟩ := fep_sound hs h
      split at h1
      · rename_i l' hl
        rw [fvl_eq] at h1
        simp only [Option.some.injEq] at h1
        subst h1
        obtain ⟨y, g1, g2, g3⟩ := opBuild_sound hz hpl hl (h2 hq) (h3 hq) E.w
        refine StepOK.value hs ?_ g2 g3
        simp only [execOp, hop]
        refine exec_v ?_
        have : (parts.map fun (i, x) => (i, a.eval x)) = (parts.toList.map fun x => (x.1, a.eval x.2)).toArray := by
          apply Array.ext'; simp
        rw [this]
        exact g1
      · simp at h1
    · simp at h
  · -- buildSlice
    rename_i T n parts hop
    split at h
    · rename_i el hT
      split at h
      · rename_i e he
        obtain ⟨p, l, h1, h2, h3⟩ := fep_sound hs h
        split at h1
        · rename_i ts hb1 hb2 hl
          split at h1
          · rename_i z hz
            simp only [Option.some.injEq] at h1
            subst h1
            have e1 := beq_true hb1
            rw [lenA_eq] at e1
            obtain ⟨E', y, g1, g2, g3⟩ := opBuildSlice_sound hs hnm hT he hz e1 (Nat.le_of_ble_eq_true hb2) hl (h2 hq)
            refine StepOK.valueE ?_ g2 g3 (.inr rfl)
            simp only [execOp, hop]
            refine exec_v ?_
            have : (parts.map fun (i, x) => (i, a.eval x)) = (parts.toList.map fun x => (x.1, a.eval x.2)).toArray := by
              apply Array.ext'; simp
            rw [this]
            exact g1
          · simp at h1
        · simp at h1
      · simp at h
    · simp at h
  · -- load
    rename_i T x hop
    obtain ⟨p, v, h1, h2, h3⟩ := fe_sound hs h
    split at h1
    · rename_i q r hl
      rw [fv_eq] at h1
      simp only [Option.some.injEq] at h1
      subst h1
      obtain ⟨z, g1, g2, g3⟩ := opLoad_sound hs hl (hq_r hq) (h2 (hq_l hq))
      exact StepOK.value hs (by simp only [execOp, hop]; exact exec_v g1) g2 g3
    · simp at h1
  · -- store
    rename_i T x y hop
    obtain ⟨p, v, h1, h2, h3⟩ := fe_sound hs h
    obtain ⟨p', v', h1', h2', h3'⟩ := fe_sound hs h1
    split at h1'
    · rename_i q u hl
      simp only [Option.some.injEq] at h1'
      subst h1'
      obtain ⟨E', g1, g2⟩ := opStore_sound (nm := nm) hs hl (hq_r (hq_r hq)) (h2 (hq_l hq)) (h2' (hq_l (hq_r hq))) (h3' (hq_l (hq_r hq)))
      refine StepOK.skip ?_ g2
      simp [execOp, hop, g1]
    · simp at h1'
  · -- nilCheck
    rename_i x hop
    obtain ⟨p, v, h1, h2, h3⟩ := fe_sound hs h
    split at h1
    · rename_i hl
      split at h1
      · simp only [Option.some.injEq] at h1
        subst h1
        have hv := h2 hq
        have hv' := hv
        simp only [VR] at hv
        obtain ⟨L, hL, _⟩ := live_loc hs hl
        obtain ⟨b, _, hb⟩ := hv.2 L hL
        exact StepOK.value hs (by simp [execOp, hop, hb]; rfl) (by rw [← hb]; exact hv') (h3 hq)
      · simp only [Option.some.injEq] at h1
        subst h1
        have hv := h2 hq
        have hv' := hv
        simp only [VR] at hv
        obtain ⟨b, o', cs, hb, _⟩ := hv
        exact StepOK.value hs (by simp [execOp, hop, hb]; rfl) (by rw [← hb]; exact hv') (h3 hq)
      · simp only [Option.some.injEq] at h1
        subst h1
        have hv := h2 hq
        have hv' := hv
        simp only [VR] at hv
        obtain ⟨L, hL, _⟩ := live_loc hs hl
        obtain ⟨b, _, hb⟩ := hv.2 L hL
        exact StepOK.value hs (by simp [execOp, hop, hb]; rfl) (by rw [← hb]; exact hv') (h3 hq)
      · simp only [Option.some.injEq] at h1
        subst h1
        have hv := h2 hq
        have hv' := hv
        simp only [VR] at hv
        obtain ⟨y, z, hb, _⟩ := hv
        exact StepOK.value hs (by simp [execOp, hop, hb]; rfl) (by rw [← hb]; exact hv') (h3 hq)
      · simp at h1
    · simp at h1
  · -- binOp
    rename_i op T x y yT hop
    obtain ⟨p, v, h1, h2, h3⟩ := fe_sound hs h
    obtain ⟨p', v', h1', h2', h3'⟩ := fe_sound hs h1
    split at h1'
    · rename_i q r hl
      simp only [Option.some.injEq] at h1'
      subst h1'
      obtain ⟨z, g1, g2, g3⟩ := opBin_sound E.w x y hl (hq_r (hq_r hq)) (h2 (hq_l hq)) (h2' (hq_l (hq_r hq)))
      exact StepOK.value hs (by simp only [execOp, hop]; exact exec_v g1) g2 (g3 us)
    · simp at h1'
  · -- unOp
    rename_i op T x hop
    obtain ⟨p, v, h1, h2, h3⟩ := fe_sound hs h
    split at h1
    · simp only [Option.some.injEq] at h1
      subst h1
      have hv := h2 hq
      simp only [VR] at hv
      exact StepOK.value hs (by simp only [execOp, hop, hv]; exact exec_v (by simp [Op.unary])) VR.bool (by simp [AV.nm])
    · simp only [Option.some.injEq] at h1
      subst h1
      have hv := h2 hq
      simp only [VR] at hv
      exact StepOK.value hs (by simp only [execOp, hop, hv]; exact exec_v (by simp only [Op.unary, Op.intArith, Sem.run_pure])) VR.int (by simp [AV.nm])
    · simp only [Option.some.injEq] at h1
      subst h1
      have hv := h2 hq
      simp only [VR] at hv
      exact StepOK.value hs (by simp only [execOp, hop, hv]; exact exec_v (by simp only [Op.unary, Op.intBits, bxorI, Sem.run_pure])) VR.int (by simp [bxorI, AV.nm])
    · simp at h1
  · -- convert
    rename_i src dst x hop
    obtain ⟨p, v, h1, h2, h3⟩ := fe_sound hs h
    split at h1
    · rename_i q w u hl
      simp only [Option.some.injEq] at h1
      subst h1
      obtain ⟨E', z, g1, g2, g3, g4⟩ := opConvert_sound hs hnm hl (hq_r hq) (h2 (hq_l hq))
      exact StepOK.valueE (by simp only [execOp, hop]; exact exec_v g1) g2 g3 g4
    · simp at h1
  · -- sliceToArrayPointer
    rename_i arr x hop
    obtain ⟨p, v, h1, h2, h3⟩ := fe_sound hs h
    split at h1
    · rename_i e xs n e0 s hT hsh
      split at h1
      · rename_i t ht
        simp only [Option.some.injEq] at h1
        subst h1
        have hle : n ≤ xs.length := hq _ (mem_appA.2 (.inr (List.Mem.head _)))
        have hv := h2 (hq_l hq)
        simp only [VR, LRs] at hv
        obtain ⟨base, cap, hv, hc, hr⟩ := hv
        simp only [List.cons.injEq, and_true] at hv
        have hn0 : n ≠ 0 := by intro h0; subst h0; simp [arrV] at ht
        rcases hr with hr | ⟨b, o', rfl, hok, hr⟩
        · omega
        · obtain ⟨cs, c1, c2, c3, c4⟩ := arrV_sound hr n 0 s t ht (by omega)
          refine StepOK.value hs (x := .pointer (some ⟨b, o', none⟩)) ?_ ?_ (by simp [AV.nm])
          · simp only [execOp, hop, hv]
            refine exec_v ?_
            simp [Instr.arrayAt, run_underlying hT]
            omega
          · simp only [VR]
            exact ⟨b, o', cs, rfl, hok, c1, by simpa using c3, c4⟩
      · simp at h1
    · simp at h1
  · -- makeInterface
    rename_i T x hop
    obtain ⟨p, v, h1, h2, h3⟩ := fe_sound hs h
    split at h1
    · simp at h1
    · rename_i d hne hT
      simp only [Option.some.injEq] at h1
      subst h1
      refine StepOK.value hs (x := .iface T (a.eval x)) ?_ ?_ (h3 hq)
      · simp only [execOp, hop]
        refine exec_v ?_
        simp only [Instr.makeInterface, Sem.run_bind, run_underlying hT, Result.andThen_ok]
        rfl
      · simp only [VR]
        exact ⟨_, rfl, h2 hq⟩
    · simp at h1
  · -- makeFunc
    rename_i fn first cap hop
    split at h
    · rename_i f
      obtain ⟨p, v, h1, h2, h3⟩ := fel_sound hs h
      obtain ⟨p', v', h1', h2', h3'⟩ := fel_sound hs h1
      simp only [Option.some.injEq] at h1'
      subst h1'
      refine StepOK.value hs (x := .func (.func f) (first.toList.map a.eval).toArray (cap.toList.map a.eval).toArray) ?_ ?_ ⟨h3 (hq_l hq), h3' (hq_r hq)⟩
      · simp only [execOp, hop]
        refine exec_v ?_
        have e1 : Array.map a.eval first = (List.map a.eval first.toList).toArray := by apply Array.ext'; simp
        have e2 : Array.map a.eval cap = (List.map a.eval cap.toList).toArray := by apply Array.ext'; simp
        simp only [Instr.makeFunc, Sem.run_pure, e1, e2]
      · simp only [VR]
        exact ⟨_, _, rfl, h2 (hq_l hq), h2' (hq_r hq)⟩
    · simp at h
  · -- makeSlice
    rename_i T l c hop
    obtain ⟨p, v, h1, h2, h3⟩ := fe_sound hs h
    obtain ⟨p', v', h1', h2', h3'⟩ := fe_sound hs h1
    split at h1'
    · rename_i k n k' m el hT
      split at h1'
      · rename_i e z he hz
        split at h1'
        · rename_i t ht
          simp only [Option.some.injEq] at h1'
          subst h1'
          have hv := h2 (hq_l hq)
          have hv' := h2' (hq_l (hq_r hq))
          simp only [VR] at hv hv'
          have hcond := hq _ (mem_appA.2 (.inr (mem_appA.2 (.inr (List.Mem.head _)))))
          obtain ⟨E', y, g1, g2, g3⟩ := opMakeSlice_sound (k := k) (k' := k') hs hnm hT he hz ht hcond
          exact StepOK.valueE (by simp only [execOp, hop, hv, hv']; exact exec_v g1) g2 g3 (.inr rfl)
        · simp at h1'
      · simp at h1'
    · simp at h1'
  · -- slice
    rename_i T x lo hi mx hop
    obtain ⟨p, v, h1, h2, h3⟩ := fe_sound hs h
    split at h1
    · rename_i q w u hl hsl
      simp only [Option.some.injEq] at h1
      subst h1
      obtain ⟨E', z, g1, g2, g3, g4⟩ := opSlice_sound hs hnm hl hsl (hq_r hq) (h2 (hq_l hq)) (h3 (hq_l hq))
      exact StepOK.valueE (by simp only [execOp, hop]; exact exec_v g1) g2 g3 g4
    · simp at h1
  · -- fieldAddr
    rename_i T x f hop
    obtain ⟨p, v, h1, h2, h3⟩ := fe_sound hs h
    split at h1
    · rename_i w hl hf
      simp only [Option.some.injEq] at h1
      subst h1
      obtain ⟨z, g1, g2, g3⟩ := opFieldAddr_sound hs hl hf (h2 hq) (h3 hq) E.w
      exact StepOK.value hs (by simp only [execOp, hop]; exact exec_v g1) g2 g3
    · simp at h1
  · -- field
    rename_i T x f hop
    obtain ⟨p, v, h1, h2, h3⟩ := fe_sound hs h
    split at h1
    · rename_i l g hf
      split at h1
      · rename_i w hw
        rw [fv_eq] at h1
        simp only [Option.some.injEq] at h1
        subst h1
        obtain ⟨z, g1, g2, g3⟩ := opField_sound hf hw (h2 hq) (h3 hq) E.w
        exact StepOK.value hs (by simp only [execOp, hop]; exact exec_v g1) g2 g3
      · simp at h1
    · simp at h1
  · -- indexAddr
    rename_i T x i hop
    obtain ⟨p, v, h1, h2, h3⟩ := fe_sound hs h
    obtain ⟨p', v', h1', h2', h3'⟩ := fe_sound hs h1
    split at h1'
    · rename_i q w hl hi
      simp only [Option.some.injEq] at h1'
      subst h1'
      obtain ⟨z, g1, g2, g3⟩ := opIndexAddr_sound hs hl hi (hq_r (hq_r hq)) (h2 (hq_l hq)) (h2' (hq_l (hq_r hq))) (h3 (hq_l hq)) E.w
      exact StepOK.value hs (by simp only [execOp, hop]; exact exec_v g1) g2 g3
    · simp at h1'
  · -- index
    rename_i T x i hop
    obtain ⟨p, v, h1, h2, h3⟩ := fe_sound hs h
    obtain ⟨p', v', h1', h2', h3'⟩ := fe_sound hs h1
    split at h1'
    · rename_i q w hi
      rw [fv_eq] at h1'
      simp only [Option.some.injEq] at h1'
      subst h1'
      obtain ⟨z, g1, g2, g3⟩ := opIndex_sound hi (hq_r (hq_r hq)) (h2 (hq_l hq)) (h2' (hq_l (hq_r hq))) (h3 (hq_l hq)) E.w
      exact StepOK.value hs (by simp only [execOp, hop]; exact exec_v g1) g2 g3
    · simp at h1'
  · -- extract
    rename_i x i hop
    obtain ⟨p, v, h1, h2, h3⟩ := fe_sound hs h
    split at h1
    · rename_i l
      split at h1
      · rename_i w hw
        rw [fv_eq] at h1
        simp only [Option.some.injEq] at h1
        subst h1
        have hv := h2 hq
        simp only [VR] at hv
        obtain ⟨vs, hv, hvl⟩ := hv
        rw [nth_eq] at hw
        obtain ⟨y, hy, hyv⟩ := hvl.nth hw
        refine StepOK.value hs (x := y) ?_ hyv (nms_nth (h3 hq) hw)
        simp only [execOp, hop, hv]
        refine exec_v ?_
        simp [Instr.extract, hy]
      · simp at h1
    · simp at h1
  · -- call
    rename_i c hop
    split at h
    · rename_i f hc
      obtain ⟨p, v, h1, h2, h3⟩ := fe_sound hs h
      obtain ⟨p', args, h1', h2', h3'⟩ := fel_sound hs h1
      split at h1'
      · rename_i F first cap
        split at h1'
        · rename_i r w u hctx
          rw [fv_eq] at h1'
          simp only [Option.some.injEq] at h1'
          subst h1'
          have hp : r := hq _ (mem_appA.2 (.inr (mem_appA.2 (.inr (List.Mem.head _)))))
          exact call_sound hC hT hs hnm hop hc (h2 (hq_l hq)) (h3 (hq_l hq)) (h2' (hq_l (hq_r hq))) (h3' (hq_l (hq_r hq))) hctx hp
        · simp at h1'
      · simp at h1'
    · -- len
      rename_i hc
      split at h
      · rename_i x T hx hT
        obtain ⟨p, v, h1, h2, h3⟩ := fe_sound hs h
        split at h1
        · rename_i w hl hlen
          simp only [Option.some.injEq] at h1
          subst h1
          obtain ⟨z, g1, g2, g3⟩ := opLen_sound (ty := o.type) hs hl hlen (h2 hq) E.w
          refine StepOK.value hs (x := z) ?_ g2 (g3 us)
          have e1 : c.args = #[x] := by apply Array.ext'; simpa using hx
          have e2 : c.argTypes = #[T] := by apply Array.ext'; simpa using hT
          simp only [execOp, hop, resolve, hc, Sem.run_bind, Sem.run_pure, Result.andThen_ok, invoke, builtin, e1, e2, List.map_toArray, List.map_cons, List.map_nil, g1]
        · simp at h1
      · simp at h
    · -- append
      rename_i hc
      split at h
      · rename_i x y T T' hx hT
        obtain ⟨p, v, h1, h2, h3⟩ := fe_sound hs h
        obtain ⟨p', v', h1', h2', h3'⟩ := fe_sound hs h1
        split at h1'
        · rename_i q w u hap
          simp only [Option.some.injEq] at h1'
          subst h1'
          obtain ⟨E', z, g1, g2, g3, g4⟩ := opAppend_sound (ty := o.type) hs hnm hap (hq_r (hq_r hq)) (h2 (hq_l hq)) (h2' (hq_l (hq_r hq)))
          refine StepOK.valueE (x := z) ?_ g2 g3 g4
          have e1 : c.args = #[x, y] := by apply Array.ext'; simpa using hx
          have e2 : c.argTypes = #[T, T'] := by apply Array.ext'; simpa using hT
          simp only [execOp, hop, resolve, hc, Sem.run_bind, Sem.run_pure, Result.andThen_ok, invoke, builtin, e1, e2, List.map_toArray, List.map_cons, List.map_nil, g1]
        · simp at h1'
      · simp at h
    · -- max
      rename_i hc
      obtain ⟨p, l, h1, h2, h3⟩ := fel_sound hs h
      split at h1
      · rename_i v r
        split at h1
        · rename_i w hw
          simp only [Option.some.injEq] at h1
          subst h1
          have hv := h2 hq
          simp only [VRL] at hv
          obtain ⟨u, us', hl, hu, hus⟩ := hv
          obtain ⟨z, g1, g2, g3⟩ := max_sound (P := P) E.w hw hu hus
          have hwn : w.nm us := by
            have : ∀ (l : List AV) (v r : AV), minmaxA true v l = some r → v.nm us → r.nm us := by
              intro l
              induction l with
              | nil => intro v r h hn; have : some v = some r := by cases v <;> simpa [minmaxA] using h
                       exact (Option.some.inj this) ▸ hn
              | cons x l ih => intro v r h hn; cases v <;> cases x <;> simp only [minmaxA, reduceCtorEq] at h; exact ih _ _ h (by simp [AV.nm])
            exact this _ _ _ hw (h3 hq).1
          refine StepOK.value hs (x := z) ?_ g2 hwn
          have e1 : c.args.map a.eval = (u :: us').toArray := by apply Array.ext'; simpa using hl
          simp only [execOp, hop, resolve, hc, Sem.run_bind, Sem.run_pure, Result.andThen_ok, invoke, builtin, Builtin.max_, e1, g1]
        · simp at h1
      · simp at h1
    · -- min
      rename_i hc
      obtain ⟨p, l, h1, h2, h3⟩ := fel_sound hs h
      split at h1
      · rename_i v r
        split at h1
        · rename_i w hw
          simp only [Option.some.injEq] at h1
          subst h1
          have hv := h2 hq
          simp only [VRL] at hv
          obtain ⟨u, us', hl, hu, hus⟩ := hv
          obtain ⟨z, g1, g2, g3⟩ := min_sound (P := P) E.w hw hu hus
          have hwn : w.nm us := by
            have : ∀ (l : List AV) (v r : AV), minmaxA false v l = some r → v.nm us → r.nm us := by
              intro l
              induction l with
              | nil => intro v r h hn; have : some v = some r := by cases v <;> simpa [minmaxA] using h
                       exact (Option.some.inj this) ▸ hn
              | cons x l ih => intro v r h hn; cases v <;> cases x <;> simp only [minmaxA, reduceCtorEq] at h; exact ih _ _ h (by simp [AV.nm])
            exact this _ _ _ hw (h3 hq).1
          refine StepOK.value hs (x := z) ?_ g2 hwn
          have e1 : c.args.map a.eval = (u :: us').toArray := by apply Array.ext'; simpa using hl
          simp only [execOp, hop, resolve, hc, Sem.run_bind, Sem.run_pure, Result.andThen_ok, invoke, builtin, Builtin.min_, e1, g1]
        · simp at h1
      · simp at h1
    · simp at h
  · simp at h

end
end Go.Tr
