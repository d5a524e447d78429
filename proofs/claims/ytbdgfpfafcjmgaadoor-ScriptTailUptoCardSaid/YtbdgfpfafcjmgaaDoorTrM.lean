/- Append, conversions, made slices, slices of slices, choices: as the evaluator has them.
   Conditions: none. -/
import Derived.Test.YtbdgfpfafcjmgaaDoorTrL
namespace Go.Tr
open Go
set_option linter.unusedVariables false
set_option linter.unusedSimpArgs false

section
variable {W0 : WX} {okIn B us : Nat → Prop} {tm : Nat → Option AV} {ob : Nat → Option AO} {nt : Nat} {E : Env} {a : Act}

theorem apSrc_sound {P : Program} (hs : SimE W0 okIn B us tm ob nt E a) {T : TypeId} {y : AV} {v : Value} {e : Sh} {ys : List e.T} {q : List Prop} (h : apSrc P T ob e y = some (ys, q)) (hq : ∀ p ∈ q, p) (hy : VR E y v) : Ap P E e ys T v := by
  unfold apSrc at h
  split at h
  · rename_i hT
    split at h
    · simp only [Option.some.injEq, Prod.mk.injEq] at h
      obtain ⟨rfl, rfl⟩ := h
      simp only [VR] at hy
      subst hy
      exact Ap.of_str hT _
    · simp at h
  · rename_i e' hT
    exact Ap.of_rd hT (readA_sound hs.ob h hq hy)
  · simp at h

theorem mem_appA {p : Prop} {l m : List Prop} : p ∈ appA l m ↔ p ∈ l ∨ p ∈ m := by rw [appA_eq]; exact List.mem_append

theorem opAppend_sound {P : Program} (hs : SimE W0 okIn B us tm ob nt E a) {nm : Nat} (hnm : ¬ us nm) {T T' ty : TypeId} {x y r : AV} {v z : Value} {q : List Prop} {u : Upd} (h : opAppend P T T' ob nm x y = some (q, r, u)) (hq : ∀ p ∈ q, p)
    (hx : VR E x v) (hy : VR E y z) : ∃ E' w, (Builtin.append_ #[T, T'] ty #[v, z]).run P E.w = .ok w E'.w ∧ Evo W0 okIn B us (usn us nm) E E' u ∧ VR E' r w ∧ r.nm (usn us nm) := by
  unfold opAppend at h
  split at h
  · rename_i el hT
    split at h
    · simp at h
    · rename_i e he
      split at h
      · simp at h
      · rename_i ys obs hsrc
        split at h
        · simp only [Option.some.injEq, Prod.mk.injEq] at h
          obtain ⟨rfl, rfl, rfl⟩ := h
          have hap := apSrc_sound hs hsrc (fun p hp => hq p (mem_appA.2 (.inl hp))) hy
          have hr : roomy P el ys.length := hq _ (mem_appA.2 (.inr (List.Mem.head _)))
          simp only [VR] at hx
          subst hx
          obtain ⟨E', w, h1, h2, h3⟩ := append_nil (ty := ty) hs hnm hT he hap hr
          exact ⟨E', w, h1, h2, h3, .inr rfl⟩
        · rename_i n e'
          split at h
          · rename_i e'' xs hob
            split at h
            · rename_i hee
              subst hee
              simp only [Option.some.injEq, Prod.mk.injEq] at h
              obtain ⟨rfl, rfl, rfl⟩ := h
              have hap := apSrc_sound hs hsrc (fun p hp => hq p (mem_appA.2 (.inl hp))) hy
              have hr : roomy P el (xs.length + ys.length) := hq _ (mem_appA.2 (.inr (List.Mem.head _)))
              obtain ⟨L0, k1, k2, k3, _⟩ := own_val (.inl (hs.obj _ _ hob).1) hx
              obtain ⟨E', w, h1, h2, h3⟩ := append_rows (ty := ty) hs hnm hT he hob (fun L hL => by obtain rfl : L0 = L := Option.some.inj (k1.symm.trans hL); exact ⟨k2, k3⟩) hap hr
              exact ⟨E', w, h1, h2, h3, .inr rfl⟩
            · simp at h
          · simp at h
        · rename_i n e' off len
          split at h
          · rename_i e'' xs hob
            split at h
            · rename_i hee
              subst hee
              simp only [Option.some.injEq, Prod.mk.injEq] at h
              obtain ⟨rfl, rfl, rfl⟩ := h
              have hap := apSrc_sound hs hsrc (fun p hp => hq p (mem_appA.2 (.inl hp))) hy
              obtain ⟨rfl, rfl, hr⟩ : off = 0 ∧ len = xs.length ∧ roomy P el (xs.length + ys.length) := hq _ (mem_appA.2 (.inr (List.Mem.head _)))
              obtain ⟨E', w, h1, h2, h3⟩ := append_rows (ty := ty) hs hnm hT he hob (fun L hL => by
                simp only [VR] at hx
                obtain ⟨base, hv, g1, g2, _⟩ := hx.2 L hL
                rw [g2 trivial] at hv
                exact ⟨hv, by omega⟩) hap hr
              exact ⟨E', w, h1, h2, h3, .inr rfl⟩
            · simp at h
          · simp at h
        · simp at h
  · simp at h

/-! ### conversions -/

theorem run_convert_int' {P : Program} (w : World) {src dst : TypeId} {k k' : IntKind} {n : Int} {s : TypeDesc} (hs : P.underlying src = some s) (hd : P.underlying dst = some (.int k')) :
    (convert src dst (.int k n)).run P w = .ok (.int k' (k'.wrap n)) w := by
  simp [convert, run_underlying hs, run_underlying hd, Conv.intToInt]

theorem opConvert_sound {P : Program} (hs : SimE W0 okIn B us tm ob nt E a) {nm : Nat} (hnm : ¬ us nm) {src dst : TypeId} {x r : AV} {v : Value} {q : List Prop} {u : Upd} (h : opConvert P src dst ob nm x = some (q, r, u)) (hq : ∀ p ∈ q, p)
    (hx : VR E x v) : ∃ E' w, (convert src dst v).run P E.w = .ok w E'.w ∧ Evo W0 okIn B us (usn us nm) E E' u ∧ VR E' r w ∧ r.nm (usn us nm) := by
  unfold opConvert at h
  split at h
  · rename_i hsr hd
    split at h
    · simp only [Option.some.injEq, Prod.mk.injEq] at h
      obtain ⟨rfl, rfl, rfl⟩ := h
      simp only [VR] at hx
      subst hx
      exact ⟨E, _, run_convert_int' E.w hsr hd, Evo.refl' hs.env, VR.int, by simp [AV.nm]⟩
    · simp at h
  · rename_i hsr hd
    split at h
    · simp only [Option.some.injEq, Prod.mk.injEq] at h
      obtain ⟨rfl, rfl, rfl⟩ := h
      simp only [VR] at hx
      subst hx
      exact ⟨E, _, by simp [convert, run_underlying hsr, run_underlying hd], Evo.refl' hs.env, VR.str, by simp [AV.nm]⟩
    · simp at h
  · rename_i e hsr hd
    split at h
    · rename_i l he
      simp only [Option.some.injEq, Prod.mk.injEq] at h
      obtain ⟨rfl, rfl, rfl⟩ := h
      simp only [VR] at hx
      subst hx
      have hsize : (⟨l.toArray⟩ : ByteArray).size = l.length := by simp [ByteArray.size]
      have hcap := grownCap_ge E.w (⟨l.toArray⟩ : ByteArray).size 0 e
      have hcs : (Lib.bytesCells E.w e ⟨l.toArray⟩).size = grownCap E.w (⟨l.toArray⟩ : ByteArray).size 0 e := by
        simp only [Lib.bytesCells, Array.size_append, Array.size_map, Array.size_replicate, List.size_toArray]
        rw [hsize] at hcap ⊢
        omega
      have hlen : (ofBytes l).length = l.length := by simp [ofBytes]
      obtain ⟨E', hE, hev, hvr⟩ := evo_rows (W0 := W0) (okIn := okIn) (B := B) hs.env hs.lo hnm (e := .int .u8) (xs := ofBytes l) (T := e) (w' := Lib.bytesWorld E.w e ⟨l.toArray⟩) (fr := ((Lib.bytesCells E.w e ⟨l.toArray⟩).size, (Lib.bytesCells E.w e ⟨l.toArray⟩).size + 1))
        (fun b hb => Lib.bytesWorld_at_old E.w e _ b hb) (Lib.bytesWorld_at_new E.w e _) (by rw [Lib.bytesWorld_size]; omega) rfl rfl rfl (fun i hi => by simp only; omega) (cap := grownCap E.w (⟨l.toArray⟩ : ByteArray).size 0 e)
        (by rw [hcs]; simp [Sh.size]) (by rw [hlen, ← hsize]; exact hcap) (fun i hi => by
          have hi' : i < l.length := by rw [hlen] at hi; exact hi
          simp only [Sh.size, Nat.mul_one, LRs, ofBytes, List.getElem_map]
          apply List.ext_getElem?
          intro j
          simp only [List.getElem?_take, List.getElem?_drop]
          cases j with
          | zero =>
            simp only [Nat.zero_lt_one, if_true, Nat.add_zero, List.getElem?_cons_zero]
            simp only [Lib.bytesCells, List.map_toArray, Array.toList_append, List.toList_toArray, Array.toList_replicate]
            rw [List.getElem?_append_left (by simpa using hi')]
            simp [hi']
          | succ j => simp)
      refine ⟨E', _, ?_, hev, by rw [hlen] at hvr; exact hvr, .inr rfl⟩
      rw [hE, Lib.run_convert_string_bytes E.w src dst e _ hsr hd he, hsize]
    · simp at h
  · rename_i e hsr hd
    split at h
    · rename_i he
      split at h
      · rename_i xs obs hrd
        simp only [Option.some.injEq, Prod.mk.injEq] at h
        obtain ⟨rfl, rfl, rfl⟩ := h
        obtain ⟨base, cap, rfl, _, hr⟩ := readA_sound hs.ob hrd hq hx
        have hto : (⟨(toBytes xs).toArray⟩ : ByteArray) = strOfNums xs := rfl
        refine ⟨E, .string ⟨(toBytes xs).toArray⟩, ?_, Evo.refl' hs.env, VR.str, by simp [AV.nm]⟩
        rw [hto]
        have hl0 : List.length (α := Int) xs = List.length xs := rfl
        rcases hr with hr | ⟨b, o, rfl, _, hr⟩
        · have hxs : xs = ([] : List Int) := List.eq_nil_of_length_eq_zero hr
          subst hxs
          cases base with
          | none => exact run_convert_bytes_nil E.w src e hsr he 0 cap dst hd
          | some ad =>
            rw [run_convert_bytes_string E.w src dst e _ _ _ hsr he hd]
            have hl : (loadCells ad 0).run P E.w = .ok (([] : List Int).map (Value.int .u8)).toArray E.w := by simp [loadCells, loadCellsFrom]
            exact run_bytesToString E.w ad 0 cap [] hl
        · refine run_convert_bytes_arg E.w src e hsr he b o _ cap xs rfl (fun i hi => ?_) dst hd
          obtain ⟨cs, c1, c2, c3⟩ := hr i hi
          simp only [LRs] at c3
          subst c3
          have := c2 0 (by simp)
          simp only [Sh.size, Nat.mul_one, Nat.add_zero, List.getElem_cons_zero] at this
          rw [this, getD_eq hi]
      · simp at h
    · simp at h
  · simp at h

/-! ### slices of slices -/

theorem optI_sound {α : Type} (hs : SimE W0 okIn B us tm ob nt E a) {x : Option Operand} {d : Int} {k : List Prop → Int → Option α} {r : α} (h : optI tm x d k = some r) :
    ∃ p n, k p n = some r ∧ ((∀ q ∈ p, q) → (x = none ∧ n = d) ∨ ∃ o kk, x = some o ∧ a.eval o = .int kk n) := by
  unfold optI at h
  split at h
  · exact ⟨[], d, h, fun _ => .inl ⟨rfl, rfl⟩⟩
  · rename_i o
    obtain ⟨p, v, h1, h2, h3⟩ := fe_sound hs h
    split at h1
    · rename_i kk n
      refine ⟨p, n, h1, fun hp => .inr ⟨o, kk, rfl, ?_⟩⟩
      have := h2 hp
      simpa only [VR] using this
    · simp at h1

theorem run_sliceBound {P : Program} (w : World) {k : IntKind} {n : Int} {y : Nat} (code : BoundsCode) (h : 0 ≤ n ∧ n ≤ (y : Int)) : (Instr.sliceBound (.int k n) y code).run P w = .ok n.toNat w := by
  simp [Instr.sliceBound, asIntOf, h]

theorem run_bounds {P : Program} (w : World) {sl : Bool} {len cap : Nat} {lo hi : Option Operand} {m n : Int} (hlo : (lo = none ∧ m = 0) ∨ ∃ o kk, lo = some o ∧ a.eval o = .int kk m) (hhi : (hi = none ∧ n = len) ∨ ∃ o kk, hi = some o ∧ a.eval o = .int kk n)
    (h : 0 ≤ m ∧ m ≤ n ∧ n ≤ (len : Int)) (hc : len ≤ cap) : (Instr.sliceBounds sl len cap (lo.map a.eval) (hi.map a.eval) none).run P w = .ok (m.toNat, n.toNat, cap) w := by
  obtain ⟨h1, h2, h3⟩ := h
  have e1 : (len : Int).toNat = len := by omega
  rcases hhi with ⟨rfl, rfl⟩ | ⟨oh, kh, rfl, hh⟩
  · rcases hlo with ⟨rfl, rfl⟩ | ⟨ol, kl, rfl, hl⟩
    · simp [Instr.sliceBounds]
    · simp [Instr.sliceBounds, hl, run_sliceBound w _ ⟨h1, h2⟩]
  · have hn : (n.toNat : Int) = n := by omega
    have hb := run_sliceBound (P := P) w (k := kh) (y := cap) (if sl = true then .sliceAcap else .sliceAlen) (show 0 ≤ n ∧ n ≤ (cap : Int) by omega)
    rcases hlo with ⟨rfl, rfl⟩ | ⟨ol, kl, rfl, hl⟩
    · simp [Instr.sliceBounds, hh, hb]
    · have hb2 := run_sliceBound (P := P) w (k := kl) (y := n.toNat) .sliceB (show 0 ≤ m ∧ m ≤ (n.toNat : Int) by omega)
      simp [Instr.sliceBounds, hh, hl, hb, hb2]

theorem addN (base : Option Addr) (c m l s : Nat) (h : c = 0 → m = l) : (if m = l then base else base.map (·.add (l * s))) = (if m = l then base else base.map (·.add (l * s))) := rfl

theorem run_sliceAt_slice {P : Program} (w : World) {T el : TypeId} {s : Nat} (hT : P.underlying T = some (.slice el)) (hs : sizeT P el = some s) {base : Option Addr} {len cap : Nat} {lo hi : Option Operand} {m n : Int}
    (hlo : (lo = none ∧ m = 0) ∨ ∃ o kk, lo = some o ∧ a.eval o = .int kk m) (hhi : (hi = none ∧ n = len) ∨ ∃ o kk, hi = some o ∧ a.eval o = .int kk n) (h : 0 ≤ m ∧ m ≤ n ∧ n ≤ (len : Int)) (hc : len ≤ cap) :
    (Instr.sliceAt T (.slice base len cap) (lo.map a.eval) (hi.map a.eval) none).run P w = .ok (.slice (if cap = m.toNat then base else base.map (·.add (m.toNat * s))) (n.toNat - m.toNat) (cap - m.toNat)) w := by
  have hb := run_bounds (P := P) w (sl := true) hlo hhi h hc
  simp [Instr.sliceAt, Instr.slice, run_underlying hT, hb, run_sizeT w hs]

theorem slice_rsl {P : Program} (hs : SimE W0 okIn B us tm ob nt E a) {nn : Nat} {T el : TypeId} {e : Sh} {off len : Nat} {v : Value} {lo hi : Option Operand} {m n : Int} (hT : P.underlying T = some (.slice el)) (hsz : sizeT P el = some e.size)
    (hl : lvA ob nn = true) (hx : VR E (.rsl nn e off len) v) (q1 : (lo = none ∧ m = 0) ∨ ∃ o kk, lo = some o ∧ a.eval o = .int kk m) (q2 : (hi = none ∧ n = len) ∨ ∃ o kk, hi = some o ∧ a.eval o = .int kk n) (q3 : 0 ≤ m ∧ m ≤ n ∧ n ≤ (len : Int)) :
    ∃ w, (Instr.sliceAt T v (lo.map a.eval) (hi.map a.eval) none).run P E.w = .ok w E.w ∧ VR E (.rsl nn e (off + m.toNat) (n.toNat - m.toNat)) w := by
  simp only [VR] at hx
  obtain ⟨L, hL, hLb⟩ := live_loc hs hl
  obtain ⟨base, rfl, k1, k2, k3⟩ := hx.2 L hL
  refine ⟨_, run_sliceAt_slice E.w hT hsz q1 q2 q3 (by omega), ?_⟩
  simp only [VR, leafV, true_and]
  intro L' hL'
  obtain rfl : L = L' := Option.some.inj (hL.symm.trans hL')
  refine ⟨_, by rw [Nat.sub_sub], by omega, fun h0 => ?_, fun hlt => ?_⟩
  · have e1 : m.toNat = 0 := by omega
    have e2 : off = 0 := by omega
    rw [k2 e2, e1]
    split
    · rfl
    · cases L.base <;> simp [Addr.add]
  · rw [if_neg (by omega), k3 (by omega)]
    cases L.base with
    | none => rfl
    | some ad =>
      simp only [Option.map_some]
      congr 1
      have hA : ∀ (x y : Nat), (ad.add x).add y = ad.add (x + y) := by
        intro x y
        unfold Addr.add
        by_cases hx0 : x = 0
        · subst hx0; simp
        · by_cases hy0 : y = 0
          · subst hy0; simp [hx0]
          · simp [hx0, hy0, Nat.add_assoc]
      rw [hA, Nat.add_mul]

theorem own_rsl {n : Nat} {e e' : Sh} {xs : List e'.T} {v : Value} (h : ObjR E n (.rows e' xs) ∨ ObjR E n (.frz e' xs)) (hx : VR E (.own n e) v) : VR E (.rsl n e 0 xs.length) v := by
  obtain ⟨L, h1, h2, h3, _⟩ := own_val h hx
  simp only [VR] at hx ⊢
  refine ⟨hx.1, fun L' hL' => ?_⟩
  obtain rfl : L = L' := Option.some.inj (h1.symm.trans hL')
  refine ⟨L.base, h2, by omega, fun _ => rfl, fun _ => ?_⟩
  rw [Nat.zero_mul]
  cases L.base <;> simp [Addr.add]

theorem opSlice_sound {P : Program} (hs : SimE W0 okIn B us tm ob nt E a) {nm : Nat} (hnm : ¬ us nm) {T : TypeId} {x r : AV} {v : Value} {lo hi mx : Option Operand} {q : List Prop} {u : Upd} (hl : liveA ob x = true) (h : opSlice P T tm ob x lo hi mx nm = some (q, r, u)) (hq : ∀ p ∈ q, p)
    (hx : VR E x v) (hn : x.nm us) : ∃ E' w, (Instr.sliceAt T v (lo.map a.eval) (hi.map a.eval) (mx.map a.eval)).run P E.w = .ok w E'.w ∧ Evo W0 okIn B us (usn us nm) E E' u ∧ VR E' r w ∧ r.nm (usn us nm) := by
  unfold opSlice at h
  split at h
  · -- three indexes
    rename_i m
    split at h
    case h_2 => simp at h
    rename_i hh
    split at h
    · rename_i el hT
      split at h
      · rename_i e xs sz hsz
        obtain ⟨p1, m1, h, h1⟩ := optI_sound hs h
        obtain ⟨p2, m2, h, h2⟩ := optI_sound hs h
        obtain ⟨p3, m3, h, h3⟩ := optI_sound hs h
        simp only [Option.some.injEq, Prod.mk.injEq] at h
        obtain ⟨rfl, rfl, rfl⟩ := h
        have q1 := h1 fun p hp => hq p (mem_appA.2 (.inl hp))
        have q2 := h2 fun p hp => hq p (mem_appA.2 (.inr (mem_appA.2 (.inl hp))))
        have q3 := h3 fun p hp => hq p (mem_appA.2 (.inr (mem_appA.2 (.inr (mem_appA.2 (.inl hp))))))
        obtain ⟨rfl, rfl, rfl⟩ : m1 = 0 ∧ m2 = 0 ∧ m3 = 0 := hq _ (mem_appA.2 (.inr (mem_appA.2 (.inr (mem_appA.2 (.inr (List.Mem.head _)))))))
        simp only [VR, LRs] at hx
        obtain ⟨base, cap, hv, hc, _⟩ := hx
        simp only [List.cons.injEq, and_true] at hv
        subst hv
        simp only [reduceCtorEq, false_and, Option.some.injEq, false_or] at q2 q3
        obtain ⟨o2, k2, rfl, e2⟩ := q2
        obtain ⟨o3, k3, rfl, e3⟩ := q3
        have b3 : ∀ (y : Nat) (code : BoundsCode) (k : IntKind), (Instr.sliceBound (.int k 0) y code).run P E.w = .ok 0 E.w := fun y code k => run_sliceBound (P := P) E.w code (by omega)
        have hb : (Instr.sliceBounds true (List.length xs) cap (lo.map a.eval) ((some hh).map a.eval) ((some m).map a.eval)).run P E.w = .ok (0, 0, 0) E.w := by
          rcases q1 with ⟨rfl, _⟩ | ⟨o1, k1, rfl, e1⟩
          · simp [Instr.sliceBounds, e2, e3, b3]
          · simp [Instr.sliceBounds, e1, e2, e3, b3]
        refine ⟨⟨E.w, setMu E.mu nm (some ⟨base, 0, false, 0⟩), E.ok⟩, .slice base 0 0, ?_, ?_, ?_, .inr rfl⟩
        · simp only [Instr.sliceAt, Sem.run_bind, run_underlying hT, Result.andThen_ok, Instr.slice, hb, run_sizeT E.w hsz, Sem.run_pure]
          simp
        · refine Evo.new hs.env hs.lo hnm (fun _ _ => rfl) (Nat.le_refl _) rfl rfl rfl (fun h => by simp at h) ?_ (by simp [AO.nm])
          exact ⟨_, setMu_same _ _ _, rfl, .inl ⟨rfl, rfl, rfl⟩⟩
        · simp only [VR, leafV, true_and]
          intro L hL
          simp only [setMu_same, Option.some.injEq] at hL
          subst hL
          rfl
      · simp at h
    · simp at h
  · split at h
    · rename_i hT
      split at h
      · rename_i l
        obtain ⟨p1, m, h, h1⟩ := optI_sound hs h
        obtain ⟨p2, n, h, h2⟩ := optI_sound hs h
        simp only [Option.some.injEq, Prod.mk.injEq] at h
        obtain ⟨rfl, rfl, rfl⟩ := h
        have q1 := h1 fun p hp => hq p (mem_appA.2 (.inl hp))
        have q2 := h2 fun p hp => hq p (mem_appA.2 (.inr (mem_appA.2 (.inl hp))))
        have q3 : 0 ≤ m ∧ m ≤ n ∧ n ≤ (l.length : Int) := hq _ (mem_appA.2 (.inr (mem_appA.2 (.inr (List.Mem.head _)))))
        simp only [VR] at hx
        subst hx
        have hsz : (⟨l.toArray⟩ : ByteArray).size = l.length := by simp [ByteArray.size]
        have hb := run_bounds (P := P) E.w (sl := false) (len := (⟨l.toArray⟩ : ByteArray).size) (cap := (⟨l.toArray⟩ : ByteArray).size) q1 (by rw [hsz]; exact q2) (by rw [hsz]; exact q3) (Nat.le_refl _)
        refine ⟨E, .string ((⟨l.toArray⟩ : ByteArray).extract m.toNat n.toNat), ?_, Evo.refl' hs.env, ?_, by simp [AV.nm]⟩
        · simp [Instr.sliceAt, Instr.slice, run_underlying hT, hb]
        · simp only [VR]
          congr 1
          apply ByteArray.ext
          simp [sliceA, List.extract_eq_take_drop]
      · simp at h
    · rename_i el hT
      split at h
      · rename_i s hsz
        split at h
        · rename_i e xs
          split at h
          · rename_i hb
            have hse := beq_true hb
            subst hse
            obtain ⟨p1, m, h, h1⟩ := optI_sound hs h
            obtain ⟨p2, n, h, h2⟩ := optI_sound hs h
            simp only [Option.some.injEq, Prod.mk.injEq] at h
            obtain ⟨rfl, rfl, rfl⟩ := h
            have q1 := h1 fun p hp => hq p (mem_appA.2 (.inl hp))
            have q2 := h2 fun p hp => hq p (mem_appA.2 (.inr (mem_appA.2 (.inl hp))))
            have q3 : 0 ≤ m ∧ m ≤ n ∧ n ≤ (xs.length : Int) := hq _ (mem_appA.2 (.inr (mem_appA.2 (.inr (List.Mem.head _)))))
            simp only [VR, LRs] at hx
            obtain ⟨base, cap, hv, hc, hrest⟩ := hx
            simp only [List.cons.injEq, and_true] at hv
            subst hv
            refine ⟨E, _, run_sliceAt_slice E.w hT hsz q1 q2 q3 hc, Evo.refl' hs.env, ?_, by simp [AV.nm]⟩
            have hlen : (sliceA m.toNat n.toNat xs).length = n.toNat - m.toNat := sliceA_length (by omega) (by omega)
            simp only [VR, LRs]
            refine ⟨_, _, by rw [hlen], by rw [hlen]; omega, ?_⟩
            by_cases h0 : n.toNat - m.toNat = 0
            · exact .inl (by rw [hlen]; exact h0)
            · refine .inr ?_
              rcases hrest with hrest | ⟨b, o, rfl, hok, hrest⟩
              · omega
              · refine ⟨b, o + m.toNat * e.size, ?_, hok, fun i hi => ?_⟩
                · rw [if_neg (by omega)]; simp [add_mk]
                · have hle : n.toNat ≤ xs.length := by omega
                  rw [sliceA_get hle hi]
                  obtain ⟨cs, c1, c2, c3⟩ := hrest (m.toNat + i) (by rw [hlen] at hi; omega)
                  refine ⟨cs, c1, ?_, c3⟩
                  rw [Nat.add_mul] at c2
                  rw [Nat.add_assoc]
                  exact c2
          · simp at h
        · obtain ⟨p1, m, h, h1⟩ := optI_sound hs h
          obtain ⟨p2, n, h, h2⟩ := optI_sound hs h
          simp only [Option.some.injEq, Prod.mk.injEq] at h
          obtain ⟨rfl, rfl, rfl⟩ := h
          have q1 := h1 fun p hp => hq p (mem_appA.2 (.inl hp))
          have q2 := h2 fun p hp => hq p (mem_appA.2 (.inr (mem_appA.2 (.inl hp))))
          obtain ⟨rfl, rfl⟩ : m = 0 ∧ n = 0 := hq _ (mem_appA.2 (.inr (mem_appA.2 (.inr (List.Mem.head _)))))
          simp only [VR] at hx
          subst hx
          exact ⟨E, _, run_sliceAt_slice E.w hT hsz q1 q2 ⟨by omega, by omega, by simp⟩ (Nat.le_refl _), Evo.refl' hs.env, by simp [VR], by simp [AV.nm]⟩
        · rename_i nn e off len
          split at h
          · rename_i hb
            have hse := beq_true hb
            subst hse
            obtain ⟨p1, m, h, h1⟩ := optI_sound hs h
            obtain ⟨p2, n, h, h2⟩ := optI_sound hs h
            simp only [Option.some.injEq, Prod.mk.injEq] at h
            obtain ⟨rfl, rfl, rfl⟩ := h
            have q1 := h1 fun p hp => hq p (mem_appA.2 (.inl hp))
            have q2 := h2 fun p hp => hq p (mem_appA.2 (.inr (mem_appA.2 (.inl hp))))
            have q3 : 0 ≤ m ∧ m ≤ n ∧ n ≤ (len : Int) := hq _ (mem_appA.2 (.inr (mem_appA.2 (.inr (List.Mem.head _)))))
            obtain ⟨w, w1, w2⟩ := slice_rsl hs hT hsz hl hx q1 q2 q3
            exact ⟨E, w, w1, Evo.refl' hs.env, VR.mono (Evo.refl hs.env |>.goes hs.env) _ _ hn w2, .inl hn⟩
          · simp at h
        · rename_i nn e
          split at h
          · rename_i hb
            have hse := beq_true hb
            subst hse
            have fin : ∀ {e' : Sh} {xs : List e'.T}, (ObjR E nn (.rows e' xs) ∨ ObjR E nn (.frz e' xs)) → (optI tm lo 0 fun p a => optI tm hi xs.length fun q b =>
                some (appA p (appA q [0 ≤ a ∧ a ≤ b ∧ b ≤ (xs.length : Int)]), AV.rsl nn e a.toNat (b.toNat - a.toNat), ([] : Upd))) = some (q, r, u) →
                ∃ E' w, (Instr.sliceAt T v (lo.map a.eval) (hi.map a.eval) none).run P E.w = .ok w E'.w ∧ Evo W0 okIn B us (usn us nm) E E' u ∧ VR E' r w ∧ r.nm (usn us nm) := by
              intro e' xs ho h
              obtain ⟨p1, m, h, h1⟩ := optI_sound hs h
              obtain ⟨p2, n, h, h2⟩ := optI_sound hs h
              simp only [Option.some.injEq, Prod.mk.injEq] at h
              obtain ⟨rfl, rfl, rfl⟩ := h
              have q1 := h1 fun p hp => hq p (mem_appA.2 (.inl hp))
              have q2 := h2 fun p hp => hq p (mem_appA.2 (.inr (mem_appA.2 (.inl hp))))
              have q3 : 0 ≤ m ∧ m ≤ n ∧ n ≤ (xs.length : Int) := hq _ (mem_appA.2 (.inr (mem_appA.2 (.inr (List.Mem.head _)))))
              obtain ⟨w, w1, w2⟩ := slice_rsl hs hT hsz hl (own_rsl ho hx) q1 q2 q3
              rw [Nat.zero_add] at w2
              exact ⟨E, w, w1, Evo.refl' hs.env, w2, .inl hn⟩
            split at h
            · rename_i hob; exact fin (.inl (hs.obj _ _ hob).1) h
            · rename_i hob; exact fin (.inr (hs.obj _ _ hob).1) h
            · simp at h
          · simp at h
        · rename_i nn off len
          obtain ⟨p1, m, h, h1⟩ := optI_sound hs h
          obtain ⟨p2, n, h, h2⟩ := optI_sound hs h
          simp only [Option.some.injEq, Prod.mk.injEq] at h
          obtain ⟨rfl, rfl, rfl⟩ := h
          have q1 := h1 fun p hp => hq p (mem_appA.2 (.inl hp))
          have q2 := h2 fun p hp => hq p (mem_appA.2 (.inr (mem_appA.2 (.inl hp))))
          have q3 : 0 ≤ m ∧ m ≤ n ∧ n ≤ (len : Int) := hq _ (mem_appA.2 (.inr (mem_appA.2 (.inr (List.Mem.head _)))))
          simp only [VR] at hx
          obtain ⟨L, hL, hLb⟩ := live_loc hs hl
          obtain ⟨b, o, cap, k1, rfl, k2, k3⟩ := hx.2 L hL
          refine ⟨E, _, run_sliceAt_slice E.w hT hsz q1 q2 q3 k2, Evo.refl' hs.env, ?_, .inl hn⟩
          simp only [VR, leafV, true_and]
          intro L' hL'
          obtain rfl : L = L' := Option.some.inj (hL.symm.trans hL')
          by_cases hc : cap = m.toNat
          · rw [if_pos hc]
            exact ⟨b, o, _, k1, rfl, by omega, fun h0 => by omega⟩
          · rw [if_neg hc]
            refine ⟨b, o + m.toNat * s, _, k1, by rw [Option.map_some, add_mk], by omega, fun h0 => by rw [k3 (by omega)]⟩
        · simp at h
      · simp at h
    · rename_i mm el hT
      split at h
      · rename_i s hsz
        split at h
        · rename_i nn off
          obtain ⟨p1, m, h, h1⟩ := optI_sound hs h
          obtain ⟨p2, n, h, h2⟩ := optI_sound hs h
          simp only [Option.some.injEq, Prod.mk.injEq] at h
          obtain ⟨rfl, rfl, rfl⟩ := h
          have q1 := h1 fun p hp => hq p (mem_appA.2 (.inl hp))
          have q2 := h2 fun p hp => hq p (mem_appA.2 (.inr (mem_appA.2 (.inl hp))))
          have q3 : 0 ≤ m ∧ m ≤ n ∧ n ≤ (mm : Int) := hq _ (mem_appA.2 (.inr (mem_appA.2 (.inr (List.Mem.head _)))))
          simp only [VR] at hx
          obtain ⟨L, hL, hLb⟩ := live_loc hs hl
          obtain ⟨b, k1, rfl⟩ := hx.2 L hL
          have hb := run_bounds (P := P) E.w (sl := false) (len := mm) (cap := mm) q1 q2 q3 (Nat.le_refl _)
          refine ⟨E, .slice (some (if mm = m.toNat then ⟨b, off, none⟩ else (⟨b, off, none⟩ : Addr).add (m.toNat * s))) (n.toNat - m.toNat) (mm - m.toNat), ?_, Evo.refl' hs.env, ?_, .inl hn⟩
          · simp [Instr.sliceAt, run_underlying hT, Instr.sureAddr, hb, run_sizeT E.w hsz]
          · simp only [VR, leafV, true_and]
            intro L' hL'
            obtain rfl : L = L' := Option.some.inj (hL.symm.trans hL')
            by_cases hc : mm = m.toNat
            · rw [if_pos hc]
              exact ⟨b, off, _, k1, rfl, by omega, fun h0 => by omega⟩
            · rw [if_neg hc]
              refine ⟨b, off + m.toNat * s, _, k1, by rw [add_mk], by omega, fun h0 => rfl⟩
        · simp at h
      · simp at h
    · simp at h

end
end Go.Tr
