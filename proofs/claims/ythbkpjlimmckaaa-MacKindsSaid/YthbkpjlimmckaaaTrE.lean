/- More operations that turn nothing: addresses, slices, parts, loads.
   Conditions: none. -/
import Derived.Test.YthbkpjlimmckaaaTrD
namespace Go.Tr
open Go
set_option linter.unusedVariables false
set_option linter.unusedSimpArgs false

section
variable {W0 : World} {okIn B us : Nat → Prop} {tm : Nat → Option AV} {ob : Nat → Option AO} {nt : Nat} {E : Env} {a : Act}

theorem ObjR.loc {n : Nat} {o : AO} (h : ObjR E n o) : ∃ L, E.mu n = some L ∧ (L.cap = 0 ∨ ∃ b, L.base = some ⟨b, 0, none⟩) := by
  cases o with
  | cells l => obtain ⟨b, cs, T, fr, h1, _⟩ := h; exact ⟨_, h1, .inr ⟨b, rfl⟩⟩
  | rows e xs =>
    obtain ⟨L, h1, h2⟩ := h
    rcases h2 with h2 | ⟨b, cs, T, fr, h3, _⟩
    · exact ⟨L, h1, .inl h2.1⟩
    · exact ⟨L, h1, .inr ⟨b, h3⟩⟩
  | frz e xs => obtain ⟨L, h1, _, h2, _⟩ := h; exact ⟨L, h1, h2⟩
  | fcl l => obtain ⟨b, cs, T, fr, h1, _⟩ := h; exact ⟨_, h1, .inr ⟨b, rfl⟩⟩

theorem live_loc (hs : SimE W0 okIn B us tm ob nt E a) {n : Nat} (h : lvA ob n = true) : ∃ L, E.mu n = some L ∧ (L.cap = 0 ∨ ∃ b, L.base = some ⟨b, 0, none⟩) := by
  unfold lvA at h
  split at h
  · rename_i o ho; exact ((hs.obj n o ho).1).loc
  · simp at h

theorem add_mk (b o n : Nat) : (⟨b, o, none⟩ : Addr).add n = ⟨b, o + n, none⟩ := Addr.add_lit b o n

/-! ### len -/

theorem opLen_sound {P : Program} (hs : SimE W0 okIn B us tm ob nt E a) {T ty : TypeId} {x r : AV} {v : Value} (hl : liveA ob x = true) (h : opLen P T x = some r) (hx : VR E x v)
    (w : World) : ∃ z, (Builtin.len_ #[T] ty #[v]).run P w = .ok z w ∧ VR E r z ∧ ∀ p, r.nm p := by
  unfold opLen at h
  split at h
  · rename_i hu
    split at h
    · simp only [Option.some.injEq] at h
      subst h
      simp only [VR] at hx
      subst hx
      refine ⟨_, run_len_string w T ty _ hu, ?_, by simp [AV.nm]⟩
      simp [VR, goInt, ByteArray.size]
    · simp at h
  · rename_i n e hu
    simp only [Option.some.injEq] at h
    subst h
    refine ⟨goInt n, ?_, VR.int, by simp [AV.nm]⟩
    simp [Builtin.len_, run_underlying hu]
  · rename_i e hu
    have key : ∀ base n c, (Builtin.len_ #[T] ty #[.slice base n c]).run P w = .ok (goInt n) w := by
      intro base n c; simp [Builtin.len_, run_underlying hu]
    split at h
    · simp only [Option.some.injEq] at h
      subst h
      simp only [VR, LRs] at hx
      obtain ⟨base, cap, hv, _⟩ := hx
      simp only [List.cons.injEq, and_true] at hv
      subst hv
      exact ⟨_, key _ _ _, VR.int, by simp [AV.nm]⟩
    · simp only [Option.some.injEq] at h
      subst h
      simp only [VR] at hx
      subst hx
      exact ⟨_, key _ _ _, VR.int, by simp [AV.nm]⟩
    · simp only [Option.some.injEq] at h
      subst h
      simp only [VR] at hx
      obtain ⟨L, hL, _⟩ := live_loc hs hl
      obtain ⟨base, rfl, _⟩ := hx.2 L hL
      exact ⟨_, key _ _ _, VR.int, by simp [AV.nm]⟩
    · simp only [Option.some.injEq] at h
      subst h
      simp only [VR] at hx
      obtain ⟨L, hL, _⟩ := live_loc hs hl
      obtain ⟨b, o, cap, _, rfl, _⟩ := hx.2 L hL
      exact ⟨_, key _ _ _, VR.int, by simp [AV.nm]⟩
    · simp at h
  · simp at h

/-! ### index -/

theorem opIndex_sound {P : Program} {T : TypeId} {x i r : AV} {v j : Value} {q : List Prop} (h : opIndex P T x i = some (q, r)) (hq : ∀ p ∈ q, p) (hx : VR E x v) (hi : VR E i j) {us' : Nat → Prop} (hn : x.nm us')
    (w : World) : ∃ z, (Instr.index T v j).run P w = .ok z w ∧ VR E r z ∧ r.nm us' := by
  unfold opIndex at h
  split at h
  · rename_i i k i
    simp only [VR] at hi
    subst hi
    split at h
    · rename_i hT
      split at h
      · rename_i l
        simp only [Option.some.injEq, Prod.mk.injEq] at h
        obtain ⟨rfl, rfl⟩ := h
        simp only [VR] at hx
        subst hx
        have h0 : 0 ≤ i ∧ i < (l.length : Int) := hq _ (List.Mem.head _)
        have hsz : (⟨l.toArray⟩ : ByteArray).size = l.length := by simp [ByteArray.size]
        refine ⟨_, ?_, VR.int, by simp [AV.nm]⟩
        rw [run_index_string w T _ _ _ hT, dif_pos (by rw [hsz]; exact h0)]
        congr 3
        have h1 : i.toNat < l.length := by have := h0.2; omega
        rw [List.getD_eq_getElem?_getD, List.getElem?_eq_getElem h1]
        rfl
      · simp at h
    · rename_i m e hT
      split at h
      · rename_i s hs
        split at h
        · rename_i l
          split at h
          · rename_i y hy
            simp only [Option.some.injEq, Prod.mk.injEq] at h
            obtain ⟨rfl, rfl⟩ := h
            have h0 : 0 ≤ i ∧ i < (m : Int) := hq _ (List.Mem.head _)
            simp only [VR] at hx
            obtain ⟨vs, rfl, hx⟩ := hx
            obtain ⟨z, hz, hv⟩ := part_sound hy hx w
            refine ⟨z, ?_, hv, partA_nm hy hn⟩
            simp [Instr.index, asIntOf, run_underlying hT, h0, run_sizeT w hs, hz]
          · simp at h
        · simp at h
      · simp at h
    · simp at h
  · simp at h

theorem opField_sound {P : Program} {T : TypeId} {f : Nat} {g : Field} {l : List AV} {v : Value} {r : AV} (hf : fld P T f = some g) (h : partA P g.type g.offset l = some r) (hx : VR E (.agg l) v)
    {us' : Nat → Prop} (hn : (AV.agg l).nm us') (w : World) : ∃ z, (Instr.field T v f).run P w = .ok z w ∧ VR E r z ∧ r.nm us' := by
  unfold fld at hf
  split at hf
  · rename_i fs hT
    rw [nth_eq] at hf
    simp only [VR] at hx
    obtain ⟨vs, rfl, hx⟩ := hx
    obtain ⟨z, hz, hv⟩ := part_sound h hx w
    refine ⟨z, ?_, hv, partA_nm h hn⟩
    have hf' : fs[f]? = some g := by simpa using hf
    simp [Instr.field, run_underlying hT, hf', asAgg, hz]
  · simp at hf

/-! ### addresses -/

theorem run_fieldPlace {P : Program} {f : Field} {n : Nat} (w : World) (h : sizeT P f.type = some (n + 1)) (a : Addr) : (fieldPlace a f).run P w = .ok (a.add f.offset) w := by
  simp [fieldPlace, run_sizeT w h]

theorem opFieldAddr_sound {P : Program} (hs : SimE W0 okIn B us tm ob nt E a) {T : TypeId} {f : Nat} {x r : AV} {v : Value} (hl : liveA ob x = true) (h : opFieldAddr P T x f = some r) (hx : VR E x v) {us' : Nat → Prop} (hn : x.nm us')
    (w : World) : ∃ z, (Instr.fieldAt T v f).run P w = .ok z w ∧ VR E r z ∧ r.nm us' := by
  unfold opFieldAddr at h
  split at h
  · rename_i g hf
    split at h
    · rename_i n hn'
      unfold fld at hf
      split at hf
      · rename_i fs hT
        rw [nth_eq] at hf
        have hf' : fs[f]? = some g := by simpa using hf
        have key : ∀ ad : Addr, (Instr.fieldAt T (.pointer (some ad)) f).run P w = .ok (.pointer (some (ad.add g.offset))) w := by
          intro ad
          simp [Instr.fieldAt, run_underlying hT, hf', Instr.sureAddr, run_fieldPlace w hn']
        split at h
        · simp only [Option.some.injEq] at h
          subst h
          simp only [VR] at hx
          obtain ⟨L, hL, _⟩ := live_loc hs hl
          obtain ⟨b, h1, rfl⟩ := hx.2 L hL
          refine ⟨_, key _, ?_, hn⟩
          simp only [VR, leafV, true_and]
          intro L' hL'
          obtain rfl : L = L' := Option.some.inj (hL.symm.trans hL')
          exact ⟨b, h1, by rw [add_mk]⟩
        · simp only [Option.some.injEq] at h
          subst h
          simp only [VR] at hx
          obtain ⟨b, o, cs, rfl, h2⟩ := hx
          refine ⟨_, key _, ?_, by simp [AV.nm]⟩
          simp only [VR]
          exact ⟨b, o, cs, by rw [add_mk, Nat.add_assoc], h2⟩
        · simp only [Option.some.injEq] at h
          subst h
          simp only [VR] at hx
          obtain ⟨L, hL, _⟩ := live_loc hs hl
          obtain ⟨b, h1, rfl⟩ := hx.2 L hL
          refine ⟨_, key _, ?_, hn⟩
          simp only [VR, leafV, true_and]
          intro L' hL'
          obtain rfl : L = L' := Option.some.inj (hL.symm.trans hL')
          exact ⟨b, h1, by rw [add_mk, Nat.add_assoc]⟩
        · simp at h
      · simp at hf
    · simp at h
  · simp at h

theorem LRs.elem {w : World} {ok : Nat → Prop} {e : Sh} {xs : List e.T} {v : Value} (h : LRs w ok (.sl e) xs [v]) {i : Nat} (hi : i < xs.length) :
    ∃ b o cap cs, v = .slice (some ⟨b, o, none⟩) xs.length cap ∧ xs.length ≤ cap ∧ ok b ∧ cs.length = e.size ∧ Row w b (o + i * e.size) cs ∧ LRs w ok e (xs.getD i e.dflt) cs := by
  simp only [LRs] at h
  obtain ⟨base, cap, hv, hc, h⟩ := h
  simp only [List.cons.injEq, and_true] at hv
  rcases h with h | ⟨b, o, rfl, hok, h⟩
  · omega
  · obtain ⟨cs, h1, h2, h3⟩ := h i hi
    refine ⟨b, o, cap, cs, hv, hc, hok, h1, h2, ?_⟩
    rw [List.getD_eq_getElem?_getD, List.getElem?_eq_getElem hi]
    exact h3

theorem opIndexAddr_sound {P : Program} (hs : SimE W0 okIn B us tm ob nt E a) {T : TypeId} {x i r : AV} {v j : Value} {q : List Prop} (hl : liveA ob x = true) (h : opIndexAddr P T x i = some (q, r)) (hq : ∀ p ∈ q, p)
    (hx : VR E x v) (hi : VR E i j) {us' : Nat → Prop} (hn : x.nm us') (w : World) : ∃ z, (Instr.indexAt T v j).run P w = .ok z w ∧ VR E r z ∧ r.nm us' := by
  unfold opIndexAddr at h
  split at h
  · rename_i i k i
    simp only [VR] at hi
    subst hi
    split at h
    · rename_i el hT
      split at h
      · rename_i s hsz
        have key : ∀ (ad : Addr) (len cap : Nat), 0 ≤ i ∧ i < (len : Int) → (Instr.indexAt T (.slice (some ad) len cap) (.int k i)).run P w = .ok (.pointer (some (ad.add (i.toNat * s)))) w := by
          intro ad len cap h0
          simp [Instr.indexAt, asIntOf, run_underlying hT, h0, run_sizeT w hsz]
        split at h
        · rename_i e xs
          split at h
          · rename_i hb
            have hse := beq_true hb
            subst hse
            simp only [Option.some.injEq, Prod.mk.injEq] at h
            obtain ⟨rfl, rfl⟩ := h
            have h0 : 0 ≤ i ∧ i < (xs.length : Int) := hq _ (List.Mem.head _)
            simp only [VR] at hx
            obtain ⟨b, o, cap, cs, rfl, hc, hok, h1, h2, h3⟩ := LRs.elem hx (i := i.toNat) (by omega)
            refine ⟨_, key _ _ _ h0, ?_, by simp [AV.nm]⟩
            simp only [VR]
            exact ⟨b, o + i.toNat * e.size, cs, by rw [add_mk]; simp, hok, h1, h2, h3⟩
          · simp at h
        · rename_i n e off len
          split at h
          · rename_i hb
            have hse := beq_true hb
            subst hse
            simp only [Option.some.injEq, Prod.mk.injEq] at h
            obtain ⟨rfl, rfl⟩ := h
            have h0 : 0 ≤ i ∧ i < (len : Int) := hq _ (List.Mem.head _)
            simp only [VR] at hx
            obtain ⟨L, hL, hLb⟩ := live_loc hs hl
            obtain ⟨base, rfl, h1, h2, h3⟩ := hx.2 L hL
            have hlt : off < L.cap := by omega
            rcases hLb with hLb | ⟨b, hLb⟩
            · omega
            · have hb' := h3 hlt
              rw [hLb] at hb'
              subst hb'
              refine ⟨_, key _ _ _ h0, ?_, hn⟩
              simp only [VR, leafV, true_and]
              intro L' hL'
              obtain rfl : L = L' := Option.some.inj (hL.symm.trans hL')
              exact ⟨b, hLb, by rw [add_mk, add_mk]; congr 3; rw [Nat.zero_add, Nat.add_mul]; omega⟩
          · simp at h
        · rename_i n off len
          simp only [Option.some.injEq, Prod.mk.injEq] at h
          obtain ⟨rfl, rfl⟩ := h
          have h0 : 0 ≤ i ∧ i < (len : Int) := hq _ (List.Mem.head _)
          simp only [VR] at hx
          obtain ⟨L, hL, hLb⟩ := live_loc hs hl
          obtain ⟨b, o, cap, h1, rfl, h2, h3⟩ := hx.2 L hL
          refine ⟨_, key _ _ _ h0, ?_, hn⟩
          simp only [VR, leafV, true_and]
          intro L' hL'
          obtain rfl : L = L' := Option.some.inj (hL.symm.trans hL')
          exact ⟨b, h1, by rw [add_mk, h3 (by omega)]⟩
        · simp at h
      · simp at h
    · rename_i m el hT
      split at h
      · rename_i s hsz
        have key : ∀ (ad : Addr), 0 ≤ i ∧ i < (m : Int) → (Instr.indexAt T (.pointer (some ad)) (.int k i)).run P w = .ok (.pointer (some (ad.add (i.toNat * s)))) w := by
          intro ad h0
          simp [Instr.indexAt, asIntOf, run_underlying hT, h0, run_sizeT w hsz, Instr.sureAddr]
        split at h
        · rename_i n off
          simp only [Option.some.injEq, Prod.mk.injEq] at h
          obtain ⟨rfl, rfl⟩ := h
          have h0 : 0 ≤ i ∧ i < (m : Int) := hq _ (List.Mem.head _)
          simp only [VR] at hx
          obtain ⟨L, hL, hLb⟩ := live_loc hs hl
          obtain ⟨b, h1, rfl⟩ := hx.2 L hL
          refine ⟨_, key _ h0, ?_, hn⟩
          simp only [VR, leafV, true_and]
          intro L' hL'
          obtain rfl : L = L' := Option.some.inj (hL.symm.trans hL')
          exact ⟨b, h1, by rw [add_mk]⟩
        · rename_i e x off
          simp only [Option.some.injEq, Prod.mk.injEq] at h
          obtain ⟨rfl, rfl⟩ := h
          have h0 : 0 ≤ i ∧ i < (m : Int) := hq _ (List.Mem.head _)
          simp only [VR] at hx
          obtain ⟨b, o, cs, rfl, h2⟩ := hx
          refine ⟨_, key _ h0, ?_, by simp [AV.nm]⟩
          simp only [VR]
          exact ⟨b, o, cs, by rw [add_mk, Nat.add_assoc], h2⟩
        · rename_i n e jj off
          simp only [Option.some.injEq, Prod.mk.injEq] at h
          obtain ⟨rfl, rfl⟩ := h
          have h0 : 0 ≤ i ∧ i < (m : Int) := hq _ (List.Mem.head _)
          simp only [VR] at hx
          obtain ⟨L, hL, hLb⟩ := live_loc hs hl
          obtain ⟨b, h1, rfl⟩ := hx.2 L hL
          refine ⟨_, key _ h0, ?_, hn⟩
          simp only [VR, leafV, true_and]
          intro L' hL'
          obtain rfl : L = L' := Option.some.inj (hL.symm.trans hL')
          exact ⟨b, h1, by rw [add_mk, Nat.add_assoc]⟩
        · simp at h
      · simp at h
    · simp at h
  · simp at h

end
end Go.Tr
