/- More operations that turn nothing: addresses, slices, parts, loads.
   Conditions: none. -/
import Derived.Test.YtbdgfpfafcjmgaaDoorTrD
namespace Go.Tr
open Go
set_option linter.unusedVariables false
set_option linter.unusedSimpArgs false

section
variable {W0 : WX} {okIn B us : Nat → Prop} {tm : Nat → Option AV} {ob : Nat → Option AO} {nt : Nat} {E : Env} {a : Act}

theorem ObjR.loc {n : Nat} {o : AO} (h : ObjR E n o) : ∃ L, E.mu n = some L ∧ (L.cap = 0 ∨ ∃ b, L.base = some ⟨b, 0, none⟩) := by
  cases o with
  | cells l => obtain ⟨b, cs, T, fr, h1, _⟩ := h; exact ⟨_, h1, .inr ⟨b, rfl⟩⟩
  | rows e xs =>
    obtain ⟨L, h1, _, h2⟩ := h
    rcases h2 with h2 | ⟨b, cs, T, fr, h3, _⟩
    · exact ⟨L, h1, .inl h2.1⟩
    · exact ⟨L, h1, .inr ⟨b, h3⟩⟩
  | frz e xs => obtain ⟨L, h1, _, _, h2, _⟩ := h; exact ⟨L, h1, h2⟩
  | fcl l => obtain ⟨b, cs, T, fr, h1, _⟩ := h; exact ⟨_, h1, .inr ⟨b, rfl⟩⟩

theorem live_loc (hs : SimE W0 okIn B us tm ob nt E a) {n : Nat} (h : lvA ob n = true) : ∃ L, E.mu n = some L ∧ (L.cap = 0 ∨ ∃ b, L.base = some ⟨b, 0, none⟩) := by
  unfold lvA at h
  split at h
  · rename_i o ho; exact ((hs.obj n o ho).1).loc
  · simp at h

/-- The whole of an object's rows, as a slice. -/
theorem own_loc {n : Nat} {e : Sh} {xs : List e.T} (h : ObjR E n (.rows e xs) ∨ ObjR E n (.frz e xs)) :
    ∃ L, E.mu n = some L ∧ L.len = xs.length ∧ xs.length ≤ L.cap ∧ (L.cap = 0 ∨ ∃ b, L.base = some ⟨b, 0, none⟩) := by
  rcases h with h | h
  · obtain ⟨L, h1, h2, h3⟩ := h
    rcases h3 with h3 | ⟨b, cs, T, fr, h3, h4, h5, h6, h7, _⟩
    · exact ⟨L, h1, h2, by omega, .inl h3.1⟩
    · exact ⟨L, h1, h2, h7, .inr ⟨b, h3⟩⟩
  · obtain ⟨L, h1, h2, h3, h4, h5⟩ := h
    simp only [LRs] at h5
    obtain ⟨base, cap, hv, hc, _⟩ := h5
    simp only [List.cons.injEq, Value.slice.injEq, and_true] at hv
    exact ⟨L, h1, h2, by omega, h4⟩

theorem own_val {n : Nat} {e e' : Sh} {xs : List e'.T} {v : Value} (h : ObjR E n (.rows e' xs) ∨ ObjR E n (.frz e' xs)) (hx : VR E (.own n e) v) :
    ∃ L, E.mu n = some L ∧ v = .slice L.base xs.length L.cap ∧ xs.length ≤ L.cap ∧ (L.cap = 0 ∨ ∃ b, L.base = some ⟨b, 0, none⟩) := by
  obtain ⟨L, h1, h2, h3, h4⟩ := own_loc h
  simp only [VR] at hx
  exact ⟨L, h1, by rw [hx.2 L h1, h2], h3, h4⟩

theorem add_mk (b o n : Nat) : (⟨b, o, none⟩ : Addr).add n = ⟨b, o + n, none⟩ := Addr.add_lit b o n

/-! ### len -/

theorem opLen_sound {P : Program} (hs : SimE W0 okIn B us tm ob nt E a) {T ty : TypeId} {x r : AV} {v : Value} (hl : liveA ob x = true) (h : opLen P T ob x = some r) (hx : VR E x v)
    (w : World) : ∃ z, (Builtin.len_ #[T] ty #[v]).run P w = .ok z w ∧ VR E r z ∧ ∀ p, r.nm p := by
  unfold opLen at h
  split at h
  · rename_i hu
    split at h
    · simp only [Option.some.injEq] at h
      subst h
      simp only [VR] at hx
      subst hx
      refine ⟨_, run_len_string w T ty _ hu, ?_, by simp [AV.nm]⟩
      simp [VR, goInt, ByteArray.size]
    · simp at h
  · rename_i n e hu
    simp only [Option.some.injEq] at h
    subst h
    refine ⟨goInt n, ?_, VR.int, by simp [AV.nm]⟩
    simp [Builtin.len_, run_underlying hu]
  · rename_i e hu
    have key : ∀ base n c, (Builtin.len_ #[T] ty #[.slice base n c]).run P w = .ok (goInt n) w := by
      intro base n c; simp [Builtin.len_, run_underlying hu]
    split at h
    · simp only [Option.some.injEq] at h
      subst h
      simp only [VR, LRs] at hx
      obtain ⟨base, cap, hv, _⟩ := hx
      simp only [List.cons.injEq, and_true] at hv
      subst hv
      exact ⟨_, key _ _ _, VR.int, by simp [AV.nm]⟩
    · simp only [Option.some.injEq] at h
      subst h
      simp only [VR] at hx
      subst hx
      exact ⟨_, key _ _ _, VR.int, by simp [AV.nm]⟩
    · simp only [Option.some.injEq] at h
      subst h
      simp only [VR] at hx
      obtain ⟨L, hL, _⟩ := live_loc hs hl
      obtain ⟨base, rfl, _⟩ := hx.2 L hL
      exact ⟨_, key _ _ _, VR.int, by simp [AV.nm]⟩
    · simp only [Option.some.injEq] at h
      subst h
      simp only [VR] at hx
      obtain ⟨L, hL, _⟩ := live_loc hs hl
      obtain ⟨b, o, cap, _, rfl, _⟩ := hx.2 L hL
      exact ⟨_, key _ _ _, VR.int, by simp [AV.nm]⟩
    · split at h
      · rename_i hob
        simp only [Option.some.injEq] at h
        subst h
        obtain ⟨L, _, rfl, _⟩ := own_val (.inl (hs.obj _ _ hob).1) hx
        exact ⟨_, key _ _ _, VR.int, by simp [AV.nm]⟩
      · rename_i hob
        simp only [Option.some.injEq] at h
        subst h
        obtain ⟨L, _, rfl, _⟩ := own_val (.inr (hs.obj _ _ hob).1) hx
        exact ⟨_, key _ _ _, VR.int, by simp [AV.nm]⟩
      · simp at h
    · simp at h
  · simp at h

/-! ### cells of one kind -/

theorem homI_sound : ∀ {l : List AV} {k : IntKind} {ns : List Int} {vs : List Value}, homI l = some (k, ns) → VRL E l vs → vs = ns.map (fun n => Value.int k n) ∧ ns.length = l.length
  | [], k, ns, vs, h, _ => by simp [homI] at h
  | a :: r, k, ns, vs, h, hv => by
    simp only [VRL] at hv
    obtain ⟨z, r', rfl, hz, hr⟩ := hv
    simp only [homI] at h
    split at h
    · rename_i k' n
      simp only [VR] at hz
      subst hz
      split at h
      · simp only [Option.some.injEq, Prod.mk.injEq] at h
        obtain ⟨rfl, rfl⟩ := h
        simp only [VRL] at hr
        subst hr
        exact ⟨rfl, rfl⟩
      · split at h
        · rename_i k2 ns2 h2
          split at h
          · rename_i hk
            subst hk
            simp only [Option.some.injEq, Prod.mk.injEq] at h
            obtain ⟨rfl, rfl⟩ := h
            obtain ⟨g1, g2⟩ := homI_sound h2 hr
            exact ⟨by rw [g1]; rfl, by simp [g2]⟩
          · simp at h
        · simp at h
    · simp at h
theorem homS_sound : ∀ {l : List AV} {ss : List (List UInt8)} {vs : List Value}, homS l = some ss → VRL E l vs → vs = ss.map (fun s => Value.string ⟨s.toArray⟩) ∧ ss.length = l.length
  | [], ss, vs, h, hv => by
    simp only [homS, Option.some.injEq] at h
    subst h
    simp only [VRL] at hv
    subst hv
    exact ⟨rfl, rfl⟩
  | a :: r, ss, vs, h, hv => by
    simp only [VRL] at hv
    obtain ⟨z, r', rfl, hz, hr⟩ := hv
    simp only [homS] at h
    split at h
    · simp only [VR] at hz
      subst hz
      split at h
      · rename_i ss2 h2
        simp only [Option.some.injEq] at h
        subst h
        obtain ⟨g1, g2⟩ := homS_sound h2 hr
        exact ⟨by rw [g1]; rfl, by simp [g2]⟩
      · simp at h
    · simp at h
theorem homV_sound {l : List AV} {i : Nat} {r : AV} {vs : List Value} (h : homV l i = some r) (hv : VRL E l vs) (hi : i < l.length) : ∃ z, vs[i]? = some z ∧ VR E r z ∧ ∀ p, r.nm p := by
  unfold homV at h
  split at h
  · rename_i k ns hk
    simp only [Option.some.injEq] at h
    subst h
    obtain ⟨rfl, g2⟩ := homI_sound hk hv
    have : i < ns.length := by omega
    exact ⟨.int k ns[i], by simp [this], by simp [VR, List.getD_eq_getElem?_getD, this], by simp [AV.nm]⟩
  · split at h
    · rename_i ss hk
      simp only [Option.some.injEq] at h
      subst h
      obtain ⟨rfl, g2⟩ := homS_sound hk hv
      have : i < ss.length := by omega
      exact ⟨.string ⟨ss[i].toArray⟩, by simp [this], by simp [VR, List.getD_eq_getElem?_getD, this], by simp [AV.nm]⟩
    · simp at h
theorem intsA_sound {k : IntKind} {ns : List Int} : ∀ (m j : Nat), ns.length = j + m → VRL E (intsA k ns j m) ((ns.drop j).map fun n => Value.int k n) ∧ ∀ p, AV.nms p (intsA k ns j m)
  | 0, j, h => by
    rw [List.drop_of_length_le (by omega)]
    simp [intsA, VRL, AV.nms]
  | m + 1, j, h => by
    obtain ⟨g1, g2⟩ := intsA_sound (k := k) (ns := ns) m (j + 1) (by omega)
    have hj : j < ns.length := by omega
    rw [List.drop_eq_getElem_cons hj]
    simp only [intsA, List.map_cons, VRL, AV.nms]
    exact ⟨⟨_, _, rfl, by simp [VR, List.getD_eq_getElem?_getD, hj], g1⟩, fun p => ⟨by simp [AV.nm], g2 p⟩⟩
theorem strsA_sound {ss : List (List UInt8)} : ∀ (m j : Nat), ss.length = j + m → VRL E (strsA ss j m) ((ss.drop j).map fun s => Value.string ⟨s.toArray⟩) ∧ ∀ p, AV.nms p (strsA ss j m)
  | 0, j, h => by
    rw [List.drop_of_length_le (by omega)]
    simp [strsA, VRL, AV.nms]
  | m + 1, j, h => by
    obtain ⟨g1, g2⟩ := strsA_sound (ss := ss) m (j + 1) (by omega)
    have hj : j < ss.length := by omega
    rw [List.drop_eq_getElem_cons hj]
    simp only [strsA, List.map_cons, VRL, AV.nms]
    exact ⟨⟨_, _, rfl, by simp [VR, List.getD_eq_getElem?_getD, hj], g1⟩, fun p => ⟨by simp [AV.nm], g2 p⟩⟩
theorem homW_sound {l l' : List AV} {i m : Nat} {c : AV} {vs : List Value} {z : Value} (h : homW l i m c = some l') (hv : VRL E l vs) (hc : VR E c z) (hm : l.length = m) : VRL E l' (vs.set i z) ∧ ∀ p, AV.nms p l' := by
  unfold homW at h
  split at h
  · rename_i k ns hk
    obtain ⟨rfl, g2⟩ := homI_sound hk hv
    split at h
    · split at h
      · rename_i x hkk
        subst hkk
        simp only [Option.some.injEq] at h
        subst h
        simp only [VR] at hc
        subst hc
        have := intsA_sound (E := E) (k := k) (ns := ns.set i x) m 0 (by simp; omega)
        simpa using this
      · simp at h
    · simp at h
  · split at h
    · rename_i ss hk
      obtain ⟨rfl, g2⟩ := homS_sound hk hv
      split at h
      · simp only [Option.some.injEq] at h
        subst h
        simp only [VR] at hc
        subst hc
        rename_i x
        have := strsA_sound (E := E) (ss := ss.set i x) m 0 (by simp; omega)
        simpa using this
      · simp at h
    · simp at h

/-! ### index -/

theorem opIndex_sound {P : Program} {T : TypeId} {x i r : AV} {v j : Value} {q : List Prop} {cst : Bool} (h : opIndex P T cst x i = some (q, r)) (hq : ∀ p ∈ q, p) (hx : VR E x v) (hi : VR E i j) {us' : Nat → Prop} (hn : x.nm us')
    (w : World) : ∃ z, (Instr.index T v j).run P w = .ok z w ∧ VR E r z ∧ r.nm us' := by
  unfold opIndex at h
  split at h
  · rename_i i k i
    simp only [VR] at hi
    subst hi
    split at h
    · rename_i hT
      split at h
      · rename_i l
        simp only [Option.some.injEq, Prod.mk.injEq] at h
        obtain ⟨rfl, rfl⟩ := h
        simp only [VR] at hx
        subst hx
        have h0 : 0 ≤ i ∧ i < (l.length : Int) := hq _ (List.Mem.head _)
        have hsz : (⟨l.toArray⟩ : ByteArray).size = l.length := by simp [ByteArray.size]
        refine ⟨_, ?_, VR.int, by simp [AV.nm]⟩
        rw [run_index_string w T _ _ _ hT, dif_pos (by rw [hsz]; exact h0)]
        congr 3
        have h1 : i.toNat < l.length := by have := h0.2; omega
        rw [List.getD_eq_getElem?_getD, List.getElem?_eq_getElem h1]
        rfl
      · simp at h
    · rename_i m e hT
      split at h
      · rename_i s hs
        split at h
        · rename_i l
          split at h
          · split at h
            · rename_i y hy
              simp only [Option.some.injEq, Prod.mk.injEq] at h
              obtain ⟨rfl, rfl⟩ := h
              have h0 : 0 ≤ i ∧ i < (m : Int) := hq _ (List.Mem.head _)
              simp only [VR] at hx
              obtain ⟨vs, rfl, hx⟩ := hx
              obtain ⟨z, hz, hv⟩ := part_sound hy hx w
              refine ⟨z, ?_, hv, partA_nm hy hn⟩
              simp [Instr.index, asIntOf, run_underlying hT, h0, run_sizeT w hs, hz]
            · simp at h
          · split at h
            · rename_i hb1 hag hb2
              split at h
              · rename_i y hy
                simp only [Option.some.injEq, Prod.mk.injEq] at h
                obtain ⟨rfl, rfl⟩ := h
                have h0 : 0 ≤ i ∧ i < (m : Int) := hq _ (List.Mem.head _)
                simp only [VR] at hx
                obtain ⟨vs, rfl, hx⟩ := hx
                have hlm := beq_true hb2
                rw [lenA_eq] at hlm
                obtain ⟨z, h1, h2, h3⟩ := homV_sound hy hx (by omega)
                have hs1 := beq_true hb1
                subst hs1
                refine ⟨z, ?_, h2, h3 _⟩
                simp [Instr.index, asIntOf, run_underlying hT, h0, run_sizeT w hs, part, run_isAgg w hag, h1]
              · simp at h
            · simp at h
        · simp at h
      · simp at h
    · simp at h
  · simp at h

theorem opField_sound {P : Program} {T : TypeId} {f : Nat} {g : Field} {l : List AV} {v : Value} {r : AV} (hf : fld P T f = some g) (h : partA P g.type g.offset l = some r) (hx : VR E (.agg l) v)
    {us' : Nat → Prop} (hn : (AV.agg l).nm us') (w : World) : ∃ z, (Instr.field T v f).run P w = .ok z w ∧ VR E r z ∧ r.nm us' := by
  unfold fld at hf
  split at hf
  · rename_i fs hT
    rw [nth_eq] at hf
    simp only [VR] at hx
    obtain ⟨vs, rfl, hx⟩ := hx
    obtain ⟨z, hz, hv⟩ := part_sound h hx w
    refine ⟨z, ?_, hv, partA_nm h hn⟩
    have hf' : fs[f]? = some g := by simpa using hf
    simp [Instr.field, run_underlying hT, hf', asAgg, hz]
  · simp at hf

/-! ### addresses -/

theorem run_fieldPlace {P : Program} {f : Field} {n : Nat} (w : World) (h : sizeT P f.type = some (n + 1)) (a : Addr) : (fieldPlace a f).run P w = .ok (a.add f.offset) w := by
  simp [fieldPlace, run_sizeT w h]

theorem opFieldAddr_sound {P : Program} (hs : SimE W0 okIn B us tm ob nt E a) {T : TypeId} {f : Nat} {x r : AV} {v : Value} (hl : liveA ob x = true) (h : opFieldAddr P T x f = some r) (hx : VR E x v) {us' : Nat → Prop} (hn : x.nm us')
    (w : World) : ∃ z, (Instr.fieldAt T v f).run P w = .ok z w ∧ VR E r z ∧ r.nm us' := by
  unfold opFieldAddr at h
  split at h
  · rename_i g hf
    split at h
    · rename_i n hn'
      unfold fld at hf
      split at hf
      · rename_i fs hT
        rw [nth_eq] at hf
        have hf' : fs[f]? = some g := by simpa using hf
        have key : ∀ ad : Addr, (Instr.fieldAt T (.pointer (some ad)) f).run P w = .ok (.pointer (some (ad.add g.offset))) w := by
          intro ad
          simp [Instr.fieldAt, run_underlying hT, hf', Instr.sureAddr, run_fieldPlace w hn']
        split at h
        · simp only [Option.some.injEq] at h
          subst h
          simp only [VR] at hx
          obtain ⟨L, hL, _⟩ := live_loc hs hl
          obtain ⟨b, h1, rfl⟩ := hx.2 L hL
          refine ⟨_, key _, ?_, hn⟩
          simp only [VR, leafV, true_and]
          intro L' hL'
          obtain rfl : L = L' := Option.some.inj (hL.symm.trans hL')
          exact ⟨b, h1, by rw [add_mk]⟩
        · simp only [Option.some.injEq] at h
          subst h
          simp only [VR] at hx
          obtain ⟨b, o, cs, rfl, h2⟩ := hx
          refine ⟨_, key _, ?_, by simp [AV.nm]⟩
          simp only [VR]
          exact ⟨b, o, cs, by rw [add_mk, Nat.add_assoc], h2⟩
        · simp only [Option.some.injEq] at h
          subst h
          simp only [VR] at hx
          obtain ⟨L, hL, _⟩ := live_loc hs hl
          obtain ⟨b, h1, rfl⟩ := hx.2 L hL
          refine ⟨_, key _, ?_, hn⟩
          simp only [VR, leafV, true_and]
          intro L' hL'
          obtain rfl : L = L' := Option.some.inj (hL.symm.trans hL')
          exact ⟨b, h1, by rw [add_mk, Nat.add_assoc]⟩
        · simp at h
      · simp at hf
    · simp at h
  · simp at h

theorem LRs.elem {w : World} {ok : Nat → Prop} {e : Sh} {xs : List e.T} {v : Value} (h : LRs w ok (.sl e) xs [v]) {i : Nat} (hi : i < xs.length) :
    ∃ b o cap cs, v = .slice (some ⟨b, o, none⟩) xs.length cap ∧ xs.length ≤ cap ∧ ok b ∧ cs.length = e.size ∧ Row w b (o + i * e.size) cs ∧ LRs w ok e (xs.getD i e.dflt) cs := by
  simp only [LRs] at h
  obtain ⟨base, cap, hv, hc, h⟩ := h
  simp only [List.cons.injEq, and_true] at hv
  rcases h with h | ⟨b, o, rfl, hok, h⟩
  · omega
  · obtain ⟨cs, h1, h2, h3⟩ := h i hi
    refine ⟨b, o, cap, cs, hv, hc, hok, h1, h2, ?_⟩
    rw [List.getD_eq_getElem?_getD, List.getElem?_eq_getElem hi]
    exact h3

theorem opIndexAddr_sound {P : Program} (hs : SimE W0 okIn B us tm ob nt E a) {T : TypeId} {x i r : AV} {v j : Value} {q : List Prop} {cst : Bool} (hl : liveA ob x = true) (h : opIndexAddr P T cst ob x i = some (q, r)) (hq : ∀ p ∈ q, p)
    (hx : VR E x v) (hi : VR E i j) {us' : Nat → Prop} (hn : x.nm us') (w : World) : ∃ z, (Instr.indexAt T v j).run P w = .ok z w ∧ VR E r z ∧ r.nm us' := by
  unfold opIndexAddr at h
  split at h
  · rename_i i k i
    simp only [VR] at hi
    subst hi
    split at h
    · rename_i el hT
      split at h
      · rename_i s hsz
        have key : ∀ (ad : Addr) (len cap : Nat), 0 ≤ i ∧ i < (len : Int) → (Instr.indexAt T (.slice (some ad) len cap) (.int k i)).run P w = .ok (.pointer (some (ad.add (i.toNat * s)))) w := by
          intro ad len cap h0
          simp [Instr.indexAt, asIntOf, run_underlying hT, h0, run_sizeT w hsz]
        split at h
        · rename_i e xs
          split at h
          · rename_i hb
            have hse := beq_true hb
            subst hse
            simp only [Option.some.injEq, Prod.mk.injEq] at h
            obtain ⟨rfl, rfl⟩ := h
            have h0 : 0 ≤ i ∧ i < (xs.length : Int) := hq _ (List.Mem.head _)
            simp only [VR] at hx
            obtain ⟨b, o, cap, cs, rfl, hc, hok, h1, h2, h3⟩ := LRs.elem hx (i := i.toNat) (by omega)
            refine ⟨_, key _ _ _ h0, ?_, by simp [AV.nm]⟩
            simp only [VR]
            exact ⟨b, o + i.toNat * e.size, cs, by rw [add_mk]; simp, hok, h1, h2, h3⟩
          · simp at h
        · rename_i n e off len
          split at h
          · rename_i hb
            have hse := beq_true hb
            subst hse
            simp only [Option.some.injEq, Prod.mk.injEq] at h
            obtain ⟨rfl, rfl⟩ := h
            have h0 : 0 ≤ i ∧ i < (len : Int) := hq _ (List.Mem.head _)
            simp only [VR] at hx
            obtain ⟨L, hL, hLb⟩ := live_loc hs hl
            obtain ⟨base, rfl, h1, h2, h3⟩ := hx.2 L hL
            have hlt : off < L.cap := by omega
            rcases hLb with hLb | ⟨b, hLb⟩
            · omega
            · have hb' := h3 hlt
              rw [hLb] at hb'
              subst hb'
              refine ⟨_, key _ _ _ h0, ?_, hn⟩
              simp only [VR, leafV, true_and]
              intro L' hL'
              obtain rfl : L = L' := Option.some.inj (hL.symm.trans hL')
              exact ⟨b, hLb, by rw [add_mk, add_mk]; congr 3; rw [Nat.zero_add, Nat.add_mul]; omega⟩
          · simp at h
        · rename_i n off len
          simp only [Option.some.injEq, Prod.mk.injEq] at h
          obtain ⟨rfl, rfl⟩ := h
          have h0 : 0 ≤ i ∧ i < (len : Int) := hq _ (List.Mem.head _)
          simp only [VR] at hx
          obtain ⟨L, hL, hLb⟩ := live_loc hs hl
          obtain ⟨b, o, cap, h1, rfl, h2, h3⟩ := hx.2 L hL
          refine ⟨_, key _ _ _ h0, ?_, hn⟩
          simp only [VR, leafV, true_and]
          intro L' hL'
          obtain rfl : L = L' := Option.some.inj (hL.symm.trans hL')
          exact ⟨b, h1, by rw [add_mk, h3 (by omega)]⟩
        · rename_i n e
          split at h
          · rename_i hb
            have hse := beq_true hb
            subst hse
            have fin : ∀ {e' : Sh} {xs : List e'.T}, (ObjR E n (.rows e' xs) ∨ ObjR E n (.frz e' xs)) → some ([0 ≤ i ∧ i < (xs.length : Int)], AV.epr n e i.toNat 0) = some (q, r) →
                ∃ z, (Instr.indexAt T v (.int k i)).run P w = .ok z w ∧ VR E r z ∧ r.nm us' := by
              intro e' xs ho h
              simp only [Option.some.injEq, Prod.mk.injEq] at h
              obtain ⟨rfl, rfl⟩ := h
              have h0 : 0 ≤ i ∧ i < (xs.length : Int) := hq _ (List.Mem.head _)
              obtain ⟨L, hL, rfl, hle, hLb⟩ := own_val ho hx
              rcases hLb with hLb | ⟨b, hLb⟩
              · omega
              · rw [hLb]
                refine ⟨_, key _ _ _ h0, ?_, hn⟩
                simp only [VR, leafV, true_and]
                intro L' hL'
                obtain rfl : L = L' := Option.some.inj (hL.symm.trans hL')
                exact ⟨b, hLb, by rw [add_mk]; simp⟩
            split at h
            · rename_i hob; exact fin (.inl (hs.obj _ _ hob).1) h
            · rename_i hob; exact fin (.inr (hs.obj _ _ hob).1) h
            · simp at h
          · simp at h
        · simp at h
      · simp at h
    · rename_i m el hT
      split at h
      · rename_i s hsz
        have key : ∀ (ad : Addr), 0 ≤ i ∧ i < (m : Int) → (Instr.indexAt T (.pointer (some ad)) (.int k i)).run P w = .ok (.pointer (some (ad.add (i.toNat * s)))) w := by
          intro ad h0
          simp [Instr.indexAt, asIntOf, run_underlying hT, h0, run_sizeT w hsz, Instr.sureAddr]
        split at h
        · rename_i n off
          split at h
          · simp only [Option.some.injEq, Prod.mk.injEq] at h
            obtain ⟨rfl, rfl⟩ := h
            have h0 : 0 ≤ i ∧ i < (m : Int) := hq _ (List.Mem.head _)
            simp only [VR] at hx
            obtain ⟨L, hL, hLb⟩ := live_loc hs hl
            obtain ⟨b, h1, rfl⟩ := hx.2 L hL
            refine ⟨_, key _ h0, ?_, hn⟩
            simp only [VR, leafV, true_and]
            intro L' hL'
            obtain rfl : L = L' := Option.some.inj (hL.symm.trans hL')
            exact ⟨b, h1, by rw [add_mk]⟩
          · split at h
            · rename_i hb1
              have hs1 := beq_true hb1
              subst hs1
              simp only [Option.some.injEq, Prod.mk.injEq] at h
              obtain ⟨rfl, rfl⟩ := h
              have h0 : 0 ≤ i ∧ i < (m : Int) := hq _ (List.Mem.head _)
              simp only [VR] at hx
              obtain ⟨L, hL, hLb⟩ := live_loc hs hl
              obtain ⟨b, h1, rfl⟩ := hx.2 L hL
              refine ⟨_, key _ h0, ?_, hn⟩
              simp only [VR, leafV, true_and]
              refine ⟨by omega, fun L' hL' => ?_⟩
              obtain rfl : L = L' := Option.some.inj (hL.symm.trans hL')
              exact ⟨b, h1, by rw [add_mk, Nat.mul_one]⟩
            · simp at h
        · rename_i e x off
          simp only [Option.some.injEq, Prod.mk.injEq] at h
          obtain ⟨rfl, rfl⟩ := h
          have h0 : 0 ≤ i ∧ i < (m : Int) := hq _ (List.Mem.head _)
          simp only [VR] at hx
          obtain ⟨b, o, cs, rfl, h2⟩ := hx
          refine ⟨_, key _ h0, ?_, by simp [AV.nm]⟩
          simp only [VR]
          exact ⟨b, o, cs, by rw [add_mk, Nat.add_assoc], h2⟩
        · rename_i n e jj off
          simp only [Option.some.injEq, Prod.mk.injEq] at h
          obtain ⟨rfl, rfl⟩ := h
          have h0 : 0 ≤ i ∧ i < (m : Int) := hq _ (List.Mem.head _)
          simp only [VR] at hx
          obtain ⟨L, hL, hLb⟩ := live_loc hs hl
          obtain ⟨b, h1, rfl⟩ := hx.2 L hL
          refine ⟨_, key _ h0, ?_, hn⟩
          simp only [VR, leafV, true_and]
          intro L' hL'
          obtain rfl : L = L' := Option.some.inj (hL.symm.trans hL')
          exact ⟨b, h1, by rw [add_mk, Nat.add_assoc]⟩
        · simp at h
      · simp at h
    · simp at h
  · simp at h

end
end Go.Tr
