/- Loads.
   Conditions: none. -/
import Derived.Test.YtbdgfpfafcjmgaaDoorTrE
import Derived.Laws.Cells
namespace Go.Tr
open Go
set_option linter.unusedVariables false
set_option linter.unusedSimpArgs false

section
variable {W0 : WX} {okIn B us : Nat → Prop} {tm : Nat → Option AV} {ob : Nat → Option AO} {nt : Nat} {E : Env} {a : Act}

theorem Row.take {w : World} {b o : Nat} {cs : List Value} (h : Row w b o cs) (n : Nat) : Row w b o (cs.take n) := by
  intro j hj
  have := h j (by simp at hj; omega)
  simpa using this
theorem Row.drop {w : World} {b o : Nat} {cs : List Value} (h : Row w b o cs) (n : Nat) : Row w b (o + n) (cs.drop n) := by
  intro j hj
  have := h (n + j) (by simp at hj; omega)
  rw [show o + n + j = o + (n + j) by omega, this]
  simp

theorem run_load_row {P : Program} {w : World} {T : TypeId} {b o off : Nat} {l : List AV} {vs : List Value} {r : AV} (h : partA P T off l = some r) (hl : VRL E l vs) (hr : Row w b o vs) :
    ∃ z, (Instr.loadAt T (.pointer (some ⟨b, o + off, none⟩))).run P w = .ok z w ∧ VR E r z := by
  rcases partA_cases h with ⟨n, h1, h2, h3, rfl⟩ | ⟨h1, h2⟩
  · refine ⟨.agg ((vs.drop off).take n).toArray, ?_, ⟨_, rfl, (hl.drop off).take n⟩⟩
    have hlen : ((vs.drop off).take n).length = n := by simp [hl.length]; omega
    have hrow := (hr.drop off).take n
    have hload := run_loadCells_list (P := P) w ⟨b, o + off, none⟩ ((vs.drop off).take n) (fun j v hv => by
      have hj : j < ((vs.drop off).take n).length := by
        rcases Nat.lt_or_ge j ((vs.drop off).take n).length with hlt | hge
        · exact hlt
        · rw [List.getElem?_eq_none hge] at hv; simp at hv
      rw [List.getElem?_eq_getElem hj] at hv
      rw [add_mk, hrow j hj]
      exact hv)
    rw [hlen] at hload
    simp [Instr.loadAt, Instr.sureAddr, loadVar, run_isAgg w h1, run_sizeT w h2, hload]
  · obtain ⟨x, hx, hv⟩ := hl.nth h2
    refine ⟨x, ?_, hv⟩
    have hlt : off < vs.length := by
      rcases Nat.lt_or_ge off vs.length with hlt | hge
      · exact hlt
      · rw [List.getElem?_eq_none hge] at hx; simp at hx
    have hcell := hr off hlt
    rw [List.getElem?_eq_getElem hlt] at hx
    have hx' := Option.some.inj hx
    simp [Instr.loadAt, Instr.sureAddr, loadVar, run_isAgg w h1, hcell, hx']

theorem enc_sound : ∀ (s : Sh), s.flat = true → ∀ (x : s.T) (vs : List Value), LRs E.w E.ok s x vs → VRL E (enc s x) vs
  | .int k, _, x, vs, h => by simp only [LRs] at h; subst h; simp [enc, VRL, VR]
  | .bool, _, x, vs, h => by simp only [LRs] at h; subst h; simp [enc, VRL, VR]
  | .str, _, x, vs, h => by simp only [LRs] at h; subst h; simp [enc, VRL, VR]
  | .unit, _, x, vs, h => by simp only [LRs] at h; subst h; simp [enc, VRL]
  | .sl e, _, x, vs, h => by
    have h' := h
    simp only [LRs] at h
    obtain ⟨base, cap, rfl, h2⟩ := h
    simp only [enc, VRL, VR]
    exact ⟨_, [], rfl, h', rfl⟩
  | .arr n e, hf, x, vs, h => by simp [Sh.flat] at hf
  | .pair p q, hf, x, vs, h => by
    simp only [LRs] at h
    obtain ⟨v1, v2, rfl, h1, h2⟩ := h
    simp only [Sh.flat] at hf
    split at hf
    · rename_i hp
      simp only [enc, appA_eq]
      exact VRL.append (enc_sound p hp _ _ h1) (enc_sound q hf _ _ h2)
    · simp at hf

theorem enc_nms (p : Nat → Prop) : ∀ (s : Sh) (x : s.T), AV.nms p (enc s x)
  | .int k, x => by simp [enc, AV.nms, AV.nm]
  | .bool, x => by simp [enc, AV.nms, AV.nm]
  | .str, x => by simp [enc, AV.nms, AV.nm]
  | .unit, x => by simp [enc, AV.nms, AV.nm]
  | .sl e, x => by simp [enc, AV.nms, AV.nm]
  | .arr n e, x => by simp [enc, AV.nms, AV.nm]
  | .pair a b, x => by simp only [enc, appA_eq]; exact nms_append (enc_nms p a _) (enc_nms p b _)

theorem getD_eq {α : Type} {xs : List α} {i : Nat} (h : i < xs.length) (d : α) : xs.getD i d = xs[i] := by
  rw [List.getD_eq_getElem?_getD, List.getElem?_eq_getElem h]; rfl

theorem cells_row {w : World} {b : Nat} {cs : Array Value} {T : TypeId} {fr : Nat × Nat} (h : w.heap[b]? = some (.cells cs T fr)) : Row w b 0 cs.toList := by
  intro j hj
  simp [World.cell?, h, hj]

theorem opLoad_sound {P : Program} (hs : SimE W0 okIn B us tm ob nt E a) {T : TypeId} {x r : AV} {v : Value} {q : List Prop} (h : opLoad P T ob x = some (q, r)) (hq : ∀ p ∈ q, p)
    (hx : VR E x v) : ∃ z, (Instr.loadAt T v).run P E.w = .ok z E.w ∧ VR E r z ∧ r.nm us := by
  unfold opLoad at h
  split at h
  · rename_i n off
    split at h
    · rename_i l hob
      split at h
      · rename_i y hy
        simp only [Option.some.injEq, Prod.mk.injEq] at h
        obtain ⟨rfl, rfl⟩ := h
        obtain ⟨h1, h2, h3⟩ := hs.obj n _ hob
        obtain ⟨b, cs, T', fr, g1, g2, g3, g4⟩ := h1
        simp only [VR] at hx
        obtain ⟨b', hb', rfl⟩ := hx.2 _ g1
        simp only [Option.some.injEq, Addr.mk.injEq, and_true] at hb'
        subst hb'
        obtain ⟨z, hz, hv⟩ := run_load_row (P := P) hy g4 (cells_row g2)
        exact ⟨z, by simpa using hz, hv, partA_nm hy h2⟩
      · simp at h
    · rename_i l hob
      split at h
      · rename_i y hy
        simp only [Option.some.injEq, Prod.mk.injEq] at h
        obtain ⟨rfl, rfl⟩ := h
        obtain ⟨h1, h2, h3⟩ := hs.obj n _ hob
        obtain ⟨b, cs, T', fr, g1, g3, g2, g4⟩ := h1
        simp only [VR] at hx
        obtain ⟨b', hb', rfl⟩ := hx.2 _ g1
        simp only [Option.some.injEq, Addr.mk.injEq, and_true] at hb'
        subst hb'
        obtain ⟨z, hz, hv⟩ := run_load_row (P := P) hy g4 (cells_row g2)
        exact ⟨z, by simpa using hz, hv, partA_nm hy h2⟩
      · simp at h
    · simp at h
  · rename_i n off i m
    split at h
    · rename_i l hob hag
      split at h
      · rename_i hb
        split at h
        · rename_i y hy
          simp only [Option.some.injEq, Prod.mk.injEq] at h
          obtain ⟨rfl, rfl⟩ := h
          obtain ⟨h1, h2, h3⟩ := hs.obj n _ hob
          obtain ⟨b, cs, T', fr, g1, g2, g3, g4⟩ := h1
          simp only [VR] at hx
          obtain ⟨him, hlf, hx⟩ := hx
          obtain ⟨b', hb', rfl⟩ := hx _ g1
          simp only [Option.some.injEq, Addr.mk.injEq, and_true] at hb'
          subst hb'
          have hle := Nat.le_of_ble_eq_true hb
          rw [lenA_eq] at hle
          rw [takeA_eq, dropA_eq] at hy
          obtain ⟨z, k1, k2, k3⟩ := homV_sound hy ((g4.drop off).take m) (by simp; omega)
          refine ⟨z, ?_, k2, k3 us⟩
          have hcl := g4.length
          have hlt : off + i < cs.size := by simp at hcl; omega
          have hcell : E.w.cell? ⟨b, off + i, none⟩ = some z := by
            simp only [List.getElem?_take, him, if_true, List.getElem?_drop] at k1
            simpa [World.cell?, g2] using k1
          simp [Instr.loadAt, Instr.sureAddr, loadVar, run_isAgg E.w hag, hcell]
        · simp at h
      · simp at h
    · simp at h
  · rename_i e x off
    split at h
    · rename_i hf
      split at h
      · rename_i y hy
        simp only [Option.some.injEq, Prod.mk.injEq] at h
        obtain ⟨rfl, rfl⟩ := h
        simp only [VR] at hx
        obtain ⟨b, o, cs, rfl, hok, hlen, hrow, hl⟩ := hx
        obtain ⟨z, hz, hv⟩ := run_load_row (P := P) hy (enc_sound e hf x cs hl) hrow
        exact ⟨z, hz, hv, partA_nm hy (enc_nms us e x)⟩
      · simp at h
    · simp at h
  · rename_i n e i off
    split at h
    · rename_i hf
      split at h
      · rename_i e' xs hob
        split at h
        · rename_i he
          subst he
          split at h
          · rename_i y hy
            simp only [Option.some.injEq, Prod.mk.injEq] at h
            obtain ⟨rfl, rfl⟩ := h
            have hi : i < xs.length := hq _ (List.Mem.head _)
            obtain ⟨h1, h2, h3⟩ := hs.obj n _ hob
            obtain ⟨L, g1, _, g2⟩ := h1
            rcases g2 with g2 | ⟨b, cs, T', fr, g3, g4, g5, g6, g7, g8, g9⟩
            · omega
            · simp only [VR] at hx
              obtain ⟨b', hb', rfl⟩ := hx.2 _ g1
              rw [g3] at hb'
              simp only [Option.some.injEq, Addr.mk.injEq, and_true] at hb'
              subst hb'
              have hrow := ((cells_row g5).drop (i * e'.size)).take e'.size
              rw [getD_eq hi] at hy
              obtain ⟨z, hz, hv⟩ := run_load_row (P := P) hy (enc_sound e' hf _ _ (g9 i hi)) hrow
              exact ⟨z, by simpa using hz, hv, partA_nm hy (enc_nms us e' _)⟩
          · simp at h
        · simp at h
      · rename_i e' xs hob
        split at h
        · rename_i he
          subst he
          split at h
          · rename_i y hy
            simp only [Option.some.injEq, Prod.mk.injEq] at h
            obtain ⟨rfl, rfl⟩ := h
            have hi : i < xs.length := hq _ (List.Mem.head _)
            obtain ⟨h1, h2, h3⟩ := hs.obj n _ hob
            obtain ⟨L, g1, _, g2, g3, g4⟩ := h1
            obtain ⟨b, o, cap, cs, hv, hc, hok, hlen, hrow, hl⟩ := LRs.elem g4 hi
            simp only [VR] at hx
            obtain ⟨b', hb', rfl⟩ := hx.2 _ g1
            rw [hb'] at hv
            simp only [Value.slice.injEq, Option.some.injEq, Addr.mk.injEq, and_true] at hv
            obtain ⟨⟨rfl, rfl⟩, _⟩ := hv
            obtain ⟨z, hz, hv⟩ := run_load_row (P := P) hy (enc_sound e' hf _ _ hl) hrow
            exact ⟨z, by simpa using hz, hv, partA_nm hy (enc_nms us e' _)⟩
          · simp at h
        · simp at h
      · simp at h
    · simp at h
  · simp at h

end
end Go.Tr
