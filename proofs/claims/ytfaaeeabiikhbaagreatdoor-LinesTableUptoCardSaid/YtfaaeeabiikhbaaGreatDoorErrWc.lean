/- errors.As walked, at a number and at a fault: printed by a program of ours. Conditions: none but those that each theorem states. -/
import Derived.Test.YtfaaeeabiikhbaaGreatDoorErrWb
namespace Go.Proofs
open Go.RowKit Go.Extern.Stop Go.Stop Go.Extern Go.Tr
set_option maxRecDepth 100000
set_option linter.unusedVariables false
set_option linter.unusedSimpArgs false
theorem c_two (w : World) (v : Value) (ty : TypeId) (o : Obj) : ((w.alloc (.cells #[v] ty)).alloc o).cell? ⟨w.heap.size, 0, none⟩ = some v := by
  rw [World.cell?_alloc_lt _ _ ⟨w.heap.size, 0, none⟩ (by simp)]
  simp
theorem below_set {B : Nat} {w w2 : World} (h : Below B w w2) (a : Addr) (u : Value) : Below B (w.setCell a u) (w2.setCell a u) := by
  refine ⟨h.os, h.tape, h.output, by simpa [World.setCell] using h.size, fun k hk => ?_⟩
  simp only [World.setCell, Array.getElem?_modify]
  split <;> rw [h.block k hk]
set_option maxHeartbeats 4000000 in
theorem As_46 (t : TErr) (hok : ErrOk eTy t) (v : Value) (b : Nat) (old : Value) (w : World) (ok : Nat → Prop) (hv : ErrR w ok t v) (hokb : ∀ b, ok b → b < w.heap.size)
    (hg : w.cell? ⟨0, 0, none⟩ = some (.iface 162 (.agg #[.pointer (some ⟨14, 43, none⟩)]))) (hb : w.cell? ⟨b, 0, none⟩ = some old) (hf : w.frozen? ⟨b, 0, none⟩ = false) :
    Calls Tryz.prog 48 #[v, .iface 106 (.pointer (some ⟨b, 0, none⟩))] w (asNo t b w) := by
  by_cases hn : t = .nil
  · subst hn
    simp only [ErrR] at hv
    subst hv
    go_enter Tryz.func48, Tryz.ntmps48
    go_wp2
    go_ret
    exact ⟨rfl, Below.refl _ _⟩
  have h67 := @run_callFunc_extern Tryz.prog 67 _ (fun args => ReflectliteValue.unpack (args.getD 0 (.tuple #[]))) Tryz.func67 (by kernel_rfl) (by kernel_rfl) (by kernel_rfl) (by kernel_rfl)
  have h68 := @run_callFunc_extern Tryz.prog 68 _ (ReflectliteValue.methodAny (ReflectliteValue.valueError "reflectlite.Value.Type" 0) (fun t _ _ _ => ReflectliteType.toType t)) Tryz.func68 (by kernel_rfl) (by kernel_rfl) (by kernel_rfl) (by kernel_rfl)
  have h69 := @run_callFunc_extern Tryz.prog 69 _ (ReflectliteValue.method (ReflectliteValue.valueError "reflectlite.Value.IsNil" 0) ReflectliteValue.isNil) Tryz.func69 (by kernel_rfl) (by kernel_rfl) (by kernel_rfl) (by kernel_rfl)
  have h145 := @run_callFunc_extern Tryz.prog 145 _ (ReflectliteType.abiMethod fun t => do pure (.int .u8 (← Rtype.kind t))) Tryz.func145 (by kernel_rfl) (by kernel_rfl) (by kernel_rfl) (by kernel_rfl)
  have h163 := @run_callFunc_extern Tryz.prog 163 _ (ReflectliteType.method ReflectliteType.elem) Tryz.func163 (by kernel_rfl) (by kernel_rfl) (by kernel_rfl) (by kernel_rfl)
  have h164 := @run_callFunc_extern Tryz.prog 164 _ (ReflectliteType.relation "Implements" ReflectliteType.implements_) Tryz.func164 (by kernel_rfl) (by kernel_rfl) (by kernel_rfl) (by kernel_rfl)
  have z0 := vO106
  have z1 := ty106
  have z2 := mtKind
  have z3 := mtElem
  have z4 := mtImplements
  have z5 := kd106
  have z6 := kd46
  have z7 := el106
  have z8 := im46
  have hbl := lt_of_cell hb
  have hgl := lt_of_cell hg
  simp only at hbl hgl
  have n8 := nilV106 ⟨w.heap.size, 0, none⟩ ⟨b, 0, none⟩ ((w.alloc (.cells #[.pointer (some ⟨b, 0, none⟩)] 106)).alloc (.cells #[.pointer (some ⟨14, 106, none⟩), .pointer (some ⟨w.heap.size, 0, none⟩), .int .u64 150] 136)) (c_two _ _ _ _)
  have hg2 : ((w.alloc (.cells #[.pointer (some ⟨b, 0, none⟩)] 106)).alloc (.cells #[.pointer (some ⟨14, 106, none⟩), .pointer (some ⟨w.heap.size, 0, none⟩), .int .u64 150] 136)).cell? ⟨0, 0, none⟩ = some (.iface 162 (.agg #[.pointer (some ⟨14, 43, none⟩)])) := by
    rw [World.cell?_alloc_lt _ _ ⟨0, 0, none⟩ (by simp; try omega), World.cell?_alloc_lt _ _ ⟨0, 0, none⟩ hgl]; exact hg
  obtain ⟨tx, vx, rfl⟩ := ErrR.iface hn hv
  have bel : Below w.heap.size w ((w.alloc (.cells #[.pointer (some ⟨b, 0, none⟩)] 106)).alloc (.cells #[.pointer (some ⟨14, 106, none⟩), .pointer (some ⟨w.heap.size, 0, none⟩), .int .u64 150] 136)) := ((Below.refl _ _).alloc (Nat.le_refl _) _).alloc (by simp) _
  have key := as_46 t hok hn (.iface tx vx) (.iface 106 (.pointer (some ⟨b, 0, none⟩))) w.heap.size b old ((w.alloc (.cells #[.pointer (some ⟨b, 0, none⟩)] 106)).alloc (.cells #[.pointer (some ⟨14, 106, none⟩), .pointer (some ⟨w.heap.size, 0, none⟩), .int .u64 150] 136)) ok (ErrR.mono (fun b hb => bel.block b (hokb b hb)) (fun _ h => h) _ _ hv) (fun b hb => Nat.lt_of_lt_of_le (hokb b hb) bel.size)
    (c_two _ _ _ _) ((bel.cell (p := ⟨b, 0, none⟩) hbl).trans hb) ((bel.frozen (p := ⟨b, 0, none⟩) hbl).trans hf)
  unfold asNo at key ⊢
  cases hE : errNum t with
  | none =>
    simp only [hE] at key ⊢
    go_enter Tryz.func48, Tryz.ntmps48
    go_wp2_with (go_at_call 70; refine key.mono ?_; rintro e' w' ⟨rfl, hb'⟩)
    go_wp2
    go_ret
    exact ⟨rfl, bel.trans (hb'.mono bel.size)⟩
  | some n =>
    simp only [hE] at key ⊢
    go_enter Tryz.func48, Tryz.ntmps48
    go_wp2_with (go_at_call 70; refine key.mono ?_; rintro e' w' ⟨rfl, hb'⟩)
    go_wp2
    go_ret
    exact ⟨rfl, (below_set bel _ _).trans (hb'.mono (by simpa [World.setCell] using bel.size))⟩
set_option maxHeartbeats 4000000 in
theorem As_56 (t : TErr) (hok : ErrOk eTy t) (v : Value) (b : Nat) (old : Value) (w : World) (ok : Nat → Prop) (hv : ErrR w ok t v) (hokb : ∀ b, ok b → b < w.heap.size)
    (hg : w.cell? ⟨0, 0, none⟩ = some (.iface 162 (.agg #[.pointer (some ⟨14, 43, none⟩)]))) (hb : w.cell? ⟨b, 0, none⟩ = some old) (hf : w.frozen? ⟨b, 0, none⟩ = false) :
    Calls Tryz.prog 48 #[v, .iface 107 (.pointer (some ⟨b, 0, none⟩))] w (asAt eTy t ok b w) := by
  by_cases hn : t = .nil
  · subst hn
    simp only [ErrR] at hv
    subst hv
    go_enter Tryz.func48, Tryz.ntmps48
    go_wp2
    go_ret
    exact ⟨rfl, Below.refl _ _⟩
  have h67 := @run_callFunc_extern Tryz.prog 67 _ (fun args => ReflectliteValue.unpack (args.getD 0 (.tuple #[]))) Tryz.func67 (by kernel_rfl) (by kernel_rfl) (by kernel_rfl) (by kernel_rfl)
  have h68 := @run_callFunc_extern Tryz.prog 68 _ (ReflectliteValue.methodAny (ReflectliteValue.valueError "reflectlite.Value.Type" 0) (fun t _ _ _ => ReflectliteType.toType t)) Tryz.func68 (by kernel_rfl) (by kernel_rfl) (by kernel_rfl) (by kernel_rfl)
  have h69 := @run_callFunc_extern Tryz.prog 69 _ (ReflectliteValue.method (ReflectliteValue.valueError "reflectlite.Value.IsNil" 0) ReflectliteValue.isNil) Tryz.func69 (by kernel_rfl) (by kernel_rfl) (by kernel_rfl) (by kernel_rfl)
  have h145 := @run_callFunc_extern Tryz.prog 145 _ (ReflectliteType.abiMethod fun t => do pure (.int .u8 (← Rtype.kind t))) Tryz.func145 (by kernel_rfl) (by kernel_rfl) (by kernel_rfl) (by kernel_rfl)
  have h163 := @run_callFunc_extern Tryz.prog 163 _ (ReflectliteType.method ReflectliteType.elem) Tryz.func163 (by kernel_rfl) (by kernel_rfl) (by kernel_rfl) (by kernel_rfl)
  have h164 := @run_callFunc_extern Tryz.prog 164 _ (ReflectliteType.relation "Implements" ReflectliteType.implements_) Tryz.func164 (by kernel_rfl) (by kernel_rfl) (by kernel_rfl) (by kernel_rfl)
  have z0 := vO107
  have z1 := ty107
  have z2 := mtKind
  have z3 := mtElem
  have z4 := mtImplements
  have z5 := kd107
  have z6 := kd56
  have z7 := el107
  have z8 := im56
  have hbl := lt_of_cell hb
  have hgl := lt_of_cell hg
  simp only at hbl hgl
  have n8 := nilV107 ⟨w.heap.size, 0, none⟩ ⟨b, 0, none⟩ ((w.alloc (.cells #[.pointer (some ⟨b, 0, none⟩)] 107)).alloc (.cells #[.pointer (some ⟨14, 107, none⟩), .pointer (some ⟨w.heap.size, 0, none⟩), .int .u64 150] 136)) (c_two _ _ _ _)
  have hg2 : ((w.alloc (.cells #[.pointer (some ⟨b, 0, none⟩)] 107)).alloc (.cells #[.pointer (some ⟨14, 107, none⟩), .pointer (some ⟨w.heap.size, 0, none⟩), .int .u64 150] 136)).cell? ⟨0, 0, none⟩ = some (.iface 162 (.agg #[.pointer (some ⟨14, 43, none⟩)])) := by
    rw [World.cell?_alloc_lt _ _ ⟨0, 0, none⟩ (by simp; try omega), World.cell?_alloc_lt _ _ ⟨0, 0, none⟩ hgl]; exact hg
  obtain ⟨tx, vx, rfl⟩ := ErrR.iface hn hv
  have bel : Below w.heap.size w ((w.alloc (.cells #[.pointer (some ⟨b, 0, none⟩)] 107)).alloc (.cells #[.pointer (some ⟨14, 107, none⟩), .pointer (some ⟨w.heap.size, 0, none⟩), .int .u64 150] 136)) := ((Below.refl _ _).alloc (Nat.le_refl _) _).alloc (by simp) _
  have key := as_56 t hok hn (.iface tx vx) (.iface 107 (.pointer (some ⟨b, 0, none⟩))) w.heap.size b old ((w.alloc (.cells #[.pointer (some ⟨b, 0, none⟩)] 107)).alloc (.cells #[.pointer (some ⟨14, 107, none⟩), .pointer (some ⟨w.heap.size, 0, none⟩), .int .u64 150] 136)) ok (ErrR.mono (fun b hb => bel.block b (hokb b hb)) (fun _ h => h) _ _ hv) (fun b hb => Nat.lt_of_lt_of_le (hokb b hb) bel.size)
    (c_two _ _ _ _) ((bel.cell (p := ⟨b, 0, none⟩) hbl).trans hb) ((bel.frozen (p := ⟨b, 0, none⟩) hbl).trans hf)
  unfold asAt at key ⊢
  cases hE : errAt eTy t with
  | none =>
    simp only [hE] at key ⊢
    go_enter Tryz.func48, Tryz.ntmps48
    go_wp2_with (go_at_call 70; refine key.mono ?_; rintro e' w' ⟨rfl, hb'⟩)
    go_wp2
    go_ret
    exact ⟨rfl, bel.trans (hb'.mono bel.size)⟩
  | some n =>
    simp only [hE] at key ⊢
    go_enter Tryz.func48, Tryz.ntmps48
    go_wp2_with (go_at_call 70; refine key.mono ?_; rintro e' w' ⟨rfl, p, hop, hb', hp⟩)
    go_wp2
    go_ret
    exact ⟨rfl, p, hop, (below_set bel _ _).trans (hb'.mono (by simpa [World.setCell] using bel.size)), (bel.cell (p := ⟨p, 0, none⟩) (hokb p hop)).symm.trans hp⟩
end Go.Proofs
