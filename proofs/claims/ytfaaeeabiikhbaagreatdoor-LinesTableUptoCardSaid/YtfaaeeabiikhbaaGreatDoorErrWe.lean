/- command.Where, lines.Place, lines.Number walked: printed by a program of ours. Conditions: none but those that each theorem states. -/
import Derived.Test.YtfaaeeabiikhbaaGreatDoorErrWc
import Derived.Deep.Cut
import Derived.Deep.QuietTactic
import Derived.BigQuiet
import Derived.OwnWalk
namespace Go.Proofs
open Go.RowKit Go.Extern.Stop Go.Stop Go.Extern Go.Tr
set_option maxRecDepth 100000
set_option linter.unusedVariables false
set_option linter.unusedSimpArgs false
theorem set_cell_at {w : World} {b : Nat} {o : Value} (h : w.cell? ⟨b, 0, none⟩ = some o) (u : Value) : (w.setCell ⟨b, 0, none⟩ u).cell? ⟨b, 0, none⟩ = some u := by
  exact World.cell?_setCell_same' w _ u (by simp [h])
theorem set_bel (w : World) (b : Nat) (u : Value) : Below b w (w.setCell ⟨b, 0, none⟩ u) := Below.setCell (p := ⟨b, 0, none⟩) (Below.refl _ _) (Nat.le_refl _) _
set_option maxHeartbeats 4000000 in
theorem Number_walk (t : TErr) (hok : ErrOk eTy t) (v : Value) (w : World) (ok : Nat → Prop) (hv : ErrR w ok t v) (hokb : ∀ b, ok b → b < w.heap.size)
    (hg : w.cell? ⟨0, 0, none⟩ = some (.iface 162 (.agg #[.pointer (some ⟨14, 43, none⟩)]))) : Calls Tryz.prog 23 #[v] w fun e w' => e = .returned (.int .i64 (errNo eTy t)) ∧ Below w.heap.size w w' := by
  have hgl := lt_of_cell hg
  simp only at hgl
  have bel : Below w.heap.size w (w.alloc (.cells #[.int .i64 0] 46)) := (Below.refl _ _).alloc (Nat.le_refl _) _
  have key := As_46 t hok v w.heap.size (.int .i64 0) (w.alloc (.cells #[.int .i64 0] 46)) ok (ErrR.mono (fun b hb => bel.block b (hokb b hb)) (fun _ h => h) _ _ hv) (fun b hb => Nat.lt_of_lt_of_le (hokb b hb) bel.size) ((bel.cell (p := ⟨0, 0, none⟩) hgl).trans hg) (by simp) (by simp)
  rw [errNo_num hok]
  unfold asNo at key
  cases hE : errNum t with
  | none =>
    simp only [hE] at key
    go_enter Tryz.func23, Tryz.ntmps23
    go_wp2_with (go_at_call 48; refine key.mono ?_; rintro e' w' ⟨rfl, hb'⟩; have hc : w'.cell? ⟨w.heap.size, 0, none⟩ = some (.int .i64 0) := (hb'.cell (by simp)).trans (by simp))
    go_wp2
    go_ret
    exact ⟨rfl, bel.trans (hb'.mono bel.size)⟩
  | some n =>
    simp only [hE] at key
    go_enter Tryz.func23, Tryz.ntmps23
    go_wp2_with (go_at_call 48; refine key.mono ?_; rintro e' w' ⟨rfl, hb'⟩; have hc : w'.cell? ⟨w.heap.size, 0, none⟩ = some (.int .i64 n) := (hb'.cell (by simp)).trans (set_cell_at (o := .int .i64 0) (by simp) _))
    go_wp2
    go_ret
    exact ⟨rfl, (bel.trans (set_bel _ _ _)).trans (hb'.mono bel.size)⟩
set_option maxHeartbeats 4000000 in
theorem Place_walk (t : TErr) (hok : ErrOk eTy t) (v : Value) (w : World) (ok : Nat → Prop) (hv : ErrR w ok t v) (hokb : ∀ b, ok b → b < w.heap.size)
    (hg : w.cell? ⟨0, 0, none⟩ = some (.iface 162 (.agg #[.pointer (some ⟨14, 43, none⟩)]))) : Calls Tryz.prog 22 #[v] w fun e w' => (match errAt eTy t with
    | none => e = .returned (.tuple #[.int .i64 0, .bool false])
    | some n => e = .returned (.tuple #[.int .i64 n, .bool true])) ∧ Below w.heap.size w w' := by
  have hgl := lt_of_cell hg
  simp only at hgl
  have bel : Below w.heap.size w (w.alloc (.cells #[.pointer none] 56)) := (Below.refl _ _).alloc (Nat.le_refl _) _
  have key := As_56 t hok v w.heap.size (.pointer none) (w.alloc (.cells #[.pointer none] 56)) ok (ErrR.mono (fun b hb => bel.block b (hokb b hb)) (fun _ h => h) _ _ hv) (fun b hb => Nat.lt_of_lt_of_le (hokb b hb) bel.size) ((bel.cell (p := ⟨0, 0, none⟩) hgl).trans hg) (by simp) (by simp)
  unfold asAt at key
  cases hE : errAt eTy t with
  | none =>
    simp only [hE] at key
    go_enter Tryz.func22, Tryz.ntmps22
    go_wp2_with (go_at_call 48; refine key.mono ?_; rintro e' w' ⟨rfl, hb'⟩)
    go_wp2
    go_ret2
    exact ⟨rfl, bel.trans (hb'.mono bel.size)⟩
  | some n =>
    simp only [hE] at key
    go_enter Tryz.func22, Tryz.ntmps22
    go_wp2_with (go_at_call 48; refine key.mono ?_; rintro e' w' ⟨rfl, p, hp, hb', hpc⟩; have hpl := hokb p hp; have hc : w'.cell? ⟨w.heap.size, 0, none⟩ = some (.pointer (some ⟨p, 0, none⟩)) := (hb'.cell (by simp)).trans (set_cell_at (o := .pointer none) (by simp) _); have hd : w'.cell? ⟨p, 0, none⟩ = some (.int .i64 n) := (hb'.cell (p := ⟨p, 0, none⟩) (by simp; omega)).trans (((set_bel _ w.heap.size _).cell (p := ⟨p, 0, none⟩) hpl).trans hpc))
    go_wp2
    go_ret2
    exact ⟨rfl, (bel.trans (set_bel _ _ _)).trans (hb'.mono bel.size)⟩
end Go.Proofs
