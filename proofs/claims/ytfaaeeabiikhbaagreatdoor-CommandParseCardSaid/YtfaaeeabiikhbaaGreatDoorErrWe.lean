/- command.Where, lines.Place, lines.Number walked: printed by a program of ours. Conditions: none but those that each theorem states. -/
import Derived.Test.YtfaaeeabiikhbaaGreatDoorErrWc
import Derived.Deep.Cut
import Derived.Deep.QuietTactic
import Derived.BigQuiet
import Derived.OwnWalk
namespace Go.Proofs
open Go.RowKit Go.Extern.Stop Go.Stop Go.Extern Go.Tr
set_option maxRecDepth 100000
set_option linter.unusedVariables false
set_option linter.unusedSimpArgs false
theorem set_cell_ne (w : World) {a : Addr} {b : Addr} (u : Value) (h : b.block ≠ a.block) : (w.setCell a u).cell? b = w.cell? b :=
  World.cell?_of_block (w := w) (Below.heap_setCell w a u b.block h)
theorem set_cell_at {w : World} {b : Nat} {o : Value} (h : w.cell? ⟨b, 0, none⟩ = some o) (u : Value) : (w.setCell ⟨b, 0, none⟩ u).cell? ⟨b, 0, none⟩ = some u := by
  exact World.cell?_setCell_same' w _ u (by simp [h])
theorem set_bel (w : World) (b : Nat) (u : Value) : Below b w (w.setCell ⟨b, 0, none⟩ u) := Below.setCell (p := ⟨b, 0, none⟩) (Below.refl _ _) (Nat.le_refl _) _
set_option maxHeartbeats 4000000 in
theorem Where_key1 (t : TErr) (hok : ErrOk eTy t) (v : Value) (w : World) (ok : Nat → Prop) (hv : ErrR w ok t v) (hokb : ∀ b, ok b → b < w.heap.size)
    (hg : w.cell? ⟨0, 0, none⟩ = some (.iface 162 (.agg #[.pointer (some ⟨14, 43, none⟩)]))) : Calls Tryz.prog 48 #[v, .iface 106 (.pointer (some ⟨w.heap.size + 1, 0, none⟩))] ((w.alloc (.cells #[.pointer none] 56)).alloc (.cells #[.int .i64 0] 46)) fun e w' => ∃ r, e = .returned (.bool r) ∧ Below w.heap.size w w' ∧ w'.cell? ⟨w.heap.size, 0, none⟩ = some (.pointer none) ∧ w'.frozen? ⟨w.heap.size, 0, none⟩ = false ∧ w'.cell? ⟨w.heap.size + 1, 0, none⟩ = some (.int .i64 ((errNum t).getD 0)) ∧ w.heap.size + 2 ≤ w'.heap.size := by
  have hgl := lt_of_cell hg
  simp only at hgl
  have bel : Below w.heap.size w ((w.alloc (.cells #[.pointer none] 56)).alloc (.cells #[.int .i64 0] 46)) := ((Below.refl _ _).alloc (Nat.le_refl _) _).alloc (by simp) _
  have hc0 : ((w.alloc (.cells #[.pointer none] 56)).alloc (.cells #[.int .i64 0] 46)).cell? ⟨w.heap.size, 0, none⟩ = some (.pointer none) := c_two _ _ _ _
  have hf0 : ((w.alloc (.cells #[.pointer none] 56)).alloc (.cells #[.int .i64 0] 46)).frozen? ⟨w.heap.size, 0, none⟩ = false := by rw [frz_alloc (by simp)]; simp
  have key := As_46 t hok v (w.heap.size + 1) (.int .i64 0) ((w.alloc (.cells #[.pointer none] 56)).alloc (.cells #[.int .i64 0] 46)) ok (ErrR.mono (fun b hb => bel.block b (hokb b hb)) (fun _ h => h) _ _ hv) (fun b hb => Nat.lt_of_lt_of_le (hokb b hb) bel.size) ((bel.cell (p := ⟨0, 0, none⟩) hgl).trans hg) (by rw [World.cell?_alloc_at _ _ _ _ (by simp)]; rfl) (by simp)
  unfold asNo at key
  cases hE : errNum t with
  | none =>
    simp only [hE] at key
    refine key.mono ?_
    rintro e w' ⟨rfl, hb⟩
    exact ⟨_, rfl, bel.trans (hb.mono bel.size), (hb.cell (by simp; try omega)).trans hc0, (hb.frozen (by simp; try omega)).trans hf0, (hb.cell (by simp)).trans (by rw [World.cell?_alloc_at _ _ _ _ (by simp)]; rfl), Nat.le_trans (by simp) hb.size⟩
  | some n =>
    simp only [hE] at key
    refine key.mono ?_
    rintro e w' ⟨rfl, hb⟩
    have b2 : Below (w.heap.size + 1) ((w.alloc (.cells #[.pointer none] 56)).alloc (.cells #[.int .i64 0] 46)) (((w.alloc (.cells #[.pointer none] 56)).alloc (.cells #[.int .i64 0] 46)).setCell ⟨w.heap.size + 1, 0, none⟩ (.int .i64 n)) := set_bel _ _ _
    have hs : ((w.alloc (.cells #[.pointer none] 56)).alloc (.cells #[.int .i64 0] 46)).heap.size = w.heap.size + 2 := by simp
    exact ⟨_, rfl, (bel.trans (b2.mono (Nat.le_succ _))).trans (hb.mono bel.size), (hb.cell (by simp; try omega)).trans ((b2.cell (p := ⟨w.heap.size, 0, none⟩) (Nat.lt_succ_self _)).trans hc0), (hb.frozen (by simp; try omega)).trans ((b2.frozen (p := ⟨w.heap.size, 0, none⟩) (Nat.lt_succ_self _)).trans hf0),
      (hb.cell (by simp)).trans (set_cell_at (o := .int .i64 0) (by rw [World.cell?_alloc_at _ _ _ _ (by simp)]; rfl) _), Nat.le_trans (by simp [World.setCell]) hb.size⟩
theorem Where_key2 (t : TErr) (hok : ErrOk eTy t) (v : Value) (w : World) (ok : Nat → Prop) (hv : ErrR w ok t v) (hokb : ∀ b, ok b → b < w.heap.size)
    (hg : w.cell? ⟨0, 0, none⟩ = some (.iface 162 (.agg #[.pointer (some ⟨14, 43, none⟩)]))) : ∀ w1, Below w.heap.size w w1 → w1.cell? ⟨w.heap.size, 0, none⟩ = some (.pointer none) → w1.frozen? ⟨w.heap.size, 0, none⟩ = false → w1.cell? ⟨w.heap.size + 1, 0, none⟩ = some (.int .i64 ((errNum t).getD 0)) → w.heap.size + 2 ≤ w1.heap.size → Calls Tryz.prog 48 #[v, .iface 107 (.pointer (some ⟨w.heap.size, 0, none⟩))] w1 fun e w' =>
      (match errAt eTy t with
        | none => e = .returned (.bool false)
        | some n => e = .returned (.bool true) ∧ ∃ p, w'.cell? ⟨w.heap.size, 0, none⟩ = some (.pointer (some ⟨p, 0, none⟩)) ∧ w'.cell? ⟨p, 0, none⟩ = some (.int .i64 n)) ∧ w'.cell? ⟨w.heap.size + 1, 0, none⟩ = some (.int .i64 ((errNum t).getD 0)) ∧ Below w.heap.size w w' := by
  have hgl := lt_of_cell hg
  simp only at hgl
  intro w1 b1 c1 f1 d1 hsz
  have key := As_56 t hok v w.heap.size (.pointer none) w1 ok (ErrR.mono (fun b hb => b1.block b (hokb b hb)) (fun _ h => h) _ _ hv) (fun b hb => Nat.lt_of_lt_of_le (hokb b hb) b1.size) ((b1.cell (p := ⟨0, 0, none⟩) hgl).trans hg) c1 f1
  unfold asAt at key
  refine key.mono ?_
  intro e w' hq
  cases hE : errAt eTy t with
  | none =>
    simp only [hE] at hq ⊢
    obtain ⟨rfl, hb⟩ := hq
    exact ⟨rfl, (hb.cell (p := ⟨w.heap.size + 1, 0, none⟩) (by show w.heap.size + 1 < _; omega)).trans d1, b1.trans (hb.mono b1.size)⟩
  | some n =>
    simp only [hE] at hq ⊢
    obtain ⟨rfl, p, hp, hb, hpc⟩ := hq
    have hpl := hokb p hp
    have b2 : Below w.heap.size w1 (w1.setCell ⟨w.heap.size, 0, none⟩ (.pointer (some ⟨p, 0, none⟩))) := set_bel _ _ _
    refine ⟨⟨rfl, p, (hb.cell (p := ⟨w.heap.size, 0, none⟩) (by show w.heap.size < _; omega)).trans (set_cell_at c1 _), (hb.cell (p := ⟨p, 0, none⟩) (by show p < _; omega)).trans ((b2.cell (p := ⟨p, 0, none⟩) hpl).trans hpc)⟩,
      (hb.cell (p := ⟨w.heap.size + 1, 0, none⟩) (by show w.heap.size + 1 < _; omega)).trans ((set_cell_ne w1 _ (by intro h; simp at h)).trans d1), (b1.trans b2).trans (hb.mono b1.size)⟩
set_option maxHeartbeats 4000000 in
theorem Where_walk (t : TErr) (hok : ErrOk eTy t) (v : Value) (w : World) (ok : Nat → Prop) (hv : ErrR w ok t v) (hokb : ∀ b, ok b → b < w.heap.size)
    (hg : w.cell? ⟨0, 0, none⟩ = some (.iface 162 (.agg #[.pointer (some ⟨14, 43, none⟩)]))) : Calls Tryz.prog 17 #[v] w fun e w' => (match errAt eTy t with
    | none => e = .returned (.tuple #[.int .i64 0, .int .i64 (errNo eTy t), .bool false])
    | some n => e = .returned (.tuple #[.int .i64 n, .int .i64 (errNo eTy t), .bool true])) ∧ Below w.heap.size w w' := by
  rw [errNo_num hok]
  cases hE : errAt eTy t with
  | none =>
    go_enter Tryz.func17, Tryz.ntmps17
    go_upto_region 4 with (go_at_call 48; refine (Where_key1 t hok v w ok hv hokb hg).mono ?_; rintro e' w' ⟨r, rfl, hb1, hc1, hf1, hd1, hs1⟩)
    go_upto_region 5 with (go_at_call 48; refine (Where_key2 t hok v w ok hv hokb hg _ hb1 hc1 hf1 hd1 hs1).mono ?_; rintro e' w'' hq; simp only [hE] at hq; obtain ⟨rfl, hd2, hb2⟩ := hq)
    go_quiet (fail)
    go_wp2
    go_ret3
    exact ⟨rfl, hb2.trans ⟨rfl, rfl, rfl, Nat.le_refl _, fun _ _ => rfl⟩⟩
  | some n =>
    go_enter Tryz.func17, Tryz.ntmps17
    go_upto_region 4 with (go_at_call 48; refine (Where_key1 t hok v w ok hv hokb hg).mono ?_; rintro e' w' ⟨r, rfl, hb1, hc1, hf1, hd1, hs1⟩)
    go_upto_region 6 with (go_at_call 48; refine (Where_key2 t hok v w ok hv hokb hg _ hb1 hc1 hf1 hd1 hs1).mono ?_; rintro e' w'' hq; simp only [hE] at hq; obtain ⟨⟨rfl, p, hp1, hp2⟩, hd2, hb2⟩ := hq)
    go_quiet (fail)
    go_wp2
    go_ret3
    exact ⟨rfl, hb2.trans ⟨rfl, rfl, rfl, Nat.le_refl _, fun _ _ => rfl⟩⟩
end Go.Proofs
