/- errors.is and errors.Is walked, at a number: printed by a program of ours. Conditions: none but those that each theorem states. -/
import Derived.Test.YtfaaeeabiikhbaaGreatDoorErrWb
namespace Go.Proofs
open Go.RowKit Go.Extern.Stop Go.Stop Go.Extern Go.Tr
set_option maxRecDepth 100000
set_option linter.unusedVariables false
set_option linter.unusedSimpArgs false
set_option maxHeartbeats 4000000 in
theorem is_walk (t : TErr) (hok : ErrOk eTy t) (hn : t ≠ .nil) (v : Value) (m : Int) (w : World) (ok : Nat → Prop) (hv : ErrR w ok t v) (hokb : ∀ b, ok b → b < w.heap.size) :
    Calls Tryz.prog 72 #[v, .iface 46 (.int .i64 m), .bool true] w fun e w' => e = .returned (.bool (errIs eTy t m)) ∧ w' = w := by
  have z0 := asIs46
  have z1 := asIs56
  have z2 := asIs89
  have z3 := asIs147
  have z4 := asIs113
  have z5 := asUn46
  have z6 := asUn56
  have z7 := asUn89
  have z8 := asUn147
  have z9 := asUn113
  have z10 := asUs46
  have z11 := asUs56
  have z12 := asUs89
  have z13 := asUs147
  have z14 := asUs113
  have z15 := mU56
  have z16 := mU89
  have z17 := mU147
  have z18 := eq56
  have z19 := eq89
  have z20 := eq147
  have z21 := eq113
  go_enter Tryz.func72, Tryz.ntmps72
  go_wp2
  go_loopg [0] t.sz (fun k v wr => w = wr ∧ ∃ t', t'.sz = k ∧ ErrOk eTy t' ∧ t' ≠ .nil ∧ ErrR w ok t' v ∧ Hid (errIs eTy t' m = errIs eTy t m))
  case atStart => exact ⟨rfl, t, rfl, hok, hn, hv, rfl⟩
  case round =>
    obtain ⟨rfl, t', hk, hok', hn', hv', hfn⟩ := hrel
    cases t' with
    | nil => exact absurd rfl hn'
    | num ty k n =>
      obtain ⟨rfl, rfl, hn1, hn2⟩ := hok'
      simp only [ErrR] at hv'
      subst hv'
      have e0 := eqN n m
      cases hnm : (n == m) with
      | true =>
        rw [hnm] at e0
        have r : Hid (errIs eTy t m = true) := by have := (show _ = _ from hfn); unfold Hid; rw [← this]; simp [errIs, hnm]
        clear hnm hfn
        simp only [eTy]
        go_wp2
        go_ret
        exact ⟨by rw [show errIs eTy t m = true from r]; rfl, rfl⟩
      | false =>
        rw [hnm] at e0
        have r : Hid (errIs eTy t m = false) := by have := (show _ = _ from hfn); unfold Hid; rw [← this]; simp [errIs, hnm]
        clear hnm hfn
        simp only [eTy]
        go_wp2
        go_ret
        exact ⟨by rw [show errIs eTy t m = false from r]; rfl, rfl⟩
    | any ty =>
      simp only [ErrOk, eTy, List.mem_cons, List.not_mem_nil, or_false] at hok'
      subst hok'
      simp only [ErrR] at hv'
      obtain ⟨x, rfl⟩ := hv'
      have r : Hid (errIs eTy t m = false) := by have := (show _ = _ from hfn); unfold Hid; rw [← this]; simp [errIs]
      clear hfn
      go_wp2
      go_ret
      exact ⟨by rw [show errIs eTy t m = false from r]; rfl, rfl⟩
    | at' ty n e =>
      obtain ⟨hty, hn1, hne, hoe⟩ := hok'
      simp only [eTy] at hty
      subst hty
      simp only [ErrR] at hv'
      obtain ⟨b', x, rfl, hb', row, hx⟩ := hv'
      have c1 : w.cell? ⟨b', 1, none⟩ = some x := by simpa using row 1 (by simp)
      obtain ⟨tx, vx, rfl⟩ := ErrR.iface hne hx
      go_wp2_with (go_at_call 150; refine (cU56 b' _ _ c1).mono ?_; rintro e' w' ⟨rfl, rfl⟩)
      go_wp2
      go_roundg e.sz
      case measure => rw [← hk]; exact Nat.lt_succ_self _
      case rel => exact ⟨rfl, e, rfl, hoe, hne, hx, hfn⟩
    | of' ty s e =>
      obtain ⟨hty, hne, hoe⟩ := hok'
      simp only [eTy, List.mem_cons, List.not_mem_nil, or_false] at hty
      rcases hty with rfl | rfl
      · simp only [ErrR] at hv'
        obtain ⟨b', x, rfl, hb', row, hx⟩ := hv'
        have c1 : w.cell? ⟨b', 1, none⟩ = some x := by simpa using row 1 (by simp)
        obtain ⟨tx, vx, rfl⟩ := ErrR.iface hne hx
        go_wp2_with (go_at_call 152; refine (cU89 b' _ _ c1).mono ?_; rintro e' w' ⟨rfl, rfl⟩)
        go_wp2
        go_roundg e.sz
        case measure => rw [← hk]; exact Nat.lt_succ_self _
        case rel => exact ⟨rfl, e, rfl, hoe, hne, hx, hfn⟩
      · simp only [ErrR] at hv'
        obtain ⟨b', x, rfl, hb', row, hx⟩ := hv'
        have c1 : w.cell? ⟨b', 1, none⟩ = some x := by simpa using row 1 (by simp)
        obtain ⟨tx, vx, rfl⟩ := ErrR.iface hne hx
        go_wp2_with (go_at_call 158; refine (cU147 b' _ _ c1).mono ?_; rintro e' w' ⟨rfl, rfl⟩)
        go_wp2
        go_roundg e.sz
        case measure => rw [← hk]; exact Nat.lt_succ_self _
        case rel => exact ⟨rfl, e, rfl, hoe, hne, hx, hfn⟩
set_option maxHeartbeats 4000000 in
theorem Is_walk (t : TErr) (hok : ErrOk eTy t) (v : Value) (m : Int) (w : World) (ok : Nat → Prop) (hv : ErrR w ok t v) (hokb : ∀ b, ok b → b < w.heap.size) :
    Calls Tryz.prog 52 #[v, .iface 46 (.int .i64 m)] w fun e w' => e = .returned (.bool (errIs eTy t m)) ∧ w' = w := by
  by_cases hn : t = .nil
  · subst hn
    simp only [ErrR] at hv
    subst hv
    have e0 := eqNil m
    go_enter Tryz.func52, Tryz.ntmps52
    go_wp2
    go_ret
    exact ⟨rfl, rfl⟩
  have h71 := @run_callFunc_extern Tryz.prog 71 _ ReflectliteType.typeOf Tryz.func71 (by kernel_rfl) (by kernel_rfl) (by kernel_rfl) (by kernel_rfl)
  have h162 := @run_callFunc_extern Tryz.prog 162 _ cmpE Tryz.func162 (by kernel_rfl) (by kernel_rfl) (by kernel_rfl) (by kernel_rfl)
  have z0 := tO46
  have z1 := mtComparable
  have z2 := cmp46
  have key := is_walk t hok hn v m w ok hv hokb
  obtain ⟨tx, vx, rfl⟩ := ErrR.iface hn hv
  go_enter Tryz.func52, Tryz.ntmps52
  go_wp2_with (go_at_call 72; refine key.mono ?_; rintro e' w' ⟨rfl, rfl⟩)
  go_wp2
  go_ret
  exact ⟨rfl, rfl⟩
end Go.Proofs
