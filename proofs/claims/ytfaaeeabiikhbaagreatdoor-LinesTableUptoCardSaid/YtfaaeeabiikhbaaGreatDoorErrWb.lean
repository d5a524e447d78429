/- errors.as walked, at a number and at a fault: printed by a program of ours. Conditions: none but those that each theorem states. -/
import Derived.Test.YtfaaeeabiikhbaaGreatDoorErrWa
namespace Go.Proofs
open Go.RowKit Go.Extern.Stop Go.Stop Go.Extern Go.Tr
set_option maxRecDepth 100000
set_option linter.unusedVariables false
set_option linter.unusedSimpArgs false
theorem frz_alloc {w : World} {o : Obj} {a : Addr} (h : a.block < w.heap.size) : (w.alloc o).frozen? a = w.frozen? a := World.frozen?_alloc_old _ _ a (Nat.ne_of_lt h)
theorem lt_of_cell {w : World} {a : Addr} {v : Value} (h : w.cell? a = some v) : a.block < w.heap.size := by
  rcases Nat.lt_or_ge a.block w.heap.size with h1 | h1
  · exact h1
  · simp [World.cell?, Array.getElem?_eq_none h1] at h
def asNo (t : TErr) (b : Nat) (w : World) (e : Ending) (w' : World) : Prop :=
  match errNum t with
  | none => e = .returned (.bool false) ∧ Below w.heap.size w w'
  | some n => e = .returned (.bool true) ∧ Below w.heap.size (w.setCell ⟨b, 0, none⟩ (.int .i64 n)) w'
def asAt (T : ETy) (t : TErr) (ok : Nat → Prop) (b : Nat) (w : World) (e : Ending) (w' : World) : Prop :=
  match errAt T t with
  | none => e = .returned (.bool false) ∧ Below w.heap.size w w'
  | some n => e = .returned (.bool true) ∧ ∃ p, ok p ∧ Below w.heap.size (w.setCell ⟨b, 0, none⟩ (.pointer (some ⟨p, 0, none⟩))) w' ∧ w.cell? ⟨p, 0, none⟩ = some (.int .i64 n)
set_option maxHeartbeats 4000000 in
theorem as_46 (t : TErr) (hok : ErrOk eTy t) (hn : t ≠ .nil) (v tgt : Value) (A b : Nat) (old : Value) (w : World) (ok : Nat → Prop) (hv : ErrR w ok t v) (hokb : ∀ b, ok b → b < w.heap.size)
    (hA : w.cell? ⟨A, 0, none⟩ = some (.pointer (some ⟨b, 0, none⟩))) (hb : w.cell? ⟨b, 0, none⟩ = some old) (hf : w.frozen? ⟨b, 0, none⟩ = false) :
    Calls Tryz.prog 70 #[v, tgt, .agg #[.pointer (some ⟨14, 106, none⟩), .pointer (some ⟨A, 0, none⟩), .int .u64 150], .iface 162 (.agg #[.pointer (some ⟨14, 46, none⟩)])] w (asNo t b w) := by
  have h71 := @run_callFunc_extern Tryz.prog 71 _ ReflectliteType.typeOf Tryz.func71 (by kernel_rfl) (by kernel_rfl) (by kernel_rfl) (by kernel_rfl)
  have h161 := @run_callFunc_extern Tryz.prog 161 _ (ReflectliteType.relation "AssignableTo" ReflectliteType.assignableTo) Tryz.func161 (by kernel_rfl) (by kernel_rfl) (by kernel_rfl) (by kernel_rfl)
  have h85 := @run_callFunc_extern Tryz.prog 85 _ (ReflectliteValue.method (ReflectliteValue.valueError "reflectlite.Value.Elem" 0) ReflectliteValue.elem) Tryz.func85 (by kernel_rfl) (by kernel_rfl) (by kernel_rfl) (by kernel_rfl)
  have h67 := @run_callFunc_extern Tryz.prog 67 _ (fun args => ReflectliteValue.unpack (args.getD 0 (.tuple #[]))) Tryz.func67 (by kernel_rfl) (by kernel_rfl) (by kernel_rfl) (by kernel_rfl)
  have h86 := @run_callFunc_extern Tryz.prog 86 _ ReflectliteValue.set Tryz.func86 (by kernel_rfl) (by kernel_rfl) (by kernel_rfl) (by kernel_rfl)
  have z0 := tO46
  have z1 := tO56
  have z2 := tO89
  have z3 := tO147
  have z4 := tO113
  have z5 := mtAssignableTo
  have z6 := asg46_46
  have z7 := asg56_46
  have z8 := asg89_46
  have z9 := asg147_46
  have z10 := asg113_46
  have z11 := asAs46
  have z12 := asAs56
  have z13 := asAs89
  have z14 := asAs147
  have z15 := asAs113
  have z16 := asUn46
  have z17 := asUn56
  have z18 := asUn89
  have z19 := asUn147
  have z20 := asUn113
  have z21 := asUs46
  have z22 := asUs56
  have z23 := asUs89
  have z24 := asUs147
  have z25 := asUs113
  have z26 := mU56
  have z27 := mU89
  have z28 := mU147
  have z29 := vO46
  have hAl := lt_of_cell hA
  have hbl := lt_of_cell hb
  simp only at hAl hbl
  have el := elV106 ⟨A, 0, none⟩ ⟨b, 0, none⟩ (w.alloc (.cells #[.pointer (some ⟨14, 106, none⟩), .pointer (some ⟨A, 0, none⟩), .int .u64 150] 136)) (by rw [World.cell?_alloc_lt _ _ ⟨A, 0, none⟩ hAl]; exact hA)
  go_enter Tryz.func70, Tryz.ntmps70
  go_wp2
  go_loopg [0] t.sz (fun k v wr => wr = w.alloc (.cells #[.pointer (some ⟨14, 106, none⟩), .pointer (some ⟨A, 0, none⟩), .int .u64 150] 136) ∧ ∃ t', t'.sz = k ∧ ErrOk eTy t' ∧ t' ≠ .nil ∧ ErrR w ok t' v ∧ errNum t' = errNum t)
  case atStart => exact ⟨rfl, t, rfl, hok, hn, hv, rfl⟩
  case round =>
    obtain ⟨rfl, t', hk, hok', hn', hv', hfn⟩ := hrel
    cases t' with
    | nil => exact absurd rfl hn'
    | num ty k n =>
      obtain ⟨rfl, rfl, hn1, hn2⟩ := hok'
      simp only [ErrR] at hv'
      subst hv'
      simp only [errNum] at hfn
      have st := set46 ⟨b, 0, none⟩ ⟨w.heap.size + 1, 0, none⟩ n old ((w.alloc (.cells #[.pointer (some ⟨14, 106, none⟩), .pointer (some ⟨A, 0, none⟩), .int .u64 150] 136)).alloc (.cells #[.int .i64 n] 46))
        (by rw [World.cell?_alloc_at _ _ _ _ (by simp)]; rfl) (by rw [World.cell?_alloc_lt _ _ ⟨b, 0, none⟩ (by simp; omega), World.cell?_alloc_lt _ _ ⟨b, 0, none⟩ hbl]; exact hb) (by rw [frz_alloc (by simp; omega), frz_alloc hbl]; exact hf)
      simp only [eTy] at *
      go_wp2
      go_ret
      unfold asNo
      rw [← hfn]
      exact ⟨rfl, ((Below.refl _ _).alloc (by simp) _).alloc (by simp; try omega) _⟩
    | any ty =>
      simp only [ErrOk, eTy, List.mem_cons, List.not_mem_nil, or_false] at hok'
      subst hok'
      simp only [ErrR] at hv'
      obtain ⟨x, rfl⟩ := hv'
      simp only [errNum] at hfn
      simp only [eTy] at *
      go_wp2
      go_ret
      unfold asNo
      rw [← hfn]
      exact ⟨rfl, (Below.refl _ _).alloc (Nat.le_refl _) _⟩
    | at' ty n e =>
      obtain ⟨hty, hn1, hne, hoe⟩ := hok'
      simp only [eTy] at hty
      subst hty
      simp only [ErrR] at hv'
      obtain ⟨b', x, rfl, hb', row, hx⟩ := hv'
      simp only [errNum] at hfn
      have c1 : (w.alloc (.cells #[.pointer (some ⟨14, 106, none⟩), .pointer (some ⟨A, 0, none⟩), .int .u64 150] 136)).cell? ⟨b', 1, none⟩ = some x := by
        rw [World.cell?_alloc_lt _ _ ⟨b', 1, none⟩ (hokb b' hb')]; simpa using row 1 (by simp)
      obtain ⟨tx, vx, rfl⟩ := ErrR.iface hne hx
      go_wp2_with (go_at_call 150; refine (cU56 b' _ _ c1).mono ?_; rintro e' w' ⟨rfl, rfl⟩)
      go_wp2
      go_roundg e.sz
      case measure => rw [← hk]; exact Nat.lt_succ_self _
      case rel => exact ⟨rfl, e, rfl, hoe, hne, hx, hfn⟩
    | of' ty s e =>
      obtain ⟨hty, hne, hoe⟩ := hok'
      simp only [eTy, List.mem_cons, List.not_mem_nil, or_false] at hty
      simp only [errNum] at hfn
      rcases hty with rfl | rfl
      · simp only [ErrR] at hv'
        obtain ⟨b', x, rfl, hb', row, hx⟩ := hv'
        have c1 : (w.alloc (.cells #[.pointer (some ⟨14, 106, none⟩), .pointer (some ⟨A, 0, none⟩), .int .u64 150] 136)).cell? ⟨b', 1, none⟩ = some x := by
          rw [World.cell?_alloc_lt _ _ ⟨b', 1, none⟩ (hokb b' hb')]; simpa using row 1 (by simp)
        obtain ⟨tx, vx, rfl⟩ := ErrR.iface hne hx
        go_wp2_with (go_at_call 152; refine (cU89 b' _ _ c1).mono ?_; rintro e' w' ⟨rfl, rfl⟩)
        go_wp2
        go_roundg e.sz
        case measure => rw [← hk]; exact Nat.lt_succ_self _
        case rel => exact ⟨rfl, e, rfl, hoe, hne, hx, hfn⟩
      · simp only [ErrR] at hv'
        obtain ⟨b', x, rfl, hb', row, hx⟩ := hv'
        have c1 : (w.alloc (.cells #[.pointer (some ⟨14, 106, none⟩), .pointer (some ⟨A, 0, none⟩), .int .u64 150] 136)).cell? ⟨b', 1, none⟩ = some x := by
          rw [World.cell?_alloc_lt _ _ ⟨b', 1, none⟩ (hokb b' hb')]; simpa using row 1 (by simp)
        obtain ⟨tx, vx, rfl⟩ := ErrR.iface hne hx
        go_wp2_with (go_at_call 158; refine (cU147 b' _ _ c1).mono ?_; rintro e' w' ⟨rfl, rfl⟩)
        go_wp2
        go_roundg e.sz
        case measure => rw [← hk]; exact Nat.lt_succ_self _
        case rel => exact ⟨rfl, e, rfl, hoe, hne, hx, hfn⟩
set_option maxHeartbeats 4000000 in
theorem as_56 (t : TErr) (hok : ErrOk eTy t) (hn : t ≠ .nil) (v tgt : Value) (A b : Nat) (old : Value) (w : World) (ok : Nat → Prop) (hv : ErrR w ok t v) (hokb : ∀ b, ok b → b < w.heap.size)
    (hA : w.cell? ⟨A, 0, none⟩ = some (.pointer (some ⟨b, 0, none⟩))) (hb : w.cell? ⟨b, 0, none⟩ = some old) (hf : w.frozen? ⟨b, 0, none⟩ = false) :
    Calls Tryz.prog 70 #[v, tgt, .agg #[.pointer (some ⟨14, 107, none⟩), .pointer (some ⟨A, 0, none⟩), .int .u64 150], .iface 162 (.agg #[.pointer (some ⟨14, 56, none⟩)])] w (asAt eTy t ok b w) := by
  have h71 := @run_callFunc_extern Tryz.prog 71 _ ReflectliteType.typeOf Tryz.func71 (by kernel_rfl) (by kernel_rfl) (by kernel_rfl) (by kernel_rfl)
  have h161 := @run_callFunc_extern Tryz.prog 161 _ (ReflectliteType.relation "AssignableTo" ReflectliteType.assignableTo) Tryz.func161 (by kernel_rfl) (by kernel_rfl) (by kernel_rfl) (by kernel_rfl)
  have h85 := @run_callFunc_extern Tryz.prog 85 _ (ReflectliteValue.method (ReflectliteValue.valueError "reflectlite.Value.Elem" 0) ReflectliteValue.elem) Tryz.func85 (by kernel_rfl) (by kernel_rfl) (by kernel_rfl) (by kernel_rfl)
  have h67 := @run_callFunc_extern Tryz.prog 67 _ (fun args => ReflectliteValue.unpack (args.getD 0 (.tuple #[]))) Tryz.func67 (by kernel_rfl) (by kernel_rfl) (by kernel_rfl) (by kernel_rfl)
  have h86 := @run_callFunc_extern Tryz.prog 86 _ ReflectliteValue.set Tryz.func86 (by kernel_rfl) (by kernel_rfl) (by kernel_rfl) (by kernel_rfl)
  have z0 := tO46
  have z1 := tO56
  have z2 := tO89
  have z3 := tO147
  have z4 := tO113
  have z5 := mtAssignableTo
  have z6 := asg46_56
  have z7 := asg56_56
  have z8 := asg89_56
  have z9 := asg147_56
  have z10 := asg113_56
  have z11 := asAs46
  have z12 := asAs56
  have z13 := asAs89
  have z14 := asAs147
  have z15 := asAs113
  have z16 := asUn46
  have z17 := asUn56
  have z18 := asUn89
  have z19 := asUn147
  have z20 := asUn113
  have z21 := asUs46
  have z22 := asUs56
  have z23 := asUs89
  have z24 := asUs147
  have z25 := asUs113
  have z26 := mU56
  have z27 := mU89
  have z28 := mU147
  have z29 := vO56
  have hAl := lt_of_cell hA
  have hbl := lt_of_cell hb
  simp only at hAl hbl
  have el := elV107 ⟨A, 0, none⟩ ⟨b, 0, none⟩ (w.alloc (.cells #[.pointer (some ⟨14, 107, none⟩), .pointer (some ⟨A, 0, none⟩), .int .u64 150] 136)) (by rw [World.cell?_alloc_lt _ _ ⟨A, 0, none⟩ hAl]; exact hA)
  go_enter Tryz.func70, Tryz.ntmps70
  go_wp2
  go_loopg [0] t.sz (fun k v wr => wr = w.alloc (.cells #[.pointer (some ⟨14, 107, none⟩), .pointer (some ⟨A, 0, none⟩), .int .u64 150] 136) ∧ ∃ t', t'.sz = k ∧ ErrOk eTy t' ∧ t' ≠ .nil ∧ ErrR w ok t' v ∧ errAt eTy t' = errAt eTy t)
  case atStart => exact ⟨rfl, t, rfl, hok, hn, hv, rfl⟩
  case round =>
    obtain ⟨rfl, t', hk, hok', hn', hv', hfn⟩ := hrel
    cases t' with
    | nil => exact absurd rfl hn'
    | num ty k n =>
      obtain ⟨rfl, rfl, hn1, hn2⟩ := hok'
      simp only [ErrR] at hv'
      subst hv'
      simp only [errAt] at hfn
      simp only [eTy] at *
      go_wp2
      go_ret
      unfold asAt
      simp only [eTy]
      rw [← hfn]
      exact ⟨rfl, (Below.refl _ _).alloc (Nat.le_refl _) _⟩
    | any ty =>
      simp only [ErrOk, eTy, List.mem_cons, List.not_mem_nil, or_false] at hok'
      subst hok'
      simp only [ErrR] at hv'
      obtain ⟨x, rfl⟩ := hv'
      simp only [errAt] at hfn
      simp only [eTy] at *
      go_wp2
      go_ret
      unfold asAt
      simp only [eTy]; rw [← hfn]
      exact ⟨rfl, (Below.refl _ _).alloc (Nat.le_refl _) _⟩
    | at' ty n e =>
      obtain ⟨hty, hn1, hne, hoe⟩ := hok'
      simp only [eTy] at hty
      subst hty
      simp only [ErrR] at hv'
      obtain ⟨b', x, rfl, hb', row, hx⟩ := hv'
      simp only [errAt, eTy, ↓reduceIte] at hfn
      have st := set56 ⟨b, 0, none⟩ ⟨w.heap.size + 1, 0, none⟩ ⟨b', 0, none⟩ old ((w.alloc (.cells #[.pointer (some ⟨14, 107, none⟩), .pointer (some ⟨A, 0, none⟩), .int .u64 150] 136)).alloc (.cells #[.pointer (some ⟨b', 0, none⟩)] 56))
        (by rw [World.cell?_alloc_at _ _ _ _ (by simp)]; rfl) (by rw [World.cell?_alloc_lt _ _ ⟨b, 0, none⟩ (by simp; omega), World.cell?_alloc_lt _ _ ⟨b, 0, none⟩ hbl]; exact hb) (by rw [frz_alloc (by simp; omega), frz_alloc hbl]; exact hf)
      simp only [eTy, ↓reduceIte] at *
      go_wp2
      go_ret
      unfold asAt
      simp only [eTy]
      rw [← hfn]
      exact ⟨rfl, b', hb', ((Below.refl _ _).alloc (by simp) _).alloc (by simp; try omega) _, by simpa using row 0 (by simp)⟩
    | of' ty s e =>
      obtain ⟨hty, hne, hoe⟩ := hok'
      simp only [eTy, List.mem_cons, List.not_mem_nil, or_false] at hty
      simp only [errAt] at hfn
      rcases hty with rfl | rfl
      · simp only [ErrR] at hv'
        obtain ⟨b', x, rfl, hb', row, hx⟩ := hv'
        have c1 : (w.alloc (.cells #[.pointer (some ⟨14, 107, none⟩), .pointer (some ⟨A, 0, none⟩), .int .u64 150] 136)).cell? ⟨b', 1, none⟩ = some x := by
          rw [World.cell?_alloc_lt _ _ ⟨b', 1, none⟩ (hokb b' hb')]; simpa using row 1 (by simp)
        obtain ⟨tx, vx, rfl⟩ := ErrR.iface hne hx
        go_wp2_with (go_at_call 152; refine (cU89 b' _ _ c1).mono ?_; rintro e' w' ⟨rfl, rfl⟩)
        go_wp2
        go_roundg e.sz
        case measure => rw [← hk]; exact Nat.lt_succ_self _
        case rel => exact ⟨rfl, e, rfl, hoe, hne, hx, hfn⟩
      · simp only [ErrR] at hv'
        obtain ⟨b', x, rfl, hb', row, hx⟩ := hv'
        have c1 : (w.alloc (.cells #[.pointer (some ⟨14, 107, none⟩), .pointer (some ⟨A, 0, none⟩), .int .u64 150] 136)).cell? ⟨b', 1, none⟩ = some x := by
          rw [World.cell?_alloc_lt _ _ ⟨b', 1, none⟩ (hokb b' hb')]; simpa using row 1 (by simp)
        obtain ⟨tx, vx, rfl⟩ := ErrR.iface hne hx
        go_wp2_with (go_at_call 158; refine (cU147 b' _ _ c1).mono ?_; rintro e' w' ⟨rfl, rfl⟩)
        go_wp2
        go_roundg e.sz
        case measure => rw [← hk]; exact Nat.lt_succ_self _
        case rel => exact ⟨rfl, e, rfl, hoe, hne, hx, hfn⟩
end Go.Proofs
