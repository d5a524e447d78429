/- A station's line is read alike of both tables. A table's rows are those of its lines, up to the first that is wrong. The statement on tables holds of the printed functions. The statement on tables holds of the printed functions: joined. Conditions: none but those that each theorem states. -/
import Derived.Test.YtfaaeeabiikhbaaGreatDoorLinKb
namespace Go.Tr
open Go
set_option linter.unusedVariables false
set_option linter.unusedSimpArgs false
set_option maxRecDepth 100000
set_option maxHeartbeats 4000000
end Go.Tr
namespace Go.Tr
open Go
set_option linter.unusedVariables false
set_option linter.unusedSimpArgs false
set_option maxRecDepth 100000
set_option maxHeartbeats 4000000
def tblP : Nat → List TSight → List (TSight × Int) → Option (Nat × Int) × List TSight
  | _, out, [] => (none, out)
  | k, out, r :: rs => if r.2 = 8 then tblP (k + 1) out rs else if r.2 ≠ 0 then (some (k, r.2), out) else tblP (k + 1) (out ++ [r.1]) rs
theorem tblP_len : ∀ (rs : List (TSight × Int)) (k : Nat) (out : List TSight), (tblP k out rs).2.length ≤ out.length + rs.length := by
  intro rs
  induction rs with
  | nil => intro k out; simp [tblP]
  | cons r rs ih =>
    intro k out
    unfold tblP
    split
    · have := ih (k + 1) out; simp only [List.length_cons]; omega
    · split
      · simp only [List.length_cons]; omega
      · have := ih (k + 1) (out ++ [r.1]); simp only [List.length_cons, List.length_append, List.length_nil] at this ⊢; omega
theorem tblP_at : ∀ (rs : List (TSight × Int)) (k : Nat) (out : List TSight) (i : Nat) (n : Int), (tblP k out rs).1 = some (i, n) → k ≤ i ∧ i < k + rs.length := by
  intro rs
  induction rs with
  | nil => intro k out i n h; simp [tblP] at h
  | cons r rs ih =>
    intro k out i n h
    unfold tblP at h
    split at h
    · have := ih _ _ _ _ h; simp only [List.length_cons]; omega
    · split at h
      · simp only [Option.some.injEq, Prod.mk.injEq] at h; simp only [List.length_cons]; omega
      · have := ih _ _ _ _ h; simp only [List.length_cons]; omega
noncomputable def tblB (f : List UInt8 → Option (TSight × TErr × Unit)) (t11 : List (List UInt8)) (t12 : Int) (t13 : Int) (out : List TSight) : Option (((List (List UInt8)) × Int × Int × (List TSight) × Unit) ⊕ (((List TSight) × Unit) ⊕ (TErr × (List TSight) × Unit))) :=
  cnd (decide (t13 < t12)) (
   chk ((0 : Int) ≤ t13 ∧ t13 < (↑t11.length : Int)) <|
   ltO (t11.getD t13.toNat []) fun (v0 : List UInt8) =>
   bnd (f (v0)) fun y1 =>
   bnd (errors_Is (y1.snd.fst) (eNum (8 : Int))) fun y2 =>
   cnd (y2.fst) (
    ltO (IntKind.i64.wrap (t13 + (1 : Int))) fun (v3 : Int) =>
    some (.inl (t11, t12, v3, out, ()))) (
    ltO (!errN y1.snd.fst) fun (v4 : Bool) =>
    cnd (v4) (
     some (.inr (.inr (eAt t13 y1.snd.fst, [], ())))) (
     chk (room (24 : Nat) (out.length + [(y1.fst)].length)) <|
     ltO (IntKind.i64.wrap (t13 + (1 : Int))) fun (v5 : Int) =>
     some (.inl (t11, t12, v5, out ++ [(y1.fst)], ()))))) (
   some (.inr (.inl (out, ()))))
noncomputable def tblL (f : List UInt8 → Option (TSight × TErr × Unit)) (s : (List (List UInt8)) × Int × Int × (List TSight) × Unit) : Option (((List TSight) × Unit) ⊕ (TErr × (List TSight) × Unit)) := loopM (fun s => tblB f s.1 s.2.1 s.2.2.1 s.2.2.2.1) s
theorem tbl_loop {f : List UInt8 → Option (TSight × TErr × Unit)} {P : List UInt8 → TSight × Int} (hf : ∀ s : List UInt8, s.length < 4294967281 → Ok (f s) (fun y => LSaid y (P s))) {ls : List (List UInt8)} (hl : ls.length ≤ 40) (hs : ∀ s ∈ ls, s.length < 4294967281) :
    ∀ (rest done : List (List UInt8)) (out : List TSight), ls = done ++ rest → out.length ≤ done.length →
      Ok (tblL f (ls, (ls.length : Int), (done.length : Int), out, ())) (fun y => match tblP done.length out (rest.map P) with
        | (none, o) => y = .inl (o, ())
        | (some (k, n), _) => (n = 1 ∨ n = 3) ∧ ∃ q, y = .inr (eAt (k : Int) (eLin q (eNum n)), [], ())) := by
  intro rest
  induction rest with
  | nil =>
    intro done out h ho
    rw [List.append_nil] at h
    subst h
    refine ⟨.inl (out, ()), ?_, rfl⟩
    exact loopM_last (by
      show tblB f ls (ls.length : Int) (ls.length : Int) out = _
      unfold tblB
      rw [decide_eq_false (by omega), cnd_false])
  | cons s rest ih =>
    intro done out h ho
    have hln : ls.length = done.length + (rest.length + 1) := by rw [h]; simp
    have hg : ls.getD done.length [] = s := by rw [h]; simp
    have w : IntKind.i64.wrap ((done.length : Int) + 1) = (((done ++ [s]).length : Nat) : Int) := by rw [w64 (by omega) (by omega)]; simp
    have h' : ls = (done ++ [s]) ++ rest := by rw [h]; simp
    have hd : (done ++ [s]).length = done.length + 1 := by simp
    obtain ⟨y, hy, a1, a2⟩ := hf s (hs s (by rw [h]; simp))
    obtain ⟨y1, y2, ⟨⟩⟩ := y
    have B : tblB f ls (ls.length : Int) (done.length : Int) out = bnd (errors_Is y2 (eNum (8 : Int))) fun z => cnd z.fst (some (.inl (ls, (ls.length : Int), (((done ++ [s]).length : Nat) : Int), out, ()))) (cnd (!errN y2) (some (.inr (.inr (eAt (done.length : Int) y2, [], ())))) (chk (room 24 (out.length + [y1].length)) (some (.inl (ls, (ls.length : Int), (((done ++ [s]).length : Nat) : Int), out ++ [y1], ()))))) := by
      unfold tblB
      rw [decide_eq_true (by omega), cnd_true, chk_pos (by omega), Int.toNat_natCast, hg, ltO_def, hy, bnd_val]
      simp only [ltO_def, w]
    simp only [List.map_cons]
    unfold tblP
    rcases a2 with ⟨r0, hn⟩ | ⟨r1, rz, q, hq⟩
    · dsimp only at hn a1
      subst hn
      rw [if_neg (by omega), if_neg (by omega), ← a1, ← hd]
      obtain ⟨z, z1, z2⟩ := ih (done ++ [s]) (out ++ [y1]) h' (by simp; omega)
      refine ⟨z, ?_, z2⟩
      rw [← z1]
      exact loopM_next (by
        show tblB f ls (ls.length : Int) (done.length : Int) out = _
        rw [B, is_ok ok_nil, bnd_val]
        rw [show errIs eTy .nil 8 = false from rfl, cnd_false, errN_nil, Bool.not_true, cnd_false, chk_pos (by show _ * _ ≤ _; simp; omega)])
    · dsimp only at hq
      subst hq
      have ok : ErrOk eTy (eLin q (eNum (P s).2)) := ok_lin num_ne (ok_num ⟨by omega, by omega⟩)
      by_cases h8 : (P s).2 = 8
      · rw [if_pos h8, ← hd]
        obtain ⟨z, z1, z2⟩ := ih (done ++ [s]) out h' (by simp; omega)
        refine ⟨z, ?_, z2⟩
        rw [← z1]
        exact loopM_next (by
          show tblB f ls (ls.length : Int) (done.length : Int) out = _
          rw [B, is_ok ok, bnd_val]
          simp only [is_lin, is_num, h8, BEq.rfl, cnd_true])
      · rw [if_neg h8, if_pos (by omega)]
        refine ⟨_, loopM_last (by
          show tblB f ls (ls.length : Int) (done.length : Int) out = _
          rw [B, is_ok ok, bnd_val]
          simp only [is_lin, is_num, show ((P s).2 == (8 : Int)) = false from beq_eq_false_iff_ne.2 h8, cnd_false, errN_lin, Bool.not_false, cnd_true]), by omega, q, rfl⟩
theorem Table_ok {ls : List (List UInt8)} (hl : ls.length ≤ 40) (hs : ∀ s ∈ ls, s.length < 4294967281) (leases : Bool) :
    Ok (cond leases (lines_Table ls) (lines_Table_v1 ls)) (fun y => match tblP 0 [] (ls.map (cond leases leP nbP)) with
      | (none, o) => y = (.nil, o, ())
      | (some (k, n), _) => (n = 1 ∨ n = 3) ∧ ∃ q, y = (eAt (k : Int) (eLin q (eNum n)), [], ())) := by
  cases leases with
  | true =>
    obtain ⟨y, h1, h2⟩ := tbl_loop (f := lines_Lease) (P := leP) (fun s h => Lease_ok h) hl hs ls [] [] rfl (by simp)
    dsimp only [cond]
    unfold lines_Table
    rw [show lines_Table_l0 (ls, (ls.length : Int), (0 : Int), [], ()) = some y from h1, bnd_val]
    change match tblP 0 [] (ls.map leP) with
        | (none, o) => y = .inl (o, ())
        | (some (k, n), _) => (n = 1 ∨ n = 3) ∧ ∃ q, y = .inr (eAt (k : Int) (eLin q (eNum n)), [], ()) at h2
    generalize tblP 0 [] (ls.map leP) = t at h2 ⊢
    obtain ⟨_ | ⟨k, n⟩, o⟩ := t
    · dsimp only at h2 ⊢; subst h2; exact Ok.some rfl
    · dsimp only at h2 ⊢; obtain ⟨h3, q, rfl⟩ := h2; exact Ok.some ⟨h3, q, rfl⟩
  | false =>
    obtain ⟨y, h1, h2⟩ := tbl_loop (f := lines_Neighbour) (P := nbP) (fun s h => Neighbour_ok h) hl hs ls [] [] rfl (by simp)
    dsimp only [cond]
    unfold lines_Table_v1
    rw [show lines_Table_v1_l0 (ls, (ls.length : Int), (0 : Int), [], ()) = some y from h1, bnd_val]
    change match tblP 0 [] (ls.map nbP) with
        | (none, o) => y = .inl (o, ())
        | (some (k, n), _) => (n = 1 ∨ n = 3) ∧ ∃ q, y = .inr (eAt (k : Int) (eLin q (eNum n)), [], ()) at h2
    generalize tblP 0 [] (ls.map nbP) = t at h2 ⊢
    obtain ⟨_ | ⟨k, n⟩, o⟩ := t
    · dsimp only at h2 ⊢; subst h2; exact Ok.some rfl
    · dsimp only at h2 ⊢; obtain ⟨h3, q, rfl⟩ := h2; exact Ok.some ⟨h3, q, rfl⟩
end Go.Tr
namespace Go.Tr
open Go
set_option linter.unusedVariables false
set_option linter.unusedSimpArgs false
set_option maxRecDepth 100000
set_option maxHeartbeats 4000000
noncomputable def fourW (w : TWords) (b : Bool) : List UInt8 × List UInt8 × List UInt8 × List UInt8 := match terrierlaw08_Words_four w b with
  | some (y, _) => y
  | none => ([], [], [], [])
noncomputable def txtW (b : Bool) (w : TWords) : List UInt8 := (fourW w b).1 ++ [32] ++ (fourW w b).2.1 ++ [32] ++ (fourW w b).2.2.1 ++ [32] ++ (fourW w b).2.2.2
theorem four_W {w : TWords} (h : WordsOk 268435456 w) (b : Bool) : terrierlaw08_Words_four w b = some (fourW w b, ()) ∧ (fourW w b).1.length ≤ 268435456 ∧ (fourW w b).2.1.length ≤ 268435456 ∧ (fourW w b).2.2.1.length ≤ 268435456 ∧ (fourW w b).2.2.2.length ≤ 268435456 := by
  obtain ⟨l, h1, h2, h3⟩ := four_ok h (by decide) b
  have g := getD_len h2
  have e : fourW w b = four4 l := by unfold fourW; rw [h1]
  rw [e]
  exact ⟨h1, g 0, g 1, g 2, g 3⟩
theorem txt_len {w : TWords} (h : WordsOk 268435456 w) (b : Bool) : (txtW b w).length < 4294967281 := by
  obtain ⟨_, h1, h2, h3, h4⟩ := four_W h b
  unfold txtW
  simp only [List.length_append, List.length_cons, List.length_nil]
  omega
def lawP (a e : Int) (k : Nat) (want : List TSight) (rs : List (TSight × Int)) : Int × Int × List TSight :=
  if a ≥ 0 then (a, e, want) else match tblP k want rs with
    | (none, o) => (a, e, o)
    | (some (i, n), o) => ((i : Int), n, o)
theorem lawP_pos {a e : Int} {k : Nat} {want : List TSight} {rs : List (TSight × Int)} (h : a ≥ 0) : lawP a e k want rs = (a, e, want) := if_pos h
noncomputable abbrev rdP (b : Bool) : List UInt8 → TSight × Int := cond b leP nbP
abbrev TLw : Type := Bool × Int × Int × (List TWords) × Int × Int × (List (List UInt8)) × (List TSight) × Unit
def nxt (leases : Bool) (a e : Int) (n i : Nat) (ws : List TWords) (ls : List (List UInt8)) (want : List TSight) (s : List UInt8) (r : TSight × Int) : TLw :=
  if a ≥ 0 ∨ r.2 = 8 then (leases, a, e, ws, (n : Int), ((i + 1 : Nat) : Int), ls ++ [s], want, ())
  else if r.2 ≠ 0 then (leases, (i : Int), r.2, ws, (n : Int), ((i + 1 : Nat) : Int), ls ++ [s], want, ())
  else (leases, a, e, ws, (n : Int), ((i + 1 : Nat) : Int), ls ++ [s], want ++ [r.1], ())
theorem tab_round {ws : List TWords} {n i : Nat} (hn : ws.length = n) (h40 : n ≤ 40) {w : TWords} (hw : WordsOk 268435456 w) (hi : i < n) (hx : ws[i]? = some w) {leases : Bool} {a e : Int} {ls : List (List UInt8)} {want : List TSight} (hls : ls.length ≤ 40) (hwa : want.length ≤ 40) :
    terrierlaw08_LinesTable_b0 leases a e ws (n : Int) (i : Int) ls want = some (.inl (nxt leases a e n i ws ls want (txtW leases w) (rdP leases (txtW leases w)))) := by
  obtain ⟨f0, f1, f2, f3, f4⟩ := four_W hw leases
  have w1 : IntKind.i64.wrap ((i : Int) + 1) = ((i + 1 : Nat) : Int) := by rw [w64 (by omega) (by omega)]; omega
  unfold terrierlaw08_LinesTable_b0
  rw [decide_eq_true (by omega), cnd_true, chk_pos (by omega), Int.toNat_natCast, hx]
  dsimp only
  rw [ltO_def, f0, bnd_val]
  simp only [ltO_def]
  simp only [List.length_append, List.length_cons, List.length_nil]
  iterate 10 (rw [chk_pos (by omega)])
  have hT : (fourW w leases).1 ++ [32] ++ (fourW w leases).2.1 ++ [32] ++ (fourW w leases).2.2.1 ++ [32] ++ (fourW w leases).2.2.2 = txtW leases w := rfl
  simp only [hT]
  rw [chk_pos (by show (ls.length + (0 + 1)) * 16 ≤ 140737488355328; omega), neighbour08, bnd_val]
  have R : room 24 (want.length + (0 + 1)) := by show (want.length + (0 + 1)) * 24 ≤ 140737488355328; omega
  unfold nxt
  cases leases with
  | true =>
    rw [show rdP true (txtW true w) = leP (txtW true w) from rfl, cnd_true, lease08, bnd_val]
    simp only [w1, chk_same, chk_nn]
    show cnd (decide (a ≥ 0) || (leP (txtW true w)).2 == 8) _ _ = _
    by_cases h1 : a ≥ 0 ∨ (leP (txtW true w)).2 = 8
    · rw [show (decide (a ≥ 0) || (leP (txtW true w)).2 == 8) = true from by simpa using h1, cnd_true, if_pos h1]
    · rw [show (decide (a ≥ 0) || (leP (txtW true w)).2 == 8) = false from by simpa using h1, cnd_false, if_neg h1]
      by_cases h2 : (leP (txtW true w)).2 = 0
      · rw [show ((leP (txtW true w)).2 != 0) = false from by simpa using h2, cnd_false, if_neg (fun h => h h2), chk_pos R]
      · rw [show ((leP (txtW true w)).2 != 0) = true from by simpa using h2, cnd_true, if_pos h2]
  | false =>
    rw [show rdP false (txtW false w) = nbP (txtW false w) from rfl, cnd_false]
    simp only [w1, chk_same, chk_nn]
    show cnd (decide (a ≥ 0) || (nbP (txtW false w)).2 == 8) _ _ = _
    by_cases h1 : a ≥ 0 ∨ (nbP (txtW false w)).2 = 8
    · rw [show (decide (a ≥ 0) || (nbP (txtW false w)).2 == 8) = true from by simpa using h1, cnd_true, if_pos h1]
    · rw [show (decide (a ≥ 0) || (nbP (txtW false w)).2 == 8) = false from by simpa using h1, cnd_false, if_neg h1]
      by_cases h2 : (nbP (txtW false w)).2 = 0
      · rw [show ((nbP (txtW false w)).2 != 0) = false from by simpa using h2, cnd_false, if_neg (fun h => h h2), chk_pos R]
      · rw [show ((nbP (txtW false w)).2 != 0) = true from by simpa using h2, cnd_true, if_pos h2]
theorem tab_loop {ws : List TWords} (h40 : ws.length ≤ 40) (hws : ∀ w ∈ ws, WordsOk 268435456 w) (leases : Bool) :
    ∀ (rest done : List TWords) (a e : Int) (ls : List (List UInt8)) (want : List TSight), ws = done ++ rest → ls.length ≤ done.length → want.length ≤ done.length → (a ≥ 0 ∨ a = -1) →
      terrierlaw08_LinesTable_l0 (leases, a, e, ws, (ws.length : Int), (done.length : Int), ls, want, ()) = some (.inl (leases, (lawP a e done.length want (rest.map fun w => rdP leases (txtW leases w))).1, (lawP a e done.length want (rest.map fun w => rdP leases (txtW leases w))).2.1, ls ++ rest.map (txtW leases), (lawP a e done.length want (rest.map fun w => rdP leases (txtW leases w))).2.2, ())) := by
  intro rest
  induction rest with
  | nil =>
    intro done a e ls want h h1 h2 ha
    rw [List.append_nil] at h
    subst h
    have hp : lawP a e ws.length want [] = (a, e, want) := by unfold lawP tblP; split <;> rfl
    rw [List.map_nil, List.map_nil, hp, List.append_nil]
    exact loopM_last (by
      show terrierlaw08_LinesTable_b0 leases a e ws (ws.length : Int) (ws.length : Int) ls want = _
      unfold terrierlaw08_LinesTable_b0
      rw [decide_eq_false (by omega), cnd_false])
  | cons w rest ih =>
    intro done a e ls want h h1 h2 ha
    have hln : ws.length = done.length + (rest.length + 1) := by rw [h]; simp
    have hx : ws[done.length]? = some w := by rw [h]; simp
    have h' : ws = (done ++ [w]) ++ rest := by rw [h]; simp
    have hd : (done ++ [w]).length = done.length + 1 := by simp
    have B := tab_round (n := ws.length) (i := done.length) rfl h40 (hws w (by rw [h]; simp)) (by omega) hx (leases := leases) (a := a) (e := e) (ls := ls) (want := want) (by omega) (by omega)
    have N := loopM_next (f := fun s : TLw => terrierlaw08_LinesTable_b0 s.1 s.2.1 s.2.2.1 s.2.2.2.1 s.2.2.2.2.1 s.2.2.2.2.2.1 s.2.2.2.2.2.2.1 s.2.2.2.2.2.2.2.1) (s := (leases, a, e, ws, (ws.length : Int), (done.length : Int), ls, want, ())) B
    refine Eq.trans N ?_
    simp only [List.map_cons]
    generalize rdP leases (txtW leases w) = r
    unfold nxt
    rw [← hd]
    by_cases c1 : a ≥ 0 ∨ r.2 = 8
    · rw [if_pos c1]
      refine Eq.trans (ih (done ++ [w]) a e (ls ++ [txtW leases w]) want h' (by simp; omega) (by simp; omega) ha) ?_
      rw [show lawP a e (done ++ [w]).length want (rest.map fun w => rdP leases (txtW leases w)) = lawP a e done.length want (r :: rest.map fun w => rdP leases (txtW leases w)) from by
        unfold lawP
        by_cases c0 : a ≥ 0
        · rw [if_pos c0, if_pos c0]
        · rw [if_neg c0, if_neg c0, hd]
          conv => rhs; unfold tblP
          rw [if_pos (by omega)]]
      rw [List.append_assoc]
      rfl
    · have c0 : ¬ a ≥ 0 := fun h => c1 (.inl h)
      have c8 : ¬ r.2 = 8 := fun h => c1 (.inr h)
      rw [if_neg c1]
      by_cases c2 : r.2 = 0
      · rw [if_neg (fun h => h c2)]
        refine Eq.trans (ih (done ++ [w]) a e (ls ++ [txtW leases w]) (want ++ [r.1]) h' (by simp; omega) (by simp; omega) ha) ?_
        rw [show lawP a e (done ++ [w]).length (want ++ [r.1]) (rest.map fun w => rdP leases (txtW leases w)) = lawP a e done.length want (r :: rest.map fun w => rdP leases (txtW leases w)) from by
          unfold lawP
          rw [if_neg c0, if_neg c0, hd]
          conv => rhs; unfold tblP
          rw [if_neg c8, if_neg (fun h => h c2)]]
        rw [List.append_assoc]
        rfl
      · rw [if_pos c2]
        refine Eq.trans (ih (done ++ [w]) (done.length : Int) r.2 (ls ++ [txtW leases w]) want h' (by simp; omega) (by simp; omega) (.inl (by omega))) ?_
        rw [lawP_pos (by omega), show lawP a e done.length want (r :: rest.map fun w => rdP leases (txtW leases w)) = ((done.length : Int), r.2, want) from by
          unfold lawP
          rw [if_neg c0]
          unfold tblP
          rw [if_neg c8, if_pos c2]]
        rw [List.append_assoc]
        rfl
theorem same_loop {rs : List TSight} (h : rs.length ≤ 1000) : terrierlaw08_LinesTable_l1 ((rs.length : Int), ((0 : Nat) : Int), rs, rs, ()) = some (.inl ()) := by
  have S := loopM_steps (f := fun s : Int × Int × (List TSight) × (List TSight) × Unit => terrierlaw08_LinesTable_b1 s.1 s.2.1 s.2.2.1 s.2.2.2.1) (fun i => ((rs.length : Int), (i : Int), rs, rs, ())) (a := 0) (n := rs.length) (by omega) (fun i _ hi => by
    show terrierlaw08_LinesTable_b1 (rs.length : Int) (i : Int) rs rs = _
    unfold terrierlaw08_LinesTable_b1
    have w : IntKind.i64.wrap ((i : Int) + 1) = ((i + 1 : Nat) : Int) := by rw [w64 (by omega) (by omega)]; omega
    rw [decide_eq_true (by omega), cnd_true, Int.toNat_natCast, chk_pos (by omega), chk_pos (by omega), chk_pos (by omega), chk_pos (by omega), ltO_def, BEq.rfl, Bool.not_true, cnd_false, ltO_def, w])
  unfold terrierlaw08_LinesTable_l1
  refine Eq.trans S ?_
  exact loopM_last (by
    show terrierlaw08_LinesTable_b1 (rs.length : Int) (rs.length : Int) rs rs = _
    unfold terrierlaw08_LinesTable_b1
    rw [decide_eq_false (by omega), cnd_false])
theorem told_at {k n : Int} {q : List UInt8} (hk : i64 k) (hn : n = 1 ∨ n = 3) : terrierlaw08_told (eAt k (eLin q (eNum n))) n = some (true, ()) := by
  have ok : ErrOk eTy (eAt k (eLin q (eNum n))) := ok_at hk lin_ne (ok_lin num_ne (ok_num ⟨by omega, by omega⟩))
  unfold terrierlaw08_told
  rw [is_ok ok, number_ok ok]
  have h0 : (n == 0) = false := by rcases hn with rfl | rfl <;> rfl
  simp only [ltO_def, h0, cnd_false, bnd_val, is_at, is_lin, is_num, no_at, no_lin, no_num, BEq.rfl, chk_same, bndG_val, Bool.and_true]
end Go.Tr
namespace Go.Tr
open Go
set_option linter.unusedVariables false
set_option linter.unusedSimpArgs false
set_option maxRecDepth 100000
set_option maxHeartbeats 4000000
theorem linesTable_law {ws : List TWords} (hws : ∀ w ∈ ws, WordsOk 268435456 w) (hl : ws.length ≤ 281474976710656) (leases : Bool) : terrierlaw08_LinesTable ws leases = some (true, ()) := by
  unfold terrierlaw08_LinesTable
  rw [awake08, bnd_val, Bool.not_true, cnd_false, chk_pos (by split <;> omega)]
  generalize hN : (if (40 : Int) < (ws.length : Int) then (40 : Int) else (ws.length : Int)).toNat = N
  have hN40 : N ≤ 40 := by rw [← hN]; split <;> omega
  obtain ⟨vs, hv⟩ : ∃ vs, sliceA 0 N ws = vs := ⟨_, rfl⟩
  rw [hv]
  have hvl : vs.length ≤ 40 := by rw [← hv]; unfold sliceA; simp; omega
  have hvw : ∀ w ∈ vs, WordsOk 268435456 w := by
    intro w hw
    rw [← hv] at hw
    unfold sliceA at hw
    exact hws w (List.mem_of_mem_take (by simpa using hw))
  have L := tab_loop hvl hvw leases vs [] (-1) 0 [] [] rfl (by simp) (by simp) (.inr rfl)
  have L' : terrierlaw08_LinesTable_l0 (leases, (-1 : Int), (0 : Int), vs, (vs.length : Int), (0 : Int), [], [], ()) = _ := L
  rw [L', bnd_val, sumO_inl]
  clear L L'
  have hls : (vs.map (txtW leases)).length ≤ 40 := by simp; omega
  have hts : ∀ s ∈ vs.map (txtW leases), s.length < 4294967281 := by
    intro s hs
    obtain ⟨w, hw, rfl⟩ := List.mem_map.1 hs
    exact txt_len (hvw w hw) leases
  obtain ⟨⟨y1, y2, ⟨⟩⟩, hy, hq⟩ := Table_ok hls hts leases
  have hm : (vs.map (txtW leases)).map (cond leases leP nbP) = vs.map fun w => rdP leases (txtW leases w) := by rw [List.map_map]; rfl
  rw [hm] at hq
  have hlp : lawP (-1) 0 ([] : List TWords).length [] (vs.map fun w => rdP leases (txtW leases w)) = match tblP 0 [] (vs.map fun w => rdP leases (txtW leases w)) with
    | (none, o) => (-1, 0, o)
    | (some (i, n), o) => ((i : Int), n, o) := rfl
  rw [hlp]
  have hlen := tblP_len (vs.map fun w => rdP leases (txtW leases w)) 0 []
  have hat := tblP_at (vs.map fun w => rdP leases (txtW leases w)) 0 []
  rw [List.length_map] at hlen hat
  generalize tblP 0 [] (vs.map fun w => rdP leases (txtW leases w)) = t at hq hlen hat ⊢
  obtain ⟨_ | ⟨k, n⟩, o⟩ := t
  · dsimp only at hq hlen
    simp only [Prod.mk.injEq] at hq
    obtain ⟨rfl, rfl, -⟩ := hq
    have S := same_loop (rs := y2) (by simp at hlen; omega)
    have S' : terrierlaw08_LinesTable_l1 ((y2.length : Int), (0 : Int), y2, y2, ()) = some (.inl ()) := S
    cases leases with
    | true =>
      dsimp only [cond] at hy
      dsimp only
      rw [cnd_true, List.nil_append, hy, bnd_val, place_ok ok_nil, bnd_val]
      dsimp only
      rw [decide_eq_false (by omega), cnd_false]
      simp only [ltO_def, errN_nil, at_nil, chk_same, chk_nn, Bool.not_true, Bool.false_or, bne_self_eq_false, cnd_false, S', bnd_val, sumO_inl]
    | false =>
      dsimp only [cond] at hy
      dsimp only
      rw [cnd_false, List.nil_append, hy, bnd_val, place_ok ok_nil, bnd_val]
      dsimp only
      rw [decide_eq_false (by omega), cnd_false]
      simp only [ltO_def, errN_nil, at_nil, chk_same, chk_nn, Bool.not_true, Bool.false_or, bne_self_eq_false, cnd_false, S', bnd_val, sumO_inl]
  · dsimp only at hq
    obtain ⟨h13, q, he⟩ := hq
    simp only [Prod.mk.injEq] at he
    obtain ⟨rfl, rfl, -⟩ := he
    have hk := hat k n rfl
    have ok : ErrOk eTy (eAt (k : Int) (eLin q (eNum n))) := ok_at ⟨by omega, by omega⟩ lin_ne (ok_lin num_ne (ok_num ⟨by omega, by omega⟩))
    have T := told_at (k := (k : Int)) (q := q) ⟨by omega, by omega⟩ h13
    cases leases with
    | true =>
      dsimp only [cond] at hy
      dsimp only
      rw [cnd_true, List.nil_append, hy, bnd_val, place_ok ok, at_at, bnd_val]
      dsimp only
      rw [decide_eq_true (by omega), cnd_true]
      simp only [ltO_def, List.length_nil, Int.natCast_zero, BEq.rfl, chk_same, chk_nn, T, bndG_val, Bool.and_self]
    | false =>
      dsimp only [cond] at hy
      dsimp only
      rw [cnd_false, List.nil_append, hy, bnd_val, place_ok ok, at_at, bnd_val]
      dsimp only
      rw [decide_eq_true (by omega), cnd_true]
      simp only [ltO_def, List.length_nil, Int.natCast_zero, BEq.rfl, chk_same, chk_nn, T, bndG_val, Bool.and_self]
end Go.Tr
