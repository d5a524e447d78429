/- strconv.Quote, by its contract off the shelf, as a contract of ours. What package variables read as, kept by calls: any condition that hangs on some blocks alone. strconv.Atoi's contract. Conditions: none but those that each theorem states. -/
import Derived.Test.YtfaaeeabiikhbaaGreatDoorBF
import Derived.Lib.PrintData
import Derived.Lib.QuoteLoop
import Derived.Lib.AtoiAll
import Derived.Lib.LaidPrint
import Derived.Shelf.Unicode.DecodeSlow
namespace Go.Tr
open Go Go.RowKit
set_option linter.unusedVariables false
set_option linter.unusedSimpArgs false
noncomputable def strconv_Quote (s : List UInt8) : Option (List UInt8 × Unit) :=
  chk (10 * s.length + 12 ≤ 140737488355328) (some ((strOfNums (Lib.quoteZ Lib.goPrintTabs ⟨s.toArray⟩)).data.toList, ()))
def D_strconv_Quote : FD := ⟨[(0, .leaf .str)], [], [(0, .leaf .str)], []⟩
theorem X_Quote {P : Program} [Tabs P] {F : FuncId} (hc : callable P F)
    (hK : ∀ (s : ByteArray), 10 * s.size + 12 ≤ 140737488355328 → ∀ w, Tabs.G P w (fun b => b < w.heap.size) →
      Calls P F #[.string s] w fun e w' => e = .returned (.string (strOfNums (Lib.quoteZ Lib.goPrintTabs s))) ∧ Below w.heap.size w w') : FnX P F D_strconv_Quote (fun x => strconv_Quote x.1) := by
  refine FnX.of_ok rfl rfl hc fun x y hxy w ok vs hG hok hvs => ?_
  obtain ⟨s, ⟨⟩⟩ := x
  obtain ⟨h0, hy⟩ := chk_some hxy
  obtain rfl := Option.some.inj hy
  replace hvs : VRL ⟨w, fun _ => none, ok⟩ [.str s] vs := hvs
  simp only [VRL, VR] at hvs
  obtain ⟨v, r, rfl, rfl, rfl⟩ := hvs
  refine Calls.mono (hK ⟨s.toArray⟩ (by simpa [ByteArray.size] using h0) w hG) fun e w' hq => ?_
  obtain ⟨rfl, hb⟩ := hq
  exact ⟨_, ok, rfl, hb, fun b h => h, fun b h => ⟨Nat.lt_of_lt_of_le (hok b h) hb.size, .inl h⟩, rfl⟩
structure ETy where
  no : TypeId
  fault : TypeId
  told : List TypeId
  ext : List TypeId
def errNo (T : ETy) : TErr → Int
  | .nil => 0
  | .num t _ n => if t = T.no then n else 0
  | .at' _ _ e => errNo T e
  | .of' _ _ e => errNo T e
  | .any _ => 0
def TErr.sz : TErr → Nat
  | .at' _ _ e => TErr.sz e + 1
  | .of' _ _ e => TErr.sz e + 1
  | _ => 0
def errNum : TErr → Option Int
  | .num _ _ n => some n
  | .at' _ _ e => errNum e
  | .of' _ _ e => errNum e
  | _ => none
def errAt (T : ETy) : TErr → Option Int
  | .nil => none
  | .num _ _ _ => none
  | .at' t n e => if t = T.fault then some n else errAt T e
  | .of' _ _ e => errAt T e
  | .any _ => none
def ErrOk (T : ETy) : TErr → Prop
  | .nil => True
  | .num t k n => t = T.no ∧ k = .i64 ∧ -9223372036854775808 ≤ n ∧ n ≤ 9223372036854775807
  | .at' t n e => t = T.fault ∧ (-9223372036854775808 ≤ n ∧ n ≤ 9223372036854775807) ∧ e ≠ .nil ∧ ErrOk T e
  | .of' t _ e => t ∈ T.told ∧ e ≠ .nil ∧ ErrOk T e
  | .any t => t ∈ T.ext
theorem ErrR.iface {w : World} {ok : Nat → Prop} {t : TErr} {v : Value} (hn : t ≠ .nil) (h : ErrR w ok t v) : ∃ ty x, v = .iface ty x := by
  cases t with
  | nil => exact absurd rfl hn
  | num ty k n => exact ⟨_, _, h⟩
  | any ty => obtain ⟨x, h⟩ := h; exact ⟨_, _, h⟩
  | at' ty n e => obtain ⟨b, x, h, _⟩ := h; exact ⟨_, _, h⟩
  | of' ty s e => obtain ⟨b, x, h, _⟩ := h; exact ⟨_, _, h⟩
theorem errNo_num {T : ETy} : ∀ {t : TErr}, ErrOk T t → errNo T t = (errNum t).getD 0
  | .nil, _ => rfl
  | .num t k n, h => by simp [errNo, errNum, h.1]
  | .at' t n e, h => by simp only [errNo, errNum]; exact errNo_num h.2.2.2
  | .of' t s e, h => by simp only [errNo, errNum]; exact errNo_num h.2.2
  | .any t, _ => rfl
noncomputable def numberF (T : ETy) (t : TErr) : Option (Int × Unit) := chk (ErrOk T t) (some (errNo T t, ()))
noncomputable def placeF (T : ETy) (t : TErr) : Option (Int × Bool × Unit) :=
  chk (ErrOk T t) (some (match errAt T t with
    | none => (0, false, ())
    | some n => (n, true, ())))
def errIs (T : ETy) : TErr → Int → Bool
  | .num t _ n, m => t == T.no && n == m
  | .at' _ _ e, m => errIs T e m
  | .of' _ _ e, m => errIs T e m
  | _, _ => false
noncomputable def isF (T : ETy) (t u : TErr) : Option (Bool × Unit) :=
  match u with
  | .num ty k m => chk (ErrOk T t ∧ ty = T.no ∧ k = .i64) (some (errIs T t m, ()))
  | _ => none
def atoiV (ty : TypeId) (s : List UInt8) : Int × TErr × Unit :=
  match Lib.atoiAll s with
  | .ok v => (v, .nil, ())
  | .range => (Lib.atoiSat s, .any ty, ())
  | _ => (0, .any ty, ())
theorem atoiV_ok {ty : TypeId} {s : List UInt8} {v : Int} (h : Lib.atoiAll s = .ok v) : atoiV ty s = (v, .nil, ()) := by
  unfold atoiV; rw [h]
theorem atoiV_range {ty : TypeId} {s : List UInt8} (h : Lib.atoiAll s = .range) : atoiV ty s = (Lib.atoiSat s, .any ty, ()) := by
  unfold atoiV; rw [h]
theorem atoiV_no {ty : TypeId} {s : List UInt8} (h : ∀ v, Lib.atoiAll s ≠ .ok v) (h2 : Lib.atoiAll s ≠ .range) : atoiV ty s = (0, .any ty, ()) := by
  unfold atoiV
  split
  · exact absurd (by assumption) (h _)
  · exact absurd (by assumption) h2
  · rfl
noncomputable def atoiF (ty : TypeId) (s : List UInt8) : Option (Int × TErr × Unit) := chk (s.length ≤ 281474976710656) (some (atoiV ty s))
def D_lines_Number : FD := ⟨[(0, .leaf .err)], [], [(0, .leaf (.int .i64))], []⟩
def D_lines_Place : FD := ⟨[(0, .leaf .err)], [], [(0, .leaf (.int .i64)), (1, .leaf .bool)], []⟩
def D_errors_Is : FD := ⟨[(0, .leaf .err), (1, .leaf .err)], [], [(0, .leaf .bool)], []⟩
def D_strconv_Atoi : FD := ⟨[(0, .leaf .str)], [], [(0, .leaf (.int .i64)), (1, .leaf .err)], []⟩
end Go.Tr
namespace Go.Tr
open Go Go.RowKit
set_option linter.unusedVariables false
set_option linter.unusedSimpArgs false
def KG (p : World → Prop) (w : World) (fz : Nat → Prop) : Prop := ∃ gs : List Nat, (∀ g ∈ gs, fz g) ∧ ∀ w', (∀ g ∈ gs, w'.heap[g]? = w.heap[g]?) → p w'
theorem KG.mono {p : World → Prop} {w w' : World} {fz fz' : Nat → Prop} (h : ∀ b, fz b → fz' b ∧ w'.heap[b]? = w.heap[b]?) (hv : KG p w fz) : KG p w' fz' := by
  obtain ⟨gs, h1, h2⟩ := hv
  exact ⟨gs, fun g hg => (h g (h1 g hg)).1, fun w'' hw => h2 w'' fun g hg => (hw g hg).trans (h g (h1 g hg)).2⟩
theorem KG.out {p : World → Prop} {w : World} {fz : Nat → Prop} (h : KG p w fz) : p w := by
  obtain ⟨gs, h1, h2⟩ := h
  exact h2 w fun _ _ => rfl
theorem KG.and {p q : World → Prop} {w : World} {fz : Nat → Prop} (h : KG p w fz) (k : KG q w fz) : KG (fun w => p w ∧ q w) w fz := by
  obtain ⟨gs, h1, h2⟩ := h
  obtain ⟨gs', k1, k2⟩ := k
  refine ⟨gs ++ gs', fun g hg => (List.mem_append.1 hg).elim (h1 g) (k1 g), fun w' hw => ⟨h2 w' fun g hg => hw g (List.mem_append_left _ hg), k2 w' fun g hg => hw g (List.mem_append_right _ hg)⟩⟩
@[reducible] def tabsK (P : Program) (p : World → Prop) : Tabs P where
  G w fz := KG p w fz
  mono _ _ _ _ h hG := KG.mono h hG
theorem lt_of_cell {w : World} {a : Addr} {v : Value} (h : w.cell? a = some v) : a.block < w.heap.size := by
  rcases Nat.lt_or_ge a.block w.heap.size with h1 | h1
  · exact h1
  · simp [World.cell?, Array.getElem?_eq_none h1] at h
theorem cell_same {w w' : World} {a : Addr} (h : w'.heap[a.block]? = w.heap[a.block]?) : w'.cell? a = w.cell? a := World.cell?_of_block (w := w) h
theorem KG.cell {w : World} {a : Addr} {v : Value} {p : Value → Prop} (h : w.cell? a = some v) (hp : p v) : KG (fun w => ∃ v, w.cell? a = some v ∧ p v) w (fun b => b < w.heap.size) :=
  ⟨[a.block], fun g hg => by simp at hg; subst hg; exact lt_of_cell h, fun w' hw => ⟨v, (cell_same (hw a.block (by simp))).trans h, hp⟩⟩
theorem KG.cellE {w : World} {a : Addr} {v : Value} (h : w.cell? a = some v) : KG (fun w => w.cell? a = some v) w (fun b => b < w.heap.size) :=
  ⟨[a.block], fun g hg => by simp at hg; subst hg; exact lt_of_cell h, fun w' hw => (cell_same (hw a.block (by simp))).trans h⟩
theorem KG.tab {P : Program} {w : World} {name : String} {k : IntKind} {zs : List Int} (h : Lib.TabIs P w name k zs) : KG (fun w => Lib.TabIs P w name k zs) w (fun b => b < w.heap.size) := by
  have h' := h
  unfold Lib.TabIs World.var? at h'
  cases hg : P.globalNamed name with
  | none => rw [hg] at h'; simp at h'
  | some g =>
    rw [hg] at h'
    simp only [Option.bind_some] at h'
    refine ⟨[g], fun b hb => ?_, fun w' hw => ?_⟩
    · simp at hb
      subst hb
      cases hb : w.heap[b]? with
      | none => rw [hb] at h'; simp at h'
      | some o => exact (Array.getElem?_eq_some_iff.1 hb).1
    · unfold Lib.TabIs World.var?
      rw [hg]
      simp only [Option.bind_some]
      rw [hw g (by simp)]
      exact h'
theorem KG.slice {g : Nat} {k : IntKind} {t : List Nat} {w : World} (h : Lib.TabSlice g k t w) (ht : 0 < t.length) : KG (Lib.TabSlice g k t) w (fun b => b < w.heap.size) := by
  obtain ⟨R, o, c, h1, h2⟩ := h
  refine ⟨[g, R], fun b hb => ?_, fun w' hw => ⟨R, o, c, (cell_same (hw g (by simp))).trans h1, fun j hj => (cell_same (hw R (by simp))).trans (h2 j hj)⟩⟩
  simp only [List.mem_cons, List.not_mem_nil, or_false] at hb
  rcases hb with rfl | rfl
  · exact lt_of_cell h1
  · exact lt_of_cell (h2 0 ht)
theorem KG.print {g20 g21 g22 g23 : Nat} {T : Lib.PrintTabs} {w : World} (h : Lib.PrintTabsAt g20 g21 g22 g23 T w) : KG (Lib.PrintTabsAt g20 g21 g22 g23 T) w (fun b => b < w.heap.size) := by
  obtain ⟨h1, h2, h3, h4, h5, h6, h7⟩ := h
  obtain ⟨gs, k1, k2⟩ := (((KG.slice h1 h5.1).and (KG.slice h2 h5.2.1)).and (KG.slice h3 h5.2.2.1)).and (KG.slice h4 h5.2.2.2)
  exact ⟨gs, k1, fun w' hw => ⟨(k2 w' hw).1.1.1, (k2 w' hw).1.1.2, (k2 w' hw).1.2, (k2 w' hw).2, h5, h6, h7⟩⟩
theorem KG.utf8 {g3 g4 : Nat} {w : World} (h : Lib.Utf8Tabs g3 g4 w) : KG (Lib.Utf8Tabs g3 g4) w (fun b => b < w.heap.size) := by
  obtain ⟨h1, h2⟩ := h
  refine ⟨[g3, g4], fun b hb => ?_, fun w' hw => ⟨fun c hc => (cell_same (hw g3 (by simp))).trans (h1 c hc), fun i hi => ⟨(cell_same (hw g4 (by simp))).trans (h2 i hi).1, (cell_same (hw g4 (by simp))).trans (h2 i hi).2⟩⟩⟩
  simp only [List.mem_cons, List.not_mem_nil, or_false] at hb
  rcases hb with rfl | rfl
  · exact lt_of_cell (h1 0 (by omega))
  · exact lt_of_cell (h2 0 (by omega)).1
theorem X_Atoi {P : Program} [Tabs P] {F : FuncId} {ty : TypeId} (hc : callable P F)
    (hok : ∀ (s : ByteArray), s.size ≤ 9223372036854775806 → ∀ v, Lib.atoiAll s.data.toList = .ok v → ∀ w, Calls P F #[.string s] w fun e w' => e = .returned (.tuple #[.int .i64 v, .nilIface]) ∧ Below w.heap.size w w')
    (hsy : ∀ (s : ByteArray), s.size ≤ 281474976710656 → (∀ v, Lib.atoiAll s.data.toList ≠ .ok v) → Lib.atoiAll s.data.toList ≠ .range → ∀ w, Tabs.G P w (fun b => b < w.heap.size) → Calls P F #[.string s] w fun e w' => ∃ x, e = .returned (.tuple #[.int .i64 0, .iface ty x]) ∧ Below w.heap.size w w')
    (hra : ∀ (s : ByteArray), s.size ≤ 281474976710656 → Lib.atoiAll s.data.toList = .range → ∀ w, Tabs.G P w (fun b => b < w.heap.size) → Calls P F #[.string s] w fun e w' => ∃ x, e = .returned (.tuple #[.int .i64 (Lib.atoiSat s.data.toList), .iface ty x]) ∧ Below w.heap.size w w') :
    FnX P F D_strconv_Atoi (fun x => atoiF ty x.1) := by
  refine FnX.of_ok rfl rfl hc fun x y hxy w ok vs hG hokb hvs => ?_
  obtain ⟨s, ⟨⟩⟩ := x
  obtain ⟨h0, hy⟩ := chk_some hxy
  obtain rfl := Option.some.inj hy
  replace hvs : VRL ⟨w, fun _ => none, ok⟩ [.str s] vs := hvs
  simp only [VRL, VR] at hvs
  obtain ⟨v, r, rfl, rfl, rfl⟩ := hvs
  have e0 : (⟨s.toArray⟩ : ByteArray).data.toList = s := rfl
  have hs : (⟨s.toArray⟩ : ByteArray).size = s.length := by simp [ByteArray.size]
  replace h0 : s.length ≤ 281474976710656 := h0
  by_cases h1 : ∃ v, Lib.atoiAll s = .ok v
  · obtain ⟨v, hE⟩ := h1
    show Calls P F _ w fun e w' => ∃ z ok', e = .returned z ∧ Below w.heap.size w w' ∧ (∀ b, ok b → ok' b) ∧ (∀ b, ok' b → b < w'.heap.size ∧ (ok b ∨ w.heap.size ≤ b)) ∧ VR ⟨w', fun _ => none, ok'⟩ (oneA (tmVs D_strconv_Atoi.res (atoiV ty s))) z
    rw [atoiV_ok hE]
    refine Calls.mono (hok ⟨s.toArray⟩ (by rw [hs]; omega) v hE w) fun e w' hq => ?_
    obtain ⟨rfl, hb⟩ := hq
    exact ⟨_, ok, rfl, hb, fun b h => h, fun b h => ⟨Nat.lt_of_lt_of_le (hokb b h) hb.size, .inl h⟩, _, rfl, _, _, rfl, rfl, _, _, rfl, rfl, rfl⟩
  by_cases h2 : Lib.atoiAll s = .range
  · show Calls P F _ w fun e w' => ∃ z ok', e = .returned z ∧ Below w.heap.size w w' ∧ (∀ b, ok b → ok' b) ∧ (∀ b, ok' b → b < w'.heap.size ∧ (ok b ∨ w.heap.size ≤ b)) ∧ VR ⟨w', fun _ => none, ok'⟩ (oneA (tmVs D_strconv_Atoi.res (atoiV ty s))) z
    rw [atoiV_range h2]
    refine Calls.mono (hra ⟨s.toArray⟩ (by rw [hs]; omega) h2 w hG) fun e w' hq => ?_
    obtain ⟨x, rfl, hb⟩ := hq
    exact ⟨_, ok, rfl, hb, fun b h => h, fun b h => ⟨Nat.lt_of_lt_of_le (hokb b h) hb.size, .inl h⟩, _, rfl, _, _, rfl, rfl, _, _, rfl, ⟨x, rfl⟩, rfl⟩
  · have h3 := not_exists.1 h1
    show Calls P F _ w fun e w' => ∃ z ok', e = .returned z ∧ Below w.heap.size w w' ∧ (∀ b, ok b → ok' b) ∧ (∀ b, ok' b → b < w'.heap.size ∧ (ok b ∨ w.heap.size ≤ b)) ∧ VR ⟨w', fun _ => none, ok'⟩ (oneA (tmVs D_strconv_Atoi.res (atoiV ty s))) z
    rw [atoiV_no h3 h2]
    refine Calls.mono (hsy ⟨s.toArray⟩ (by rw [hs]; omega) h3 h2 w hG) fun e w' hq => ?_
    obtain ⟨x, rfl, hb⟩ := hq
    exact ⟨_, ok, rfl, hb, fun b h => h, fun b h => ⟨Nat.lt_of_lt_of_le (hokb b h) hb.size, .inl h⟩, _, rfl, _, _, rfl, rfl, _, _, rfl, ⟨x, rfl⟩, rfl⟩
end Go.Tr
