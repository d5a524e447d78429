/- Functions of Go's library, by their contracts off the shelf, as contracts of ours. Rows that list package variables: what their lists give, and a world that fits them. Conditions: none but those that each theorem states. -/
import Derived.Test.YtfaaeeabiikhbaaGreatDoorBE
import Derived.Below
import Derived.Sort.Grow
import Derived.Deep.Draws
import Derived.Lib.LaidTab
import Derived.LaidLaws
import Derived.Deep.DeepHandedRow
namespace Go.Tr
open Go Go.RowKit
set_option linter.unusedVariables false
set_option linter.unusedSimpArgs false
theorem FnX.of_ok {P : Program} [Tabs P] {F : FuncId} {D : FD} (hp : D.pob = []) (hr : D.rob = []) {f : D.In → Option D.Out} (hc : callable P F)
    (h : ∀ x y, f x = some y → ∀ (w : World) (ok : Nat → Prop) (vs : List Value), Tabs.G P w (fun b => b < w.heap.size) → (∀ b, ok b → b < w.heap.size) → VRL ⟨w, fun _ => none, ok⟩ (tmVs D.par x) vs →
      Calls P F vs.toArray w fun e w' => ∃ z ok', e = .returned z ∧ Below w.heap.size w w' ∧ (∀ b, ok b → ok' b) ∧ (∀ b, ok' b → b < w'.heap.size ∧ (ok b ∨ w.heap.size ≤ b)) ∧ VR ⟨w', fun _ => none, ok'⟩ (oneA (tmVs D.res y)) z) : FnX P F D f := by
  refine ⟨hc, fun x y hxy W0 E vs hw hG hinj hown hok hmu hobj hvs => ?_⟩
  have hE : E.mu = fun _ => none := by
    funext n
    cases hh : E.mu n with
    | none => rfl
    | some L =>
      have := (hmu n L hh).2
      rw [hp] at this
      simp [domO] at this
  obtain ⟨w, mu, ok⟩ := E
  simp only at hE hw hok hG
  subst hE
  have := h x y hxy w ok vs (Tabs.mono _ _ _ _ (fun b hb => ⟨hb.1, rfl⟩) hG) hok hvs
  refine Calls.mono this fun e w' hq => ?_
  obtain ⟨z, ok', rfl, hb, h1, h2, h3⟩ := hq
  have hpe : ∀ (l : List (Nat × OD)) (z : obTo l Unit), l = [] → (obEnc l z).1 = [] := by
    intro l z hl; subst hl; rfl
  have hno : ∀ (n b : Nat), ¬ owns ⟨w', fun _ => none, ok'⟩ n b := by rintro n b ⟨L, h1, _⟩; simp at h1
  refine ⟨z, ⟨w', fun _ => none, ok'⟩, rfl, rfl, h3, fun n o ho => ?_, fun n L hL => by simp at hL, ?_⟩
  · rw [hpe _ _ hr] at ho; simp at ho
  · have hwz : W0.heap = w.heap := by rw [hw]
    refine ⟨fun n m b h => absurd h (hno n b), fun n b h => absurd h (hno n b), fun b hb' => ?_, h1, fun b hlt _ => ?_, ?_, fun b hb' => .inr hb', ?_, ?_, ?_, fun n L hL => by simp at hL⟩
    · obtain ⟨c1, c2⟩ := h2 b hb'
      refine ⟨c1, ?_⟩
      rcases c2 with c2 | c2
      · exact .inl c2
      · exact .inr (.inr (by rw [hwz]; exact c2))
    · rw [hwz] at hlt ⊢; exact hb.block b hlt
    · rw [hwz]; exact hb.size
    · rw [hb.os, hw]
    · rw [hb.tape, hw]
    · rw [hb.output, hw]
def VarIs (P : Program) (name : String) (p : Array Value → Prop) (w : World) (fz : Nat → Prop) : Prop :=
  ∃ g c, P.globalNamed name = some g ∧ fz g ∧ w.var? P name = some c ∧ p c
theorem VarIs.mono {P : Program} {name : String} {p : Array Value → Prop} {w w' : World} {fz fz' : Nat → Prop} (h : ∀ b, fz b → fz' b ∧ w'.heap[b]? = w.heap[b]?) (hv : VarIs P name p w fz) : VarIs P name p w' fz' := by
  obtain ⟨g, c, h1, h2, h3, h4⟩ := hv
  refine ⟨g, c, h1, (h g h2).1, ?_, h4⟩
  unfold World.var? at h3 ⊢
  rw [h1] at h3 ⊢
  simp only [Option.bind_some] at h3 ⊢
  rw [(h g h2).2]; exact h3
def CellIs (g : Nat) (p : Value → Prop) (w : World) (fz : Nat → Prop) : Prop := ∃ v, fz g ∧ w.cell? ⟨g, 0, none⟩ = some v ∧ p v
theorem CellIs.mono {g : Nat} {p : Value → Prop} {w w' : World} {fz fz' : Nat → Prop} (h : ∀ b, fz b → fz' b ∧ w'.heap[b]? = w.heap[b]?) (hv : CellIs g p w fz) : CellIs g p w' fz' := by
  obtain ⟨v, h1, h2, h3⟩ := hv
  refine ⟨v, (h g h1).1, ?_, h3⟩
  unfold World.cell? at h2 ⊢
  simp only at h2 ⊢
  rw [(h g h1).2]; exact h2
theorem CellIs.of {g : Nat} {p : Value → Prop} {w : World} {v : Value} (h : w.cell? ⟨g, 0, none⟩ = some v) (hp : p v) : CellIs g p w (fun b => b < w.heap.size) := by
  refine ⟨v, ?_, h, hp⟩
  unfold World.cell? at h
  simp only at h
  cases hb : w.heap[g]? with
  | none => rw [hb] at h; simp at h
  | some o => exact (Array.getElem?_eq_some_iff.1 hb).1
theorem FnX.none {P : Program} [Tabs P] {F : FuncId} {D : FD} (hc : callable P F) : FnX P F D (fun _ => none) := ⟨hc, fun x y h => by simp at h⟩
theorem below_grown' (w : World) (k : Nat) (os : Array Obj) : Below w.heap.size w (Go.Sort.grow (w.drewN k) os) := by
  refine ⟨rfl, rfl, rfl, ?_, fun j hj => ?_⟩
  · simp [Go.Sort.grow, World.drewN]
  · show (w.heap ++ os)[j]? = w.heap[j]?
    rw [Array.getElem?_append_left hj]
theorem X_Itoa {P : Program} [Tabs P] {F : FuncId} (hc : callable P F)
    (hK : ∀ (n : Int), -9223372036854775808 ≤ n → n ≤ 9223372036854775807 → ∀ w, Tabs.G P w (fun b => b < w.heap.size) →
      Calls P F #[.int .i64 n] w fun e w' => e = .returned (.string ⟨(Lib.itoa n).toArray⟩) ∧ Below w.heap.size w w') : FnX P F D_strconv_Itoa (fun x => strconv_Itoa x.1) := by
  refine FnX.of_ok rfl rfl hc fun x y hxy w ok vs hG hok hvs => ?_
  obtain ⟨n, ⟨⟩⟩ := x
  obtain ⟨⟨h0, h1⟩, hy⟩ := chk_some hxy
  obtain rfl := Option.some.inj hy
  replace hvs : VRL ⟨w, fun _ => none, ok⟩ [.int .i64 n] vs := hvs
  simp only [VRL, VR] at hvs
  obtain ⟨v, r, rfl, rfl, rfl⟩ := hvs
  refine Calls.mono (hK n h0 h1 w hG) fun e w' hq => ?_
  obtain ⟨rfl, hb⟩ := hq
  exact ⟨_, ok, rfl, hb, fun b h => h, fun b h => ⟨Nat.lt_of_lt_of_le (hok b h) hb.size, .inl h⟩, rfl⟩
theorem X_Split {P : Program} [Tabs P] {F : FuncId} {t : TypeId} (hc : callable P F)
    (hK : ∀ (s sep : ByteArray), s.size < 4294967281 → 1 ≤ sep.size → ∀ w, Tabs.G P w (fun b => b < w.heap.size) →
      Calls P F #[.string s, .string sep] w fun e w' => e = .returned (.slice (some ⟨w.heap.size, 0, none⟩) (Lib.countB s sep + 1) (Lib.countB s sep + 1)) ∧
        w' = w.alloc (.cells ((Lib.splitB sep 0 (Lib.countB s sep) s).map Value.string).toArray t)) : FnX P F D_strings_Split (fun x => strings_Split x.1 x.2.1) := by
  refine FnX.of_ok rfl rfl hc fun x y hxy w ok vs hG hok hvs => ?_
  obtain ⟨s, sep, ⟨⟩⟩ := x
  obtain ⟨⟨h0, h1⟩, hy⟩ := chk_some hxy
  obtain rfl := Option.some.inj hy
  replace hvs : VRL ⟨w, fun _ => none, ok⟩ [.str s, .str sep] vs := hvs
  simp only [VRL, VR] at hvs
  obtain ⟨v, r, rfl, rfl, v', r', rfl, rfl, rfl⟩ := hvs
  have hsz1 : 1 ≤ (⟨sep.toArray⟩ : ByteArray).size := by simpa [ByteArray.size] using h1
  refine Calls.mono (hK ⟨s.toArray⟩ ⟨sep.toArray⟩ (by simpa [ByteArray.size] using h0) hsz1 w hG) fun e w' hq => ?_
  obtain ⟨rfl, rfl⟩ := hq
  generalize hss : Lib.splitB ⟨sep.toArray⟩ 0 (Lib.countB ⟨s.toArray⟩ ⟨sep.toArray⟩) ⟨s.toArray⟩ = ss
  have hlen : ss.length = Lib.countB ⟨s.toArray⟩ ⟨sep.toArray⟩ + 1 := by rw [← hss]; exact Lib.splitB_all _ hsz1 0 _ _ rfl
  have hdat : Lib.split s sep = ss.map (·.data.toList) := by
    rw [← hss, Lib.splitB_data]; rfl
  have hcell : ∀ j (h : j < ss.length), (w.alloc (.cells (ss.map Value.string).toArray t)).cell? ⟨w.heap.size, j, none⟩ = some (.string ss[j]) := by
    intro j h
    show (match (w.heap.push (Obj.cells (ss.map Value.string).toArray t (0, 0)))[w.heap.size]? with
      | some (.cells cs _ _) => cs[j]?
      | _ => none) = _
    rw [Array.getElem?_push_size]
    simp [h]
  refine ⟨_, fun b => ok b ∨ b = w.heap.size, rfl, ?_, fun b h => .inl h, fun b h => ?_, ?_⟩
  · have hsz : (w.alloc (.cells (ss.map Value.string).toArray t)).heap.size = w.heap.size + 1 := Array.size_push _
    refine ⟨rfl, rfl, rfl, by omega, fun j hj => ?_⟩
    show (w.heap.push _)[j]? = w.heap[j]?
    rw [Array.getElem?_push_lt hj]; simp [hj]
  · rcases h with h | h
    · refine ⟨?_, .inl h⟩
      have := hok b h
      have hsz : (w.alloc (.cells (ss.map Value.string).toArray t)).heap.size = w.heap.size + 1 := Array.size_push _
      omega
    · subst h
      have hsz : (w.alloc (.cells (ss.map Value.string).toArray t)).heap.size = w.heap.size + 1 := Array.size_push _
      exact ⟨by omega, .inr (Nat.le_refl _)⟩
  · show VR _ (.fsl .str (Lib.split s sep)) _
    rw [hdat]
    simp only [VR, LRs, List.length_map]
    refine ⟨_, _, by rw [hlen], by omega, .inr ⟨w.heap.size, 0, rfl, .inr rfl, fun i hi => ⟨[.string ss[i]], rfl, ?_, ?_⟩⟩⟩
    · intro j hj
      have hj0 : j = 0 := by simp at hj; exact hj
      subst hj0
      have := hcell i hi
      simp [Sh.size, this]
    · simp [LRs]
theorem X_Join {P : Program} [Tabs P] {F : FuncId} (hc : callable P F)
    (hK0 : ∀ (a : Option Addr) (c : Nat) (sep : ByteArray) (w : World), Calls P F #[.slice a 0 c, .string sep] w fun e w' => e = .returned (.string ⟨#[]⟩) ∧ w' = w)
    (hK : ∀ (bk o c : Nat) (xs : List ByteArray) (sep : ByteArray) (w : World), (∀ (j : Nat) x, xs[j]? = some x → w.cell? ⟨bk, o + j, none⟩ = some (.string x)) → bk < w.heap.size → xs.length ≤ 140737488355328 → xs.length ≤ c →
      (Lib.join (xs.map (·.data.toList)) sep.data.toList).length ≤ 140737488355328 →
      Calls P F #[.slice (some ⟨bk, o, none⟩) xs.length c, .string sep] w fun e w' => e = .returned (.string ⟨(Lib.join (xs.map (·.data.toList)) sep.data.toList).toArray⟩) ∧ Below w.heap.size w w') : FnX P F D_strings_Join (fun x => strings_Join x.1 x.2.1) := by
  refine FnX.of_ok rfl rfl hc fun x y hxy w ok vs hG hok hvs => ?_
  obtain ⟨xs, sep, ⟨⟩⟩ := x
  obtain ⟨⟨h0, h1⟩, hy⟩ := chk_some hxy
  obtain rfl := Option.some.inj hy
  replace hvs : VRL ⟨w, fun _ => none, ok⟩ [.fsl .str xs, .str sep] vs := hvs
  simp only [VRL, VR] at hvs
  obtain ⟨v, r, rfl, hv, v', r', rfl, rfl, rfl⟩ := hvs
  simp only [LRs] at hv
  obtain ⟨base, cap, hv, hcap, hz⟩ := hv
  simp only [List.cons.injEq, and_true] at hv
  subst hv
  have fin : ∀ (l : List UInt8) (w' : World), Below w.heap.size w w' → ∃ z ok', Ending.returned (.string ⟨l.toArray⟩) = .returned z ∧ Below w.heap.size w w' ∧ (∀ b, ok b → ok' b) ∧ (∀ b, ok' b → b < w'.heap.size ∧ (ok b ∨ w.heap.size ≤ b)) ∧ VR ⟨w', fun _ => none, ok'⟩ (.str l) z :=
    fun l w' hb => ⟨_, ok, rfl, hb, fun b h => h, fun b h => ⟨Nat.lt_of_lt_of_le (hok b h) hb.size, .inl h⟩, by simp only [VR]⟩
  rcases hz with hz | ⟨b, o, rfl, hb, hr⟩
  · have : xs = [] := List.eq_nil_of_length_eq_zero hz
    subst this
    refine Calls.mono (hK0 base cap ⟨sep.toArray⟩ w) fun e w' hq => ?_
    obtain ⟨rfl, rfl⟩ := hq
    exact fin [] w' (Below.refl _ _)
  · have hmap : (xs.map fun l => (⟨l.toArray⟩ : ByteArray)).map (·.data.toList) = xs := by
      rw [List.map_map]
      conv => rhs; rw [← List.map_id xs]
      rfl
    have := hK b o cap (xs.map fun l => ⟨l.toArray⟩) ⟨sep.toArray⟩ w (fun j x hj => by
      rw [List.getElem?_map] at hj
      cases hx : xs[j]? with
      | none => rw [hx] at hj; simp at hj
      | some l =>
        rw [hx] at hj
        simp only [Option.map_some, Option.some.injEq] at hj
        subst hj
        have hjl : j < xs.length := (List.getElem?_eq_some_iff.1 hx).1
        have hxl : xs[j] = l := (List.getElem?_eq_some_iff.1 hx).2
        obtain ⟨cs, c1, c2, c3⟩ := hr j hjl
        rw [hxl] at c3
        subst c3
        have := c2 0 (by simp)
        simpa [Sh.size] using this) (hok b hb) (by simpa using h0) (by simpa using hcap) (by rw [hmap]; exact h1)
    rw [hmap, List.length_map] at this
    refine Calls.mono this fun e w' hq => ?_
    obtain ⟨rfl, hb'⟩ := hq
    exact fin _ w' hb'
end Go.Tr
namespace Go.Tr
open Go
set_option linter.unusedVariables false
theorem tab_of_vars {P : Program} {W : World} {name : String} {k : IntKind} {zs : List Int} {g : Nat} {t e : TypeId} {n : Nat}
    (hg : P.globalNamed name = some g) (hty : (P.globals[g]?).map (·.type) = some t) (ht : P.underlying t = some (.array n e)) (he : P.underlying e = some (.int k)) (hce : P.cellsOf e = 1) (hct : P.cellsOf t = n) :
    ∀ {laid : List (String × DataW Unit)} {ps : List MemPlace}, DataW.LaidVars P W laid ps → (name, Lib.tabData k zs) ∈ laid → Lib.TabIs P W name k zs
  | [], ps, _, hm => by simp at hm
  | (m, d) :: r, ps, h, hm => by
    obtain ⟨g', t', cs, fuel, p, q, hg', ht', hvar, hd, hr, _⟩ := h
    rcases List.mem_cons.1 hm with hm | hm
    · simp only [Prod.mk.injEq] at hm
      obtain ⟨rfl, rfl⟩ := hm
      obtain rfl := Option.some.inj (hg.symm.trans hg')
      obtain rfl := Option.some.inj (hty.symm.trans ht')
      unfold Lib.TabIs
      rw [hvar, ← Lib.cells_of_tab ht he hce hct hd]
    · exact tab_of_vars hg hty ht he hce hct hr hm
mutual
def cellsD : DataW Unit → List Value
  | .lit (.int k n) => [.int k n]
  | .lit (.bool b) => [.bool b]
  | .lit (.string l) => [.string ⟨l.toArray⟩]
  | .agg l => cellsDs l
  | _ => []
def cellsDs : List (DataW Unit) → List Value
  | [] => []
  | d :: r => cellsD d ++ cellsDs r
end
def laidW (P : Program) (l : List (String × DataW Unit)) (w : World) : World :=
  { w with heap := l.foldl (fun h p => match P.globalNamed p.1 with
      | some g => h.modify g fun
        | .cells _ t fr => .cells (cellsD p.2).toArray t fr
        | o => o
      | none => h) w.heap }
def typesIn (P : Program) (K : Nat) : Bool :=
  (List.range P.types.size).all fun t => Nat.ble (P.bytesOf t) K && (match P.underlying t with
    | some (.pointer e) => Nat.blt e P.types.size
    | some (.slice e) => Nat.blt e P.types.size
    | some (.struct fs) => fs.toList.all fun f => Nat.blt f.type P.types.size
    | some (.array _ e) => Nat.blt e P.types.size
    | some (.map k e) => Nat.blt k P.types.size && Nat.blt e P.types.size
    | _ => true)
theorem typesIn_spec {P : Program} {K : Nat} (h : typesIn P K = true) {t : TypeId} (ht : t < P.types.size) : P.bytesOf t ≤ K ∧ (∀ e, P.underlying t = some (.pointer e) → e < P.types.size) ∧
    (∀ e, P.underlying t = some (.slice e) → e < P.types.size) ∧ (∀ fs, P.underlying t = some (.struct fs) → ∀ u ∈ fs.toList.map (·.type), u < P.types.size) ∧
    (∀ n e, P.underlying t = some (.array n e) → e < P.types.size) ∧ (∀ k e, P.underlying t = some (.map k e) → k < P.types.size ∧ e < P.types.size) := by
  have := List.all_eq_true.1 h t (List.mem_range.2 ht)
  rw [Bool.and_eq_true] at this
  obtain ⟨h1, h2⟩ := this
  refine ⟨by simpa using h1, fun e he => ?_, fun e he => ?_, fun fs he u hu => ?_, fun n e he => ?_, fun k e he => ?_⟩ <;> rw [he] at h2 <;> simp only at h2
  · simpa using h2
  · simpa using h2
  · obtain ⟨f, hf, rfl⟩ := List.mem_map.1 hu
    have := List.all_eq_true.1 h2 f hf
    simpa using this
  · simpa using h2
  · simpa using h2
end Go.Tr
