/- Functions of Go's library over rows of any closed element: a clone. slices.SortFunc over rows of plain elements, by the shelf's contract. slices.Delete over rows of any closed element: the walk. Functions of Go's library over rows of any closed element: elements taken out of an owned row. Conditions: none but those that each theorem states. -/
import Derived.Test.YtdbpknejbpiebaaBF
import Derived.Shelf.SlicesE.Clone
import Derived.Shelf.SlSortCmp.NoneTotal
import Derived.Shelf.SlicesE.Delete
namespace Go.Proofs
open Go.Shelf Go.RowKit Go.Lib
variable {P : Program} {ρ : Ren}
set_option maxHeartbeats 2000000 in
set_option maxRecDepth 100000 in
theorem clone_zero (L : SlLaysE0.n41 P ρ) (i0 : TypeInfo) (z : Value) (size bytes : Nat) (hi : P.info? (ρ.t 23) = some i0) (hz0 : i0.zero = some z) (hz1 : i0.size = size) (hz2 : i0.bytes = bytes) (hzs : z.cells.size = size) (hsz : 0 < size)
    (z23 : ∀ w, (Go.sizeOf (ρ.t 23)).run P w = .ok size w) (a : Addr) (c : Nat) (w : World) :
    Calls P (ρ.f 41) #[.slice (some a) 0 c] w fun e w' => ∃ v', e = .returned v' ∧ w'.ownsRow w.heap.size (ρ.t 23) size v' 0 [] ∧ Below w.heap.size w w' := by
  have mixed := L.mixed; have t4 := L.t4; have a4 := L.a4; have z4 := L.z4; have v4 := L.v4; have t22 := L.t22; have a22 := L.a22; have z22 := L.z22; have v22 := L.v22
  have q22 : ∀ (w : World) (a : Option Addr) (n c n' c' : Nat), (binOp .eql (ρ.t 22) (.slice a n c) (.slice none n' c')).run P w = .ok (.bool a.isNone) w := fun w a n c n' c' => Lib.run_eql_slice_nil w _ _ a n c n' c' L.t22
  have u22 : ∀ w, Sem.run P (underlying (ρ.t 22)) w = .ok (TypeDesc.slice (ρ.t 23)) w := run_underlying t22
  obtain ⟨_, _, FG⟩ := L.f41
  go_enter FG, SlBodyN.n41_ntmps ρ
  go_wp2_with (at_builtin; refine wpList_append_own _ rfl _ _ (ρ.t 22) rfl w.heap.size (ρ.t 23) i0 z size bytes t22 hi hz0 hz1 hz2 hzs hsz _ _ _ rfl (World.ownsRow_made w #[] 0 (Nat.le_refl _) (Nat.zero_le _) (by simp)) a 0 c [] rfl (by simp) (by intro j u hj; simp at hj) (by intro u hu; cases hu) (by simp) (by simp) (by simp) ?_)
  intro v' w1 hown hgrow hnil
  go_wp2
  go_ret
  refine ⟨v', rfl, by simpa using hown, ?_⟩
  exact ((Below.refl _ w).alloc (Nat.le_refl _) _).grown hgrow (by simp) (by intro k hk; simp [Value.ownBlock] at hk; omega)
end Go.Proofs
namespace Go.Tr
open Go Go.RowKit Go.Shelf
set_option linter.unusedVariables false
set_option linter.unusedSimpArgs false
theorem fnX_own {P : Program} [Tabs P] {F : FuncId} {par : List (Nat × VD)} {e : Sh} {f : FD.In ⟨par, [], [(0, .leaf (.own 16 e))], [(16, .rows e)]⟩ → Option (List e.T × Unit)} (hc : callable P F)
    (h : ∀ x y, f x = some y → ∀ (w : World) (ok : Nat → Prop) (vs : List Value), Tabs.G P w (fun b => b < w.heap.size) → (∀ b, ok b → b < w.heap.size) → VRL ⟨w, fun _ => none, ok⟩ (tmVs par x) vs →
      Calls P F vs.toArray w fun en w' => ∃ base cap, en = .returned (.slice base y.1.length cap) ∧ Below w.heap.size w w' ∧
        ((base = none ∧ cap = 0 ∧ y.1.length = 0) ∨ ∃ b cs T, base = some ⟨b, 0, none⟩ ∧ w.heap.size ≤ b ∧ w'.heap[b]? = some (.cells cs T (0, 0)) ∧ cs.size = cap * e.size ∧ y.1.length ≤ cap ∧
          ∀ i (hi : i < y.1.length), LRs w ok e (y.1[i]'hi) ((cs.toList.drop (i * e.size)).take e.size))) :
    FnX P F ⟨par, [], [(0, .leaf (.own 16 e))], [(16, .rows e)]⟩ f := by
  refine ⟨hc, fun x y hxy W0 E vs hw hG hinj hown hok hmu hobj hvs => ?_⟩
  have hE : E.mu = fun _ => none := by
    funext n
    cases hh : E.mu n with
    | none => rfl
    | some L =>
      have := (hmu n L hh).2
      simp [domO] at this
  obtain ⟨w, mu, ok⟩ := E
  simp only at hE hw hok hG
  subst hE
  obtain ⟨y, ⟨⟩⟩ := y
  have := h x (y, ()) hxy w ok vs (Tabs.mono _ _ _ _ (fun b hb => ⟨hb.1, rfl⟩) hG) hok hvs
  refine Calls.mono this fun en w' hq => ?_
  obtain ⟨base, cap, rfl, hb, hr⟩ := hq
  have hwz : W0.heap = w.heap := by rw [hw]
  refine ⟨_, ⟨w', fun n => if n = 16 then some ⟨base, cap, base.isSome, y.length⟩ else none, ok⟩, rfl, rfl, ?_, fun n o ho => ?_, fun n L hL => ?_, ?_⟩
  · show VR _ (.own 16 e) _
    simp only [VR, leafV, true_and, if_true, Option.some.injEq]
    intro L hL
    subst hL
    rfl
  · have : n = 16 ∧ o = .rows e y := by
      have ho' : (n, some o) ∈ [((16 : Nat), some (AO.rows e y))] := ho
      simpa using ho'
    obtain ⟨rfl, rfl⟩ := this
    refine ⟨⟨base, cap, base.isSome, List.length y⟩, rfl, rfl, ?_⟩
    rcases hr with ⟨rfl, rfl, h0⟩ | ⟨b, cs, T, rfl, h1, h2, h3, h4, h5⟩
    · exact .inl ⟨rfl, h0, rfl⟩
    · refine .inr ⟨b, cs, T, (0, 0), rfl, rfl, h2, h3, h4, fun i _ hi => by omega, fun i hi => ?_⟩
      exact LRs.mono (fun b hb' => hb.block b (hok b hb')) (fun b hb => hb) _ _ _ (h5 i hi)
  · by_cases hn : n = 16
    · subst hn; rfl
    · simp [hn] at hL
  · have how : ∀ n b, owns ⟨w', fun n => if n = 16 then some (⟨base, cap, base.isSome, y.length⟩ : Loc) else none, ok⟩ n b → n = 16 ∧ w.heap.size ≤ b ∧ b < w'.heap.size := by
      rintro n b ⟨L, k1, k2, k3⟩
      by_cases hn : n = 16
      · subst hn
        simp only [if_true, Option.some.injEq] at k1
        subst k1
        simp only at k2 k3
        rcases hr with ⟨rfl, _, _⟩ | ⟨b', cs, T, rfl, h1, h2, _⟩
        · simp at k3
        · simp only [Option.some.injEq, Addr.mk.injEq, and_true] at k3
          subst k3
          exact ⟨rfl, h1, (Array.getElem?_eq_some_iff.1 h2).1⟩
      · simp [hn] at k1
    refine ⟨fun n m b h1 h2 => (how n b h1).1.trans (how m b h2).1.symm, fun n b h1 => ?_, fun b hb' => ?_, fun b hb' => hb', fun b hlt _ => ?_, ?_, fun b hb' => .inr hb', ?_, ?_, ?_, fun n L hL hn => ?_⟩
    · obtain ⟨_, c1, c2⟩ := how n b h1
      refine ⟨.inr (by rw [hwz]; exact c1), c2, fun hb' => ?_⟩
      have := hok b hb'
      omega
    · exact ⟨Nat.lt_of_lt_of_le (hok b hb') hb.size, .inl hb'⟩
    · rw [hwz] at hlt ⊢; exact hb.block b hlt
    · rw [hwz]; exact hb.size
    · rw [hb.os, hw]
    · rw [hb.tape, hw]
    · rw [hb.output, hw]
    · have : n ≠ 16 := by omega
      simp [this] at hL
@[reducible] def D_Clone (e : Sh) : FD := ⟨[(0, .leaf (.sl e))], [], [(0, .leaf (.own 16 e))], [(16, .rows e)]⟩
theorem LRs.one {w : World} {ok : Nat → Prop} : ∀ (s : Sh) (x : s.T) (vs : List Value), LRs w ok s x vs → vs.length = s.size ∧ ∀ u ∈ vs, u.oneCell' = true := by
  intro s
  induction s with
  | int k => intro x vs h; simp only [LRs] at h; subst h; simp [Sh.size, Value.oneCell']
  | bool => intro x vs h; simp only [LRs] at h; subst h; simp [Sh.size, Value.oneCell']
  | str => intro x vs h; simp only [LRs] at h; subst h; simp [Sh.size, Value.oneCell']
  | unit => intro x vs h; simp only [LRs] at h; subst h; simp [Sh.size]
  | sl e ih => intro x vs h; simp only [LRs] at h; obtain ⟨_, _, rfl, _⟩ := h; simp [Sh.size, Value.oneCell']
  | arr n e ih =>
    intro x vs h
    simp only [LRs] at h
    obtain ⟨h1, h2, h3⟩ := h
    refine ⟨h2, fun u hu => ?_⟩
    obtain ⟨j, hj, rfl⟩ := List.getElem_of_mem hu
    have hp : 0 < e.size := by
      rcases Nat.eq_zero_or_pos e.size with h0 | h0
      · rw [h0, Nat.mul_zero] at h2; omega
      · exact h0
    have hi : j / e.size < List.length x := by
      rw [h1, Nat.div_lt_iff_lt_mul hp, ← h2]; exact hj
    obtain ⟨k1, k2⟩ := ih _ _ (h3 (j / e.size) hi)
    refine k2 _ ?_
    have hm : j / e.size * e.size + j % e.size = j := Nat.div_add_mod' j e.size
    have hlt : j % e.size < e.size := Nat.mod_lt _ hp
    have hg : ((vs.drop (j / e.size * e.size)).take e.size)[j % e.size]? = some vs[j] := by
      rw [List.getElem?_take_of_lt hlt, List.getElem?_drop, hm, List.getElem?_eq_getElem hj]
    exact List.mem_of_getElem? hg
  | pair a b iha ihb =>
    intro x vs h
    simp only [LRs] at h
    obtain ⟨v1, v2, rfl, h1, h2⟩ := h
    obtain ⟨a1, a2⟩ := iha _ _ h1
    obtain ⟨b1, b2⟩ := ihb _ _ h2
    refine ⟨by simp [Sh.size, a1, b1], fun u hu => ?_⟩
    rcases List.mem_append.1 hu with hu | hu
    · exact a2 u hu
    · exact b2 u hu
  | err =>
    intro x vs h
    simp only [LRs] at h
    obtain ⟨y, rfl, h⟩ := h
    refine ⟨by simp [Sh.size], fun u hu => ?_⟩
    have e : u = y := by simpa using hu
    subst e
    exact LRs.leaf (w := w) (ok := ok) .err x [u] ⟨u, rfl, h⟩ u (by simp)
theorem LRs.cells {w : World} {ok : Nat → Prop} {e : Sh} {b o : Nat} : ∀ (xs : List e.T),
    (∀ i (h : i < xs.length), ∃ cs, cs.length = e.size ∧ Row w b (o + i * e.size) cs ∧ LRs w ok e (xs[i]'h) cs) →
    ∃ news : List Value, news.length = xs.length * e.size ∧ (∀ u ∈ news, u.oneCell' = true) ∧ (∀ j u, news[j]? = some u → w.cell? ⟨b, o + j, none⟩ = some u) ∧
      ∀ i (h : i < xs.length), LRs w ok e (xs[i]'h) ((news.drop (i * e.size)).take e.size) := by
  intro xs
  induction xs generalizing o with
  | nil => intro _; exact ⟨[], by simp, by simp, by simp, fun i h => by simp at h⟩
  | cons x xs ih =>
    intro h
    obtain ⟨cs, c1, c2, c3⟩ := h 0 (by simp)
    obtain ⟨news, n1, n2, n3, n4⟩ := ih (o := o + e.size) fun i hi => by
      obtain ⟨cs, k1, k2, k3⟩ := h (i + 1) (by simp; omega)
      refine ⟨cs, k1, ?_, by simpa using k3⟩
      have : o + e.size + i * e.size = o + (i + 1) * e.size := by rw [Nat.succ_mul]; omega
      rw [this]; exact k2
    refine ⟨cs ++ news, by simp [c1, n1, Nat.succ_mul]; omega, fun u hu => ?_, fun j u hj => ?_, fun i hi => ?_⟩
    · rcases List.mem_append.1 hu with hu | hu
      · exact (LRs.one _ _ _ c3).2 u hu
      · exact n2 u hu
    · by_cases hlt : j < cs.length
      · rw [List.getElem?_append_left hlt, List.getElem?_eq_getElem hlt] at hj
        have := c2 j hlt
        simp only [Nat.zero_mul, Nat.add_zero] at this
        rw [this]; exact hj
      · have hge : cs.length ≤ j := by omega
        rw [List.getElem?_append_right hge] at hj
        have := n3 _ _ hj
        have he : o + e.size + (j - cs.length) = o + j := by omega
        rwa [he] at this
    · cases i with
      | zero =>
        have : (List.drop (0 * e.size) (cs ++ news)).take e.size = cs := by
          rw [Nat.zero_mul, List.drop_zero, ← c1, List.take_left]
        rw [this]; simpa using c3
      | succ i =>
        have hi' : i < xs.length := by simpa using hi
        have : List.drop ((i + 1) * e.size) (cs ++ news) = news.drop (i * e.size) := by
          rw [Nat.succ_mul, Nat.add_comm, ← c1, ← List.drop_drop, List.drop_left]
        rw [this]; simpa using n4 i hi'
theorem X_Clone0 {P : Program} [Tabs P] {ρ : Ren} {F : FuncId} {e : Sh} {k : Nat} (hc : callable P F) (L : Go.Proofs.SlLaysE0.n41 P ρ) (hF : ρ.f 41 = F) (i0 : TypeInfo) (z : Value) (hi : P.info? (ρ.t 23) = some i0) (hz0 : i0.zero = some z) (hz1 : i0.size = e.size) (hz2 : i0.bytes = k) (hzs : z.cells.size = e.size) (hsz : 0 < e.size) (hk : 0 < k)
    (z23 : ∀ w, (Go.sizeOf (ρ.t 23)).run P w = .ok e.size w) : FnX P F (D_Clone e) (fun x => clone k x.1) := by
  refine fnX_own hc fun x y hxy w ok vs hG hok hvs => ?_
  obtain ⟨xs, ⟨⟩⟩ := x
  obtain ⟨h0, hy⟩ := chk_some hxy
  obtain rfl := Option.some.inj hy
  replace hvs : VRL ⟨w, fun _ => none, ok⟩ [.fsl e xs] vs := hvs
  simp only [VRL, VR] at hvs
  obtain ⟨v, r, rfl, hv, rfl⟩ := hvs
  simp only [LRs] at hv
  obtain ⟨base, cap, hv, hcap, hz⟩ := hv
  simp only [List.cons.injEq, and_true] at hv
  subst hv
  subst hF
  have fin : ∀ (news : List Value) (v' : Value) (w' : World), (∀ i (h : i < List.length xs), LRs w ok e (xs[i]'h) ((news.drop (i * e.size)).take e.size)) → w'.ownsRow w.heap.size (ρ.t 23) e.size v' (List.length xs) news → Below w.heap.size w w' →
      ∃ base cap, Ending.returned v' = .returned (.slice base (List.length xs) cap) ∧ Below w.heap.size w w' ∧
        ((base = none ∧ cap = 0 ∧ List.length xs = 0) ∨ ∃ b cs T, base = some ⟨b, 0, none⟩ ∧ w.heap.size ≤ b ∧ w'.heap[b]? = some (.cells cs T (0, 0)) ∧ cs.size = cap * e.size ∧ List.length xs ≤ cap ∧
          ∀ i (hi : i < List.length xs), LRs w ok e (xs[i]'hi) ((cs.toList.drop (i * e.size)).take e.size)) := by
    intro news v' w' hn ho hb
    obtain ⟨o1, o2⟩ := ho
    rcases o2 with ⟨rfl, o2⟩ | ⟨g, cap, cur, rfl, g1, g2, g3, g4, g5, g6⟩
    · exact ⟨none, 0, by rw [o2], hb, .inl ⟨rfl, rfl, o2⟩⟩
    · refine ⟨_, cap, rfl, hb, .inr ⟨g, cur, _, rfl, g1, g2, g5, g3, fun i hi => ?_⟩⟩
      have hle : (i + 1) * e.size ≤ List.length xs * e.size := Nat.mul_le_mul_right _ hi
      have : (cur.toList.drop (i * e.size)).take e.size = (news.drop (i * e.size)).take e.size := by
        rw [← g6, List.drop_take, List.take_take]
        congr 1
        rw [Nat.succ_mul] at hle
        omega
      rw [this]; exact hn i hi
  rcases hz with hz | ⟨b, o, rfl, hb, hr⟩
  · have hx : xs = [] := List.eq_nil_of_length_eq_zero hz
    subst hx
    cases base with
    | none =>
      refine Calls.mono (Go.Proofs.AnyE.slices_Clone_nil L 0 cap w) fun en w' hq => ?_
      obtain ⟨rfl, rfl⟩ := hq
      exact ⟨none, 0, rfl, Below.refl _ _, .inl ⟨rfl, rfl, rfl⟩⟩
    | some a =>
      refine Calls.mono (Go.Proofs.clone_zero L i0 z e.size k hi hz0 hz1 hz2 hzs hsz z23 a cap w) fun en w' hq => ?_
      obtain ⟨v', rfl, h1, h2⟩ := hq
      exact fin [] v' w' (fun i h => by simp at h) h1 h2
  · obtain ⟨news, n1, n2, n3, n4⟩ := LRs.cells xs hr
    have h0' : List.length xs * k ≤ 140737488355328 := h0
    have hle : List.length xs ≤ List.length xs * k := Nat.le_mul_of_pos_right _ hk
    have hm : List.length xs ≤ maxLen := by have : maxLen = 9223372036854775807 := rfl
                                            omega
    refine Calls.mono (Go.Proofs.AnyE.slices_Clone L i0 z e.size k hi hz0 hz1 hz2 hzs hsz z23 b o _ cap news w n1 hm h0' n3 n2) fun en w' hq => ?_
    obtain ⟨v', rfl, h1, _, h2⟩ := hq
    exact fin news v' w' n4 h1 h2
theorem X_Clone {P : Program} [Tabs P] {ρ : Ren} {F : FuncId} {e : Sh} {k : Nat} (hc : callable P F) (L : Go.Proofs.SlLaysE0.n41 P ρ) (hF : ρ.f 41 = F)
    (hi : (P.info? (ρ.t 23)).map (fun i => (i.zero.map (fun z => z.cells.size), i.size, i.bytes)) = some (some e.size, e.size, k)) (hsz : 0 < e.size) (hk : 0 < k)
    (z23 : ∀ w, (Go.sizeOf (ρ.t 23)).run P w = .ok e.size w) : FnX P F (D_Clone e) (fun x => clone k x.1) := by
  cases hh : P.info? (ρ.t 23) with
  | none => rw [hh] at hi; simp at hi
  | some i0 =>
    rw [hh] at hi
    simp only [Option.map_some, Option.some.injEq, Prod.mk.injEq] at hi
    obtain ⟨h1, h2, h3⟩ := hi
    cases hz : i0.zero with
    | none => rw [hz] at h1; simp at h1
    | some z =>
      rw [hz] at h1
      simp only [Option.map_some, Option.some.injEq] at h1
      exact X_Clone0 hc L hF i0 z hh hz h2 h3 h1 hsz hk z23
end Go.Tr
namespace Go.Tr
open Go Go.RowKit Go.Shelf
set_option linter.unusedVariables false
set_option linter.unusedSimpArgs false
def Sh.plain : Sh → Bool
  | .int _ => true
  | .bool => true
  | .str => true
  | .unit => true
  | .sl _ => false
  | .arr _ _ => false
  | .pair a b => a.plain && b.plain
  | .err => false
def cvS : (s : Sh) → s.T → List Value
  | .int k, n => [.int k n]
  | .bool, b => [.bool b]
  | .str, l => [.string ⟨l.toArray⟩]
  | .pair a b, x => cvS a (Prod.fst x) ++ cvS b (Prod.snd x)
  | .unit, _ => []
  | .sl _, _ => []
  | .arr _ _, _ => []
  | .err, _ => []
theorem cvS_iff {w : World} {ok : Nat → Prop} : ∀ (s : Sh), s.plain = true → ∀ (x : s.T) (vs : List Value), LRs w ok s x vs ↔ vs = cvS s x := by
  intro s
  induction s with
  | int k => intro _ x vs; simp [LRs, cvS]
  | bool => intro _ x vs; simp [LRs, cvS]
  | str => intro _ x vs; simp [LRs, cvS]
  | unit => intro _ x vs; simp [LRs, cvS]
  | sl e ih => intro h; simp [Sh.plain] at h
  | arr n e ih => intro h; simp [Sh.plain] at h
  | err => intro h; simp [Sh.plain] at h
  | pair a b iha ihb =>
    intro h x vs
    simp only [Sh.plain, Bool.and_eq_true] at h
    simp only [LRs, cvS]
    constructor
    · rintro ⟨v1, v2, rfl, h1, h2⟩
      rw [(iha h.1 _ _).1 h1, (ihb h.2 _ _).1 h2]
    · rintro rfl
      exact ⟨_, _, rfl, (iha h.1 _ _).2 rfl, (ihb h.2 _ _).2 rfl⟩
@[reducible] def D_Sort (e : Sh) (g : FuncId) : FD := ⟨[(0, .leaf (.own 0 e)), (1, .fn g [] [])], [(0, .rows e)], [], [(0, .rows e)]⟩
theorem X_Sort {P : Program} [Tabs P] {ρ : Ren} {F g : FuncId} {e : Sh} (hc : callable P F) (L : Go.Proofs.SlLaysF0.n6 P ρ) (hF : ρ.f 6 = F) (hpl : e.plain = true)
    (aE : ∀ w, (isAgg (ρ.t 24)).run P w = .ok true w) (zE : ∀ w, (Go.sizeOf (ρ.t 24)).run P w = .ok e.size w) (eg : ∀ args w, (callFunc g args).run P w = .ok (.enter g args) w) (hsz : 0 < e.size)
    {cmp : e.T → e.T → Option (Int × Unit)} (hcl : ∀ x y W, Calls P g #[.agg (cvS e x).toArray, .agg (cvS e y).toArray] W fun en w' => ∃ c, cmp x y = some (c, ()) ∧ en = .returned (.int .i64 c) ∧ ∃ q os', w' = Sort.grow (W.drewN q) os')
    (htot : ∀ x y, ∃ c, cmp x y = some (c, ())) : FnX P F (D_Sort e g) (fun x => sortF cmp x.1) := by
  refine ⟨hc, fun x y hxy W0 E vs hw hG hinj hown hok hmu hobj hvs => ?_⟩
  obtain ⟨xs, ⟨⟩⟩ := x
  obtain ⟨⟨h1, h2, o1, o2, o3, o4⟩, hy⟩ := chk_some hxy
  obtain rfl := Option.some.inj hy
  replace h1 : 1 ≤ List.length xs := h1
  replace h2 : List.length xs < 4611686018427387904 := h2
  obtain ⟨L0, hL, hlen, hr⟩ : ObjR E 0 (.rows e xs) := hobj 0 _ (List.mem_cons_self ..)
  replace hvs : VRL E [.own 0 e, .fn g [] []] vs := hvs
  simp only [VRL, VR] at hvs
  obtain ⟨v, r, rfl, ⟨_, hv⟩, v', r', rfl, ⟨p, q, rfl, rfl, rfl⟩, rfl⟩ := hvs
  have hv := hv L0 hL
  rcases hr with ⟨_, h0, _⟩ | ⟨b, cs, T, fr, hb, hown0, hcs, hcz, hcap, hunf, hrow⟩
  · exact absurd h0 (by omega)
  obtain ⟨base, cap, own, len⟩ := L0
  simp only at hb hown0 hcz hcap hlen hv
  subst hb; subst hown0; subst hlen; subst hv
  subst hF
  have hne : xs ≠ [] := by intro h; rw [h] at h1; simp at h1
  obtain ⟨x0, hx0⟩ := List.exists_mem_of_ne_nil xs hne
  letI : Inhabited {x : e.T // x ∈ xs} := ⟨⟨x0, hx0⟩⟩
  let enc : {x : e.T // x ∈ xs} → List Value := fun x => cvS e x.1
  let cf : {x : e.T // x ∈ xs} → {x : e.T // x ∈ xs} → Int := fun x y => ((cmp x.1 y.1).getD (0, ())).1
  have hlt : ∀ x y, Go.Proofs.ltOf cf x y = sortLt cmp x.1 y.1 := by
    intro x y
    obtain ⟨c, hc⟩ := htot x.1 y.1
    simp [Go.Proofs.ltOf, cf, sortLt, hc]
  let d : Array {x : e.T // x ∈ xs} := xs.attach.toArray
  have hdz : d.size = xs.length := by simp [d]
  have henc : ∀ x, (enc x).length = e.size := fun x => ((LRs.one (w := E.w) (ok := E.ok) e x.1 _ ((cvS_iff e hpl x.1 _).2 rfl)).1)
  have henc1 : ∀ x, ∀ v ∈ enc x, v.oneCell' = true := fun x => ((LRs.one (w := E.w) (ok := E.ok) e x.1 _ ((cvS_iff e hpl x.1 _).2 rfl)).2)
  have hO : Sort.SWO (Go.Proofs.ltOf cf) := ⟨fun x => by rw [hlt]; exact o1 _ x.2, fun x y z a b => by rw [hlt] at *; exact o2 _ x.2 _ y.2 _ z.2 a b, fun x y z a b => by rw [hlt] at *; exact o3 _ x.2 _ y.2 _ z.2 a b⟩
  have hT : ∀ x y, Go.Proofs.ltOf cf x y = false → Go.Proofs.ltOf cf y x = false → x = y := fun x y a b => by
    rw [hlt] at a b
    exact Subtype.ext (o4 _ x.2 _ y.2 a b)
  have hle : xs.length * e.size ≤ cap * e.size := Nat.mul_le_mul_right _ hcap
  have hH : Go.Sort.HoldsK enc e.size E.w b 0 d := by
    intro j hj
    rw [Go.Sort.size_flatK, hdz] at hj
    have hjc : j < cs.size := by omega
    have hi : j / e.size < xs.length := by rw [Nat.div_lt_iff_lt_mul hsz]; exact hj
    have hm : j / e.size * e.size + j % e.size = j := Nat.div_add_mod' j e.size
    have hml : j % e.size < e.size := Nat.mod_lt _ hsz
    refine ⟨?_, ?_⟩
    · show (match E.w.heap[b]? with
        | some (.cells c _ _) => c[0 + j]?
        | _ => none) = _
      rw [hcs]
      simp only [Nat.zero_add, id]
      rw [Go.Sort.get_flatK enc e.size d j (by rw [hdz]; exact hj)]
      have hd : d[j / e.size]! = ⟨xs[j / e.size], List.getElem_mem hi⟩ := by
        rw [getElem!_pos d _ (by rw [hdz]; exact hi)]
        simp [d]
      rw [hd]
      have := (cvS_iff e hpl _ _).1 (hrow (j / e.size) hi)
      have hcl : (cvS e xs[j / e.size]).length = e.size := henc ⟨xs[j / e.size], List.getElem_mem hi⟩
      show _ = some ((cvS e xs[j / e.size])[j % e.size]!)
      rw [getElem!_pos _ _ (by rw [hcl]; exact hml), ← List.getElem?_eq_getElem (by rw [hcl]; exact hml), ← this, List.getElem?_take_of_lt hml, List.getElem?_drop, hm]
      simp
    · show (match E.w.heap[b]? with
        | some (.cells _ _ (lo, hi)) => decide (lo ≤ 0 + j) && decide (0 + j < hi)
        | _ => false) = false
      rw [hcs]
      have := hunf j hjc
      obtain ⟨f1, f2⟩ := fr
      simp only [Nat.zero_add] at this ⊢
      rw [← Bool.not_eq_true, Bool.and_eq_true, decide_eq_true_eq, decide_eq_true_eq]
      exact this
  have hblk : b < E.w.heap.size := (Array.getElem?_eq_some_iff.1 hcs).1
  have hcmp : Go.Proofs.CmpLays P g #[] enc e.size cf b 0 d.size E.w := by
    intro m os dk hdk x y
    refine Calls.mono (hcl x.1 y.1 _) fun en w' hq => ?_
    obtain ⟨c, h1, h2, h3⟩ := hq
    refine ⟨?_, h3⟩
    rw [h2]
    simp [cf, h1]
  have hcon := Go.Proofs.AnyQ.slices_SortFunc_total L e.size aE zE enc henc henc1 cf hO g #[] b 0 cap d E.w eg hcmp hH hblk (by rw [hdz]; exact h2) hT
  rw [hdz] at hcon
  refine Calls.mono hcon fun en w' hq => ?_
  obtain ⟨rfl, n, os, rfl⟩ := hq
  generalize hD : (d.toList.mergeSort fun x y => !(Go.Proofs.ltOf cf) y x) = D'
  have hDl : D'.length = xs.length := by rw [← hD, List.length_mergeSort]; simp [d]
  have hDm : D'.map Subtype.val = xs.mergeSort (fun x y => !sortLt cmp y x) := by
    rw [← hD, List.map_mergeSort (s := fun x y => !sortLt cmp y x) (fun a _ b _ => by rw [hlt])]
    congr 1
    simp [d]
  generalize hys : (xs.mergeSort (fun x y => !sortLt cmp y x)) = ys at hDm
  have hyl : ys.length = xs.length := by rw [← hDm, List.length_map, hDl]
  have hsize : (Go.Proofs.sortWorldK enc e.size E.w b 0 n D'.toArray os).heap.size = E.w.heap.size + os.size := by
    show ((E.w.heap.modify b _) ++ os).size = _
    simp
  have hat : (Go.Proofs.sortWorldK enc e.size E.w b 0 n D'.toArray os).heap[b]? = some (.cells (Sort.putCells id 0 (Go.Sort.flatK enc e.size D'.toArray) cs) T fr) := by
    show ((E.w.heap.modify b _) ++ os)[b]? = _
    rw [Array.getElem?_append_left (by simpa using hblk), Array.getElem?_modify]
    simp [hcs, Sort.onCells]
  have hoth : ∀ j, j ≠ b → j < E.w.heap.size → (Go.Proofs.sortWorldK enc e.size E.w b 0 n D'.toArray os).heap[j]? = E.w.heap[j]? := by
    intro j hjb hj
    show ((E.w.heap.modify b _) ++ os)[j]? = _
    rw [Array.getElem?_append_left (by simpa using hj), Array.getElem?_modify, if_neg (Ne.symm hjb)]
  generalize hW : Go.Proofs.sortWorldK enc e.size E.w b 0 n D'.toArray os = W' at hsize hat hoth ⊢
  have hos : W'.os = E.w.os ∧ W'.tape = E.w.tape ∧ W'.output = E.w.output := by subst hW; exact ⟨rfl, rfl, rfl⟩
  have hwz : W0.heap = E.w.heap := by rw [hw]
  have hnb : ∀ j, E.ok j → j ≠ b := fun j hj hjb => (hown 0 b ⟨_, hL, rfl, rfl⟩).2 (hjb ▸ hj)
  refine ⟨_, ⟨W', E.mu, E.ok⟩, rfl, rfl, ?_, fun m o ho => ?_, fun m L1 hL1 => ?_, ?_⟩
  · show VR _ (.tup []) _
    simp only [VR, VRL]
    exact ⟨[], rfl, rfl⟩
  · have : m = 0 ∧ o = .rows e ys := by
      have ho' : (m, some o) ∈ [((0 : Nat), some (AO.rows e ys))] := ho
      simpa using ho'
    obtain ⟨rfl, rfl⟩ := this
    refine ⟨_, hL, hyl.symm, .inr ⟨b, _, T, fr, rfl, rfl, hat, ?_, ?_, ?_, fun i hi => ?_⟩⟩
    · simpa [Sort.putCells] using hcz
    · simpa [hyl] using hcap
    · simpa [Sort.putCells] using hunf
    · refine (cvS_iff e hpl _ _).2 ?_
      have hix : i < xs.length := by rw [← hyl]; exact hi
      have hyi : ys[i] = (D'[i]'(by rw [hDl]; exact hix)).1 := by
        have h1 : (D'.map Subtype.val)[i]? = ys[i]? := by rw [hDm]
        rw [List.getElem?_map, List.getElem?_eq_getElem (by rw [hDl]; exact hix), List.getElem?_eq_getElem hi] at h1
        simpa using h1.symm
      have hcl : (cvS e ys[i]).length = e.size := by rw [hyi]; exact henc _
      have hik : (i + 1) * e.size ≤ xs.length * e.size := Nat.mul_le_mul_right _ hix
      rw [Nat.succ_mul] at hik
      apply List.ext_getElem?
      intro t
      by_cases ht : t < e.size
      · have hlt1 : i * e.size + t < cs.size := by omega
        rw [List.getElem?_take_of_lt ht, List.getElem?_drop, Array.getElem?_toList]
        simp only [Sort.putCells, Array.getElem?_mapIdx]
        rw [Array.getElem?_eq_getElem hlt1]
        simp only [Option.map_some, Nat.zero_le, Nat.zero_add, true_and, Nat.sub_zero, id]
        rw [if_pos (by rw [Go.Sort.size_flatK]; simp only [List.size_toArray]; rw [hDl]; omega), Go.Sort.get_flatK _ _ _ _ (by simp only [List.size_toArray]; rw [hDl]; omega)]
        have q1 : (i * e.size + t) / e.size = i := by
          rw [Nat.mul_comm, Nat.mul_add_div hsz, Nat.div_eq_of_lt ht]; rfl
        have q2 : (i * e.size + t) % e.size = t := by
          rw [Nat.mul_comm, Nat.mul_add_mod]; exact Nat.mod_eq_of_lt ht
        rw [q1, q2, getElem!_pos D'.toArray i (by simp only [List.size_toArray]; rw [hDl]; exact hix)]
        have : enc (D'.toArray[i]'(by simp only [List.size_toArray]; rw [hDl]; exact hix)) = cvS e ys[i] := by rw [hyi]; simp [enc]
        rw [this, getElem!_pos _ _ (by rw [hcl]; exact ht), ← List.getElem?_eq_getElem (by rw [hcl]; exact ht)]
      · rw [List.getElem?_eq_none (by simp; omega), List.getElem?_eq_none (by omega)]
  · have := (hmu m L1 hL1).2
    exact this
  · have how : ∀ m j, owns ⟨W', E.mu, E.ok⟩ m j → owns E m j := fun m j h => h
    refine ⟨fun m m' j h1 h2 => hinj m m' j h1 h2, fun m j h1 => ?_, fun j hj => ?_, fun j hj => hj, fun j hlt hnB => ?_, ?_, fun j hj => .inr hj, ?_, ?_, ?_, fun m L1 hL1 hm => ?_⟩
    · have := hown m j h1
      refine ⟨.inl ⟨m, h1⟩, ?_, this.2⟩
      show j < W'.heap.size
      omega
    · refine ⟨?_, .inl hj⟩
      have := hok j hj
      show j < W'.heap.size
      omega
    · rw [hwz] at hlt ⊢
      exact hoth j (fun hjb => hnB (.inl ⟨0, _, hL, rfl, by rw [hjb]⟩)) hlt
    · rw [hwz]; show _ ≤ W'.heap.size; omega
    · rw [hos.1, hw]
    · rw [hos.2.1, hw]
    · rw [hos.2.2, hw]
    · exact ⟨L1, (hmu m L1 hL1).1, rfl, rfl, rfl⟩
end Go.Tr
namespace Go.Proofs
open Go.Shelf Go.RowKit Go.Lib Go.Sort
variable {P : Program} {ρ : Ren}
set_option linter.unusedVariables false
end Go.Proofs
namespace Go.Tr
open Go Go.RowKit Go.Shelf
set_option linter.unusedVariables false
set_option linter.unusedSimpArgs false
end Go.Tr
