/- Rows that list package variables: what their lists give, and a world that fits them.
   Conditions: none. -/
import Derived.Test.YtbdgfpfafcjmgaaDoorVB
import Derived.LaidLaws
import Derived.Deep.DeepHandedRow
namespace Go.Tr
open Go
set_option linter.unusedVariables false

theorem laidMet_of_H {P : Program} {laid : List (String × DataW Unit)} {W : World} (hf : (laid.filter fun x => x.2.handleName?.isSome) = []) (h : laidMetH P laid W) : laidMet P laid W := by
  unfold laidMetH at h; rw [hf] at h; exact h
theorem laidMet_to_H {P : Program} {laid : List (String × DataW Unit)} {W : World} (hf : (laid.filter fun x => x.2.handleName?.isSome) = []) (h : laidMet P laid W) : laidMetH P laid W := by
  unfold laidMetH; rw [hf]; exact h

theorem tab_of_vars {P : Program} {W : World} {name : String} {k : IntKind} {zs : List Int} {g : Nat} {t e : TypeId} {n : Nat}
    (hg : P.globalNamed name = some g) (hty : (P.globals[g]?).map (·.type) = some t) (ht : P.underlying t = some (.array n e)) (he : P.underlying e = some (.int k)) (hce : P.cellsOf e = 1) (hct : P.cellsOf t = n) :
    ∀ {laid : List (String × DataW Unit)} {ps : List MemPlace}, DataW.LaidVars P W laid ps → (name, Lib.tabData k zs) ∈ laid → Lib.TabIs P W name k zs
  | [], ps, _, hm => by simp at hm
  | (m, d) :: r, ps, h, hm => by
    obtain ⟨g', t', cs, fuel, p, q, hg', ht', hvar, hd, hr, _⟩ := h
    rcases List.mem_cons.1 hm with hm | hm
    · simp only [Prod.mk.injEq] at hm
      obtain ⟨rfl, rfl⟩ := hm
      obtain rfl := Option.some.inj (hg.symm.trans hg')
      obtain rfl := Option.some.inj (hty.symm.trans ht')
      unfold Lib.TabIs
      rw [hvar, ← Lib.cells_of_tab ht he hce hct hd]
    · exact tab_of_vars hg hty ht he hce hct hr hm

/-- Is a variable an array of integers, a cell each? -/
def tabB (P : Program) (name : String) (k : IntKind) : Bool :=
  match P.globalNamed name with
  | some g => match (P.globals[g]?).map (·.type) with
    | some t => match P.underlying t with
      | some (.array n e) => (match P.underlying e with
        | some (.int k') => decide (k' = k)
        | _ => false) && (P.cellsOf e == 1) && (P.cellsOf t == n)
      | _ => false
    | none => false
  | none => false

theorem tabI_laid {P : Program} {W : World} {laid : List (String × DataW Unit)} {i : Nat}
    (hl : laid[i]? = some ("internal/strconv.uint64pow10", Lib.tabData .u64 Lib.pow10Tab)) (hf : (laid.filter fun x => x.2.handleName?.isSome) = [])
    (hb : tabB P "internal/strconv.uint64pow10" .u64 = true)
    (h : laidMetH P laid W) : VarIs P "internal/strconv.uint64pow10" (fun c => c = (Lib.pow10Tab.map fun z => Value.int .u64 z).toArray) W (fun b => b < W.heap.size) := by
  obtain ⟨ps, hv, _⟩ := laidMet_of_H hf h
  unfold tabB at hb
  split at hb
  · rename_i g hg
    split at hb
    · rename_i t ht
      split at hb
      · rename_i n e hu
        simp only [Bool.and_eq_true, beq_iff_eq] at hb
        obtain ⟨⟨h1, h2⟩, h3⟩ := hb
        split at h1
        · rename_i k' hk
          have hkk := of_decide_eq_true h1
          subst hkk
          exact VarIs.of_var (tab_of_vars hg ht hu hk h2 h3 hv (List.mem_of_getElem? hl)) rfl
        · simp at h1
      · simp at hb
    · simp at hb
  · simp at hb

/-! ### A world that fits -/

mutual
def cellsD : DataW Unit → List Value
  | .lit (.int k n) => [.int k n]
  | .lit (.bool b) => [.bool b]
  | .lit (.string l) => [.string ⟨l.toArray⟩]
  | .agg l => cellsDs l
  | _ => []
def cellsDs : List (DataW Unit) → List Value
  | [] => []
  | d :: r => cellsD d ++ cellsDs r
end

def laidW (P : Program) (l : List (String × DataW Unit)) (w : World) : World :=
  { w with heap := l.foldl (fun h p => match P.globalNamed p.1 with
      | some g => h.modify g fun
        | .cells _ t fr => .cells (cellsD p.2).toArray t fr
        | o => o
      | none => h) w.heap }

/-- Types of a program's own whose parts are its own, each of at most so many bytes. -/
def typesIn (P : Program) (K : Nat) : Bool :=
  (List.range P.types.size).all fun t => Nat.ble (P.bytesOf t) K && (match P.underlying t with
    | some (.pointer e) => Nat.blt e P.types.size
    | some (.slice e) => Nat.blt e P.types.size
    | some (.struct fs) => fs.toList.all fun f => Nat.blt f.type P.types.size
    | some (.array _ e) => Nat.blt e P.types.size
    | some (.map k e) => Nat.blt k P.types.size && Nat.blt e P.types.size
    | _ => true)

theorem typesIn_spec {P : Program} {K : Nat} (h : typesIn P K = true) {t : TypeId} (ht : t < P.types.size) : P.bytesOf t ≤ K ∧ (∀ e, P.underlying t = some (.pointer e) → e < P.types.size) ∧
    (∀ e, P.underlying t = some (.slice e) → e < P.types.size) ∧ (∀ fs, P.underlying t = some (.struct fs) → ∀ u ∈ fs.toList.map (·.type), u < P.types.size) ∧
    (∀ n e, P.underlying t = some (.array n e) → e < P.types.size) ∧ (∀ k e, P.underlying t = some (.map k e) → k < P.types.size ∧ e < P.types.size) := by
  have := List.all_eq_true.1 h t (List.mem_range.2 ht)
  rw [Bool.and_eq_true] at this
  obtain ⟨h1, h2⟩ := this
  refine ⟨by simpa using h1, fun e he => ?_, fun e he => ?_, fun fs he u hu => ?_, fun n e he => ?_, fun k e he => ?_⟩ <;> rw [he] at h2 <;> simp only at h2
  · simpa using h2
  · simpa using h2
  · obtain ⟨f, hf, rfl⟩ := List.mem_map.1 hu
    have := List.all_eq_true.1 h2 f hf
    simpa using this
  · simpa using h2
  · simpa using h2

end Go.Tr
