/- Contracts of what reads errors: printed by a program of ours. Conditions: none. -/
import Derived.Test.YtfaaeeabiikhbaaGreatDoorErrWd
import Derived.Test.YtfaaeeabiikhbaaGreatDoorErrWe
import Derived.Test.YtfaaeeabiikhbaaGreatDoorBH
namespace Go.Tr
open Go Go.Proofs Go.RowKit
set_option maxRecDepth 100000
set_option linter.unusedVariables false
def errTy (w : World) : Prop := w.cell? ⟨0, 0, none⟩ = some (.iface 162 (.agg #[.pointer (some ⟨14, 43, none⟩)]))
theorem X_Where [Tabs Tryz.prog] (hT : ∀ w, Tabs.G Tryz.prog w (fun b => b < w.heap.size) → errTy w) : FnX Tryz.prog 17 D_command_Where (fun x => command_Where x.1) := by
  refine FnX.of_ok rfl rfl ⟨_, Tryz.func17, by decide, rfl⟩ fun x y hxy w ok vs hG hok hvs => ?_
  obtain ⟨t, ⟨⟩⟩ := x
  obtain ⟨h0, hy⟩ := chk_some hxy
  obtain rfl := Option.some.inj hy
  replace hvs : VRL ⟨w, fun _ => none, ok⟩ [.er t] vs := hvs
  simp only [VRL, VR] at hvs
  obtain ⟨v, r, rfl, hv, rfl⟩ := hvs
  refine Calls.mono (Where_walk t h0 v w ok hv hok (hT w hG)) fun e w' hq => ?_
  obtain ⟨hq, hb⟩ := hq
  cases hE : errAt eTy t with
  | none =>
    simp only [hE] at hq ⊢
    subst hq
    exact ⟨_, ok, rfl, hb, fun b h => h, fun b h => ⟨Nat.lt_of_lt_of_le (hok b h) hb.size, .inl h⟩, _, rfl, _, _, rfl, rfl, _, _, rfl, rfl, _, _, rfl, rfl, rfl⟩
  | some n =>
    simp only [hE] at hq ⊢
    subst hq
    exact ⟨_, ok, rfl, hb, fun b h => h, fun b h => ⟨Nat.lt_of_lt_of_le (hok b h) hb.size, .inl h⟩, _, rfl, _, _, rfl, rfl, _, _, rfl, rfl, _, _, rfl, rfl, rfl⟩
end Go.Tr
