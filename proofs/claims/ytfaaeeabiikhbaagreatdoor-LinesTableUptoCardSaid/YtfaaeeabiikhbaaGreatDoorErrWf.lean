/- Contracts of what reads errors: printed by a program of ours. Conditions: none. -/
import Derived.Test.YtfaaeeabiikhbaaGreatDoorErrWd
import Derived.Test.YtfaaeeabiikhbaaGreatDoorErrWe
import Derived.Test.YtfaaeeabiikhbaaGreatDoorBH
namespace Go.Tr
open Go Go.Proofs Go.RowKit
set_option maxRecDepth 100000
set_option linter.unusedVariables false
def errTy (w : World) : Prop := w.cell? ⟨0, 0, none⟩ = some (.iface 162 (.agg #[.pointer (some ⟨14, 43, none⟩)]))
theorem X_Place [Tabs Tryz.prog] (hT : ∀ w, Tabs.G Tryz.prog w (fun b => b < w.heap.size) → errTy w) : FnX Tryz.prog 22 D_lines_Place (fun x => lines_Place x.1) := by
  refine FnX.of_ok rfl rfl ⟨_, Tryz.func22, by decide, rfl⟩ fun x y hxy w ok vs hG hok hvs => ?_
  obtain ⟨t, ⟨⟩⟩ := x
  obtain ⟨h0, hy⟩ := chk_some hxy
  obtain rfl := Option.some.inj hy
  replace hvs : VRL ⟨w, fun _ => none, ok⟩ [.er t] vs := hvs
  simp only [VRL, VR] at hvs
  obtain ⟨v, r, rfl, hv, rfl⟩ := hvs
  refine Calls.mono (Place_walk t h0 v w ok hv hok (hT w hG)) fun e w' hq => ?_
  obtain ⟨hq, hb⟩ := hq
  cases hE : errAt eTy t with
  | none =>
    simp only [hE] at hq ⊢
    subst hq
    exact ⟨_, ok, rfl, hb, fun b h => h, fun b h => ⟨Nat.lt_of_lt_of_le (hok b h) hb.size, .inl h⟩, _, rfl, _, _, rfl, rfl, _, _, rfl, rfl, rfl⟩
  | some n =>
    simp only [hE] at hq ⊢
    subst hq
    exact ⟨_, ok, rfl, hb, fun b h => h, fun b h => ⟨Nat.lt_of_lt_of_le (hok b h) hb.size, .inl h⟩, _, rfl, _, _, rfl, rfl, _, _, rfl, rfl, rfl⟩
theorem X_Number [Tabs Tryz.prog] (hT : ∀ w, Tabs.G Tryz.prog w (fun b => b < w.heap.size) → errTy w) : FnX Tryz.prog 23 D_lines_Number (fun x => lines_Number x.1) := by
  refine FnX.of_ok rfl rfl ⟨_, Tryz.func23, by decide, rfl⟩ fun x y hxy w ok vs hG hok hvs => ?_
  obtain ⟨t, ⟨⟩⟩ := x
  obtain ⟨h0, hy⟩ := chk_some hxy
  obtain rfl := Option.some.inj hy
  replace hvs : VRL ⟨w, fun _ => none, ok⟩ [.er t] vs := hvs
  simp only [VRL, VR] at hvs
  obtain ⟨v, r, rfl, hv, rfl⟩ := hvs
  refine Calls.mono (Number_walk t h0 v w ok hv hok (hT w hG)) fun e w' hq => ?_
  obtain ⟨rfl, hb⟩ := hq
  exact ⟨_, ok, rfl, hb, fun b h => h, fun b h => ⟨Nat.lt_of_lt_of_le (hok b h) hb.size, .inl h⟩, rfl⟩
theorem X_Is [Tabs Tryz.prog] : FnX Tryz.prog 52 D_errors_Is (fun x => errors_Is x.1 x.2.1) := by
  refine FnX.of_ok rfl rfl ⟨_, Tryz.func52, by decide, rfl⟩ fun x y hxy w ok vs hG hok hvs => ?_
  obtain ⟨t, u, ⟨⟩⟩ := x
  replace hvs : VRL ⟨w, fun _ => none, ok⟩ [.er t, .er u] vs := hvs
  simp only [errors_Is, isF] at hxy
  split at hxy
  · obtain ⟨⟨h0, rfl, rfl⟩, hy⟩ := chk_some hxy
    obtain rfl := Option.some.inj hy
    simp only [VRL, VR] at hvs
    obtain ⟨v, r, rfl, hv, v2, r2, rfl, hu, rfl⟩ := hvs
    simp only [ErrR] at hu
    subst hu
    refine Calls.mono (Is_walk t h0 v _ w ok hv hok) fun e w' hq => ?_
    obtain ⟨rfl, rfl⟩ := hq
    exact ⟨_, ok, rfl, Below.refl _ _, fun b h => h, fun b h => ⟨hok b h, .inl h⟩, rfl⟩
  · simp at hxy
end Go.Tr
