/- Bounds of a law's arguments, as the law of any state's bytes wants them. Conditions: none. -/
import Derived.Test.YtdbpknejbpiebaaCodecW
import Derived.Test.YtdbpknejbpiebaaCodecT
namespace Go.Tr
open Go
theorem sl_all {M : Nat} {e : Sh} {l : List e.T} (h : wfS M (.sl e) l) : ∀ x ∈ l, wfS M e x := by
  intro x hx
  obtain ⟨i, hi, rfl⟩ := List.mem_iff_getElem.1 hx
  exact h.2 i hi
theorem sl_len {M : Nat} {e : Sh} {l : List e.T} (h : wfS M (.sl e) l) (he : 1 ≤ e.nb) : l.length ≤ M := by
  have h1 := h.1
  have : l.length * 1 ≤ l.length * e.nb := Nat.mul_le_mul_left _ he
  omega
abbrev shMac : Sh := .pair (.int .u8) (.pair (.int .u8) (.pair (.int .u8) (.pair (.int .u8) (.pair (.int .u8) (.int .u8)))))
abbrev shHold : Sh := .pair (.int .u32) (.pair .str shMac)
abbrev shSweep : Sh := .pair (.pair (.int .u32) (.int .i64)) (.pair (.int .i64) (.int .i64))
abbrev shSight : Sh := .pair (.int .i64) (.pair shMac (.int .i64))
abbrev shKnown : Sh := .pair (.int .u32) (.sl shSight)
abbrev shProbe : Sh := .pair (.int .u32) (.pair (.int .i64) (.pair (.int .i64) (.pair (.int .i64) (.int .i64))))
abbrev shCase : Sh := .pair (.int .u32) (.pair (.int .i64) (.pair (.int .i64) (.int .i64)))
abbrev shState : Sh := .pair (.int .i64) (.pair (.int .i64) (.pair (.sl shHold) (.pair (.sl shSweep) (.pair (.sl shKnown) (.pair (.sl shProbe) (.sl shCase))))))
theorem raw_wf {M : Nat} (hM : M ≤ 140737488355328) {s : TState} (h : wfS M shState s) : RawWf s := by
  obtain ⟨_, _, h1, h2, h3, h4, h5⟩ := h
  have le : ∀ n : Nat, n ≤ M → n ≤ 140737488355328 := fun n h => by omega
  refine ⟨⟨fun x hx => ?_, le _ (sl_len h1 (by decide)), fun x hx => ?_, le _ (sl_len h2 (by decide)), fun x hx => ?_, le _ (sl_len h3 (by decide)), fun x hx => ?_, le _ (sl_len h4 (by decide)), fun x hx => ?_, le _ (sl_len h5 (by decide))⟩, fun x hx y hy => ?_⟩
  · have := sl_all h1 x hx
    exact ⟨u32_wf this.1, le _ (str_wf this.2.1), m6_wf this.2.2⟩
  · exact u32_wf (sl_all h2 x hx).1.1
  · have := sl_all h3 x hx
    exact ⟨u32_wf this.1, fun y hy => m6_wf (sl_all this.2 y hy).2.1⟩
  · exact u32_wf (sl_all h4 x hx).1
  · exact u32_wf (sl_all h5 x hx).1
  · exact i64_wf (sl_all (sl_all h3 x hx).2 y hy).2.2
end Go.Tr
