/- Events as bytes: what the printed functions of layer 19 come to; numbers as bytes, readers. Events as bytes: what an event's bytes are, what is read of bytes. Events as bytes: an event's bytes, and what is read of them; the law of events. The law of events' bytes. The law of events' bytes. Conditions: none but those that each theorem states. -/
import Derived.Test.YtfaaeeabiikhbaaDoorScriptS
import Derived.Test.YtfaaeeabiikhbaaDoorCodec1D
namespace Go.Tr
open Go
set_option linter.unusedVariables false
set_option linter.unusedSimpArgs false
set_option maxRecDepth 100000
set_option maxHeartbeats 4000000
def be (n : Int) : Nat → List Int
  | 0 => []
  | k + 1 => n / 2 ^ (8 * k) % 256 :: be n k
end Go.Tr
namespace Go.Tr
open Go
set_option linter.unusedVariables false
set_option linter.unusedSimpArgs false
set_option maxRecDepth 100000
set_option maxHeartbeats 4000000
def okC (c : UInt8) : Bool := (decide (97 ≤ c.toNat) && decide (c.toNat ≤ 122)) || (decide (48 ≤ c.toNat) && decide (c.toNat ≤ 57))
def mayS (o : List UInt8) : Bool := o.all okC && (o != [] && decide (o.length ≤ 8))
theorem okC_not (c : UInt8) : ((decide (((c.toNat : Nat) : Int) < 97) || decide (((c.toNat : Nat) : Int) > 122)) && (decide (((c.toNat : Nat) : Int) < 48) || decide (((c.toNat : Nat) : Int) > 57))) = !okC c := by
  unfold okC
  rw [Bool.eq_iff_iff]
  simp
  omega
theorem may_body {o : List UInt8} (ho : o.length ≤ 140737488355328) (i : Nat) (hi : i < o.length) :
    held_May_b0 o ((o.length : Nat) : Int) (i : Int) = if okC (o.getD i 0) = true then some (.inl (o, ((o.length : Nat) : Int), ((i + 1 : Nat) : Int), ())) else some (.inr (.inr (false, ()))) := by
  unfold held_May_b0
  simp only [chk_same, chk_nn, ltO_def]
  rw [decide_eq_true (by omega), cnd_true, chk_pos (by omega), w64 (by omega) (by omega)]
  simp only [Int.toNat_natCast]
  rw [chk_pos (by intro h1 h2; rw [h1, h2]; rfl), okC_not, cnd_ite]
  cases okC (o.getD i 0) with
  | true => rfl
  | false => rfl
theorem May_eq {o : List UInt8} (ho : o.length ≤ 140737488355328) : held_May o = some (mayS o, ()) := by
  unfold held_May
  have L : held_May_l0 (o, ((o.length : Nat) : Int), 0, ()) = some (if (List.range' 0 o.length).all (fun i => okC (o.getD i 0)) = true then .inl (o, ()) else .inr (false, ())) := by
    unfold held_May_l0
    exact loopM_all (f := fun s : (List UInt8) × Int × Int × Unit => held_May_b0 s.1 s.2.1 s.2.2.1) (fun i => (o, ((o.length : Nat) : Int), (i : Int), ())) (fun i => okC (o.getD i 0)) (.inr (false, ())) (.inl (o, ())) o.length
      (fun i hi => by
        have := may_body ho i hi
        simp only at this ⊢
        rw [this])
      (by
        show held_May_b0 o ((o.length : Nat) : Int) ((o.length : Nat) : Int) = _
        unfold held_May_b0
        rw [decide_eq_false (by omega)]; rfl) o.length 0 (by omega)
  rw [L]
  have hall : (List.range' 0 o.length).all (fun i => okC (o.getD i 0)) = o.all okC := by
    rw [Bool.eq_iff_iff, List.all_eq_true, List.all_eq_true]
    constructor
    · intro h c hc
      obtain ⟨i, hi, rfl⟩ := List.mem_iff_getElem.1 hc
      have := h i (by simp [List.mem_range']; exact hi)
      simpa [List.getD_eq_getElem?_getD, hi] using this
    · intro h i hi
      have hi' : i < o.length := by simpa [List.mem_range'] using hi
      have := h o[i] (List.getElem_mem hi')
      simpa [List.getD_eq_getElem?_getD, hi'] using this
  rw [hall]
  unfold mayS
  cases h : o.all okC with
  | false => rfl
  | true =>
    simp only [if_true, bnd_val, sumO_inl, chk_same, ltO_def, Bool.true_and]
    congr 2
    rw [show decide (((o.length : Nat) : Int) ≤ 8) = decide (o.length ≤ 8) from by simp; omega]
    rfl
theorem group_eq' {m : TMac} (hm : by8 m.1) : mac_Group m = some (m.1 % 2 == 1, ()) := by
  unfold mac_Group bandI
  rw [chk_pos (by decide), and1 _ hm.1]; rfl
end Go.Tr
namespace Go.Tr
open Go
set_option linter.unusedVariables false
set_option linter.unusedSimpArgs false
set_option maxRecDepth 100000
set_option maxHeartbeats 4000000
end Go.Tr
namespace Go.Tr
open Go
set_option linter.unusedVariables false
set_option linter.unusedSimpArgs false
set_option maxRecDepth 100000
set_option maxHeartbeats 4000000
end Go.Tr
namespace Go.Tr
open Go
set_option linter.unusedVariables false
set_option linter.unusedSimpArgs false
set_option maxRecDepth 100000
set_option maxHeartbeats 4000000
end Go.Tr
