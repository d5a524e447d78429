/- What reads errors says of the errors that this program makes. Conditions: the numbers' bounds. -/
import Derived.Test.YtfaaeeabiikhbaaGreatDoorErrT
import Derived.Test.YtfaaeeabiikhbaaGreatDoorBE
import Derived.Test.YtfaaeeabiikhbaaGreatDoorBF
namespace Go.Tr
open Go
set_option linter.unusedVariables false
set_option linter.unusedSimpArgs false
def i64 (n : Int) : Prop := -9223372036854775808 ≤ n ∧ n ≤ 9223372036854775807
theorem ok_nil : ErrOk eTy .nil := trivial
theorem ok_num {n : Int} (h : i64 n) : ErrOk eTy (eNum n) := ⟨rfl, rfl, h.1, h.2⟩
theorem ok_at {n : Int} {e : TErr} (h : i64 n) (hn : e ≠ .nil) (he : ErrOk eTy e) : ErrOk eTy (eAt n e) := ⟨rfl, h, hn, he⟩
theorem ok_cmd {s : List UInt8} {e : TErr} (hn : e ≠ .nil) (he : ErrOk eTy e) : ErrOk eTy (eCmd s e) := ⟨by simp [eTy], hn, he⟩
theorem num_ne {n : Int} : eNum n ≠ .nil := by simp [eNum]
theorem cmd_ne {s : List UInt8} {e : TErr} : eCmd s e ≠ .nil := by simp [eCmd]
@[simp] theorem no_nil : errNo eTy .nil = 0 := rfl
@[simp] theorem no_num (n : Int) : errNo eTy (eNum n) = n := by simp [errNo, eNum, eTy]
@[simp] theorem no_at (n : Int) (e : TErr) : errNo eTy (eAt n e) = errNo eTy e := rfl
@[simp] theorem no_cmd (s : List UInt8) (e : TErr) : errNo eTy (eCmd s e) = errNo eTy e := rfl
@[simp] theorem at_nil : errAt eTy .nil = none := rfl
@[simp] theorem at_num (n : Int) : errAt eTy (eNum n) = none := rfl
@[simp] theorem at_at (n : Int) (e : TErr) : errAt eTy (eAt n e) = some n := by simp [errAt, eAt, eTy]
@[simp] theorem at_cmd (s : List UInt8) (e : TErr) : errAt eTy (eCmd s e) = errAt eTy e := rfl
@[simp] theorem errN_nil : errN .nil = true := rfl
@[simp] theorem errN_num (n : Int) : errN (eNum n) = false := rfl
@[simp] theorem errN_at (n : Int) (e : TErr) : errN (eAt n e) = false := rfl
@[simp] theorem errN_cmd (s : List UInt8) (e : TErr) : errN (eCmd s e) = false := rfl
theorem where_ok {e : TErr} (h : ErrOk eTy e) : command_Where e = some (match errAt eTy e with
    | none => (0, errNo eTy e, false, ())
    | some n => (n, errNo eTy e, true, ())) := by
  unfold command_Where whereF
  rw [chk_pos h]
  cases errAt eTy e <;> rfl
theorem fault_ok {at' n : Int} {s : List UInt8} (ha : i64 at') (hn : i64 n) : ErrOk eTy (eAt at' (eCmd s (eNum n))) := ok_at ha cmd_ne (ok_cmd num_ne (ok_num hn))
theorem quote_ok {s : List UInt8} (hs : s.length ≤ 1000000000000) : ∃ q, strconv_Quote s = some (q, ()) := by
  unfold strconv_Quote
  rw [chk_pos (by omega)]
  exact ⟨_, rfl⟩
end Go.Tr
