/- What reads errors says of the errors that this program makes. Conditions: the numbers' bounds. -/
import Derived.Test.YtfaaeeabiikhbaaGreatDoorErrT
import Derived.Test.YtfaaeeabiikhbaaGreatDoorBE
import Derived.Test.YtfaaeeabiikhbaaGreatDoorBF
namespace Go.Tr
open Go
set_option linter.unusedVariables false
set_option linter.unusedSimpArgs false
def i64 (n : Int) : Prop := -9223372036854775808 ≤ n ∧ n ≤ 9223372036854775807
theorem ok_nil : ErrOk eTy .nil := trivial
theorem ok_num {n : Int} (h : i64 n) : ErrOk eTy (eNum n) := ⟨rfl, rfl, h.1, h.2⟩
theorem ok_at {n : Int} {e : TErr} (h : i64 n) (hn : e ≠ .nil) (he : ErrOk eTy e) : ErrOk eTy (eAt n e) := ⟨rfl, h, hn, he⟩
theorem num_ne {n : Int} : eNum n ≠ .nil := by simp [eNum]
@[simp] theorem no_nil : errNo eTy .nil = 0 := rfl
@[simp] theorem no_num (n : Int) : errNo eTy (eNum n) = n := by simp [errNo, eNum, eTy]
@[simp] theorem no_at (n : Int) (e : TErr) : errNo eTy (eAt n e) = errNo eTy e := rfl
@[simp] theorem no_cmd (s : List UInt8) (e : TErr) : errNo eTy (eCmd s e) = errNo eTy e := rfl
@[simp] theorem at_nil : errAt eTy .nil = none := rfl
@[simp] theorem at_num (n : Int) : errAt eTy (eNum n) = none := rfl
@[simp] theorem at_at (n : Int) (e : TErr) : errAt eTy (eAt n e) = some n := by simp [errAt, eAt, eTy]
@[simp] theorem at_cmd (s : List UInt8) (e : TErr) : errAt eTy (eCmd s e) = errAt eTy e := rfl
@[simp] theorem errN_nil : errN .nil = true := rfl
@[simp] theorem errN_num (n : Int) : errN (eNum n) = false := rfl
@[simp] theorem errN_at (n : Int) (e : TErr) : errN (eAt n e) = false := rfl
@[simp] theorem errN_cmd (s : List UInt8) (e : TErr) : errN (eCmd s e) = false := rfl
end Go.Tr
