/- Rounds of a loop, counted; numbers.
   Conditions: none. -/
import Derived.Test.YthbkpjlimmckaaaTrW
import Derived.LoopN
namespace Go.Tr
open Go
set_option linter.unusedVariables false

/-- As many rounds as that, and less. -/
noncomputable def evR (P : Program) (C : Ctx) (c : Code) (k : Exit → Ga → Prop) (n : Nat) : Ga → Prop :=
  Nat.rec (motive := fun _ => Ga → Prop) (fun _ => False) (fun _ ih g => ev P C c g fun e g' => match e with
    | .normal => ih g'
    | e => k e g') n
theorem evR_succ (P : Program) (C : Ctx) (c : Code) (k : Exit → Ga → Prop) (n : Nat) (g : Ga) : evR P C c k (n + 1) g = ev P C c g fun e g' => match e with
    | .normal => evR P C c k n g'
    | e => k e g' := rfl

theorem evR_rounds {P : Program} {C : Ctx} (hC : CtxOK P C) (hmix : P.follows .mixedOrders = true) {c : Code} {k : Exit → Ga → Prop} {W0 : World} {okIn B : Nat → Prop} :
    ∀ {n : Nat} {g : Ga} {E : Env} {a : Act}, evR P C c k n g → SimG W0 okIn B g E a → Code.rounds P c (fun e a' w' => ∃ g' E', k e g' ∧ E'.w = w' ∧ SimG W0 okIn B g' E' a') n a E.w
  | 0, g, E, a, h, hs => h.elim
  | n + 1, g, E, a, h, hs => by
    rw [evR_succ] at h
    rw [rounds_succ]
    refine wp_mono (ev_sound hC hmix _ _ _ h W0 okIn B E a hs) fun e a' w' hq => ?_
    obtain ⟨g', E', h1, rfl, h3⟩ := hq
    cases e with
    | normal => exact evR_rounds hC hmix h1 h3
    | _ => exact ⟨g', E', h1, rfl, h3⟩

theorem Trip.rounds {P : Program} {C : Ctx} (hC : CtxOK P C) (hmix : P.follows .mixedOrders = true) {c : Code} {k : Exit → Ga → Prop} {g : Ga} (n : Nat) (h : evR P C c k n g) : Looped P c g k :=
  ⟨fun W0 okIn B E a hs => wp_loop_rounds n (evR_rounds hC hmix h hs)⟩

theorem u8_wrap (n : Int) : IntKind.u8.wrap n = n % 256 := by simp [IntKind.wrap, IntKind.signed, IntKind.bits]
theorem u16_wrap (n : Int) : IntKind.u16.wrap n = n % 65536 := by simp [IntKind.wrap, IntKind.signed, IntKind.bits]
theorem u32_wrap (n : Int) : IntKind.u32.wrap n = n % 4294967296 := by simp [IntKind.wrap, IntKind.signed, IntKind.bits]
theorem u64_wrap (n : Int) : IntKind.u64.wrap n = n % 18446744073709551616 := by simp [IntKind.wrap, IntKind.signed, IntKind.bits]
theorem i8_wrap (n : Int) : IntKind.i8.wrap n = (n + 128) % 256 - 128 := by
  simp only [IntKind.wrap, IntKind.signed, IntKind.bits]; simp <;> (try split) <;> omega
theorem i64_wrap (n : Int) : IntKind.i64.wrap n = (n + 9223372036854775808) % 18446744073709551616 - 9223372036854775808 := by
  simp only [IntKind.wrap, IntKind.signed, IntKind.bits]; simp <;> (try split) <;> omega

theorem byte_lt (x : UInt8) : ((x.toNat : Nat) : Int) < 256 := by
  have := x.toNat_lt
  omega

mutual
theorem leA_refl : ∀ (a : AV), leA a a
  | .tup l => by simp only [leA]; exact leAs_refl l
  | .agg l => by simp only [leA]; exact leAs_refl l
  | .unk | .junk | .nilp | .nilsl | .nilif | .nilf => by simp [leA]
  | .int _ _ | .bool _ | .str _ => by simp [leA]
  | .fsl _ _ | .fpt _ _ _ | .ptr _ _ | .rsl _ _ _ _ | .epr _ _ _ _ | .csl _ _ _ | .fn _ _ _ | .ifc _ _ | .arr _ _ | .when _ _ | .ite _ _ _ => by simp [leA]
theorem leAs_refl : ∀ (l : List AV), leAs l l
  | [] => by simp [leAs]
  | a :: l => by simp only [leAs]; exact ⟨leA_refl a, leAs_refl l⟩
end

theorem leA_of_eq {a b : AV} (h : a = b) : leA a b := h ▸ leA_refl a

theorem chk_of {ops : List Oper} {tr : List Tr} (h : chkA ops tr = true) : Ob (chkA ops tr = true) := ⟨h⟩
theorem byte_of (x : UInt8) : Ob (0 ≤ ((x.toNat : Nat) : Int) ∧ ((x.toNat : Nat) : Int) < 256) := ⟨Int.natCast_nonneg _, byte_lt x⟩

theorem shr4 (a : Int) (h : 0 ≤ a) : a.fdiv (2 ^ min (Int.toNat 4) IntKind.u8.bits) = a / 16 := by
  rw [Int.fdiv_eq_ediv_of_nonneg _ (by decide)]; rfl

/-- A mask of the last bits. -/
theorem and_mask {b : Nat} {a m : Int} (j : Nat) (h : 0 ≤ a) (hm : m = 2 ^ j - 1) (hj : j ≤ b) : ((BitVec.ofInt b a &&& BitVec.ofInt b m).toNat : Int) = a % 2 ^ j := by
  obtain ⟨n, rfl⟩ := Int.eq_ofNat_of_zero_le h
  have e1 : BitVec.ofInt b (n : Int) = BitVec.ofNat b n := by simp
  have e2 : BitVec.ofInt b m = BitVec.ofNat b (2 ^ j - 1) := by
    have : m = ((2 ^ j - 1 : Nat) : Int) := by
      rw [hm, Int.natCast_sub Nat.one_le_two_pow]; simp
    rw [this, BitVec.ofInt_natCast]
  rw [e1, e2, BitVec.toNat_and, BitVec.toNat_ofNat, BitVec.toNat_ofNat]
  have h1 : (2 ^ j - 1) % 2 ^ b = 2 ^ j - 1 := Nat.mod_eq_of_lt (by
    have := Nat.pow_le_pow_right (n := 2) (by omega) hj
    have : 1 ≤ 2 ^ j := Nat.one_le_two_pow
    omega)
  rw [h1, Nat.and_two_pow_sub_one_eq_mod, Nat.mod_mod_of_dvd _ (Nat.pow_dvd_pow 2 hj)]
  simp

theorem and15 (a : Int) (h : 0 ≤ a) : IntKind.u8.wrap ((BitVec.ofInt IntKind.u8.bits a &&& BitVec.ofInt IntKind.u8.bits 15).toNat : Int) = a % 16 := by
  rw [u8_wrap, and_mask (j := 4) h (by decide) (by decide)]
  omega
theorem and1 (a : Int) (h : 0 ≤ a) : IntKind.u8.wrap ((BitVec.ofInt IntKind.u8.bits a &&& BitVec.ofInt IntKind.u8.bits 1).toNat : Int) = a % 2 := by
  rw [u8_wrap, and_mask (j := 1) h (by decide) (by decide)]
  omega

end Go.Tr
