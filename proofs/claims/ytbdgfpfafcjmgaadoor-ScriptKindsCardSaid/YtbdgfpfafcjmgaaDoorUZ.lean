/- Rules for the words of which the printed functions are made: as equations, and as what must hold of a result.
   Conditions: none. -/
import Derived.Test.YtbdgfpfafcjmgaaDoorUA
namespace Go.Tr
open Go
set_option linter.unusedVariables false
universe u v

@[simp] theorem cnd_true {X : Type} (x y : Option X) : cnd true x y = x := rfl
@[simp] theorem cnd_false {X : Type} (x y : Option X) : cnd false x y = y := rfl
theorem cnd_ite {X : Type} (b : Bool) (x y : Option X) : cnd b x y = if b = true then x else y := by cases b <;> rfl
@[simp] theorem chk_true {X : Type} (x : Option X) : chk True x = x := chk_pos trivial x
theorem chk_of_pos {X : Type} {p : Prop} (h : p) {x : Option X} : chk p x = x := chk_pos h x
@[simp] theorem chk_same {X : Type} (p : Prop) (x : Option X) : chk (p → p) x = x := chk_pos (fun h => h) x
@[simp] theorem chk_nn {X : Type} (b : Bool) (x : Option X) : chk (b = false → (!b) = true) x = x := chk_pos (by cases b <;> simp) x
@[simp] theorem chk_and {X : Type} (a b : Bool) (x : Option X) : chk (a = true → b = true → (a && b) = true) x = x := chk_pos (by cases a <;> cases b <;> simp) x
theorem ltO_def {α X : Type} (v : α) (f : α → Option X) : ltO v f = f v := rfl
@[simp] theorem bnd_val {Y X : Type} (y : Y) (f : Y → Option X) : bnd (some y) f = f y := rfl
@[simp] theorem bndG_val {Y X : Type} (c : Bool) (y d : Y) (f : Y → Option X) : bndG c (some y) d f = f y := by
  unfold bndG; rw [chk_pos (by simp)]; rfl
@[simp] theorem bndG_false {Y X : Type} (y : Option Y) (d : Y) (f : Y → Option X) : bndG false y d f = f (y.getD d) := by
  unfold bndG; rw [chk_pos (by simp)]
theorem bndG_true {Y X : Type} (y : Option Y) (d : Y) (f : Y → Option X) : bndG true y d f = bnd y f := by
  cases y with
  | none => unfold bndG; rw [chk_neg (by simp)]; rfl
  | some y => simp
@[simp] theorem sumO_inl {A B X : Type} (a : A) (f : A → Option X) (h : B → Option X) : sumO (.inl a) f h = f a := rfl
@[simp] theorem sumO_inr {A B X : Type} (b : B) (f : A → Option X) (h : B → Option X) : sumO (.inr b) f h = h b := rfl

/-- One round. -/
theorem loopM_next {S Y : Type} {f : S → Option (S ⊕ Y)} {s s' : S} (h : f s = some (.inl s')) : loopM f s = loopM f s' := by
  rw [loopM_eq, h]
theorem loopM_last {S Y : Type} {f : S → Option (S ⊕ Y)} {s : S} {y : Y} (h : f s = some (.inr y)) : loopM f s = some y := by
  rw [loopM_eq, h]

/-- Rounds whose states are known. -/
theorem loopM_steps {S Y : Type} {f : S → Option (S ⊕ Y)} (St : Nat → S) {a n : Nat} (han : a ≤ n) (h : ∀ i, a ≤ i → i < n → f (St i) = some (.inl (St (i + 1)))) : loopM f (St a) = loopM f (St n) := by
  induction n with
  | zero => rw [show a = 0 from by omega]
  | succ n ih =>
    by_cases e : a = n + 1
    · rw [e]
    · rw [ih (by omega) fun i h1 h2 => h i h1 (by omega), loopM_next (h n (by omega) (by omega))]

/-- Rounds that go on as long as something holds. -/
theorem loopM_all {S Y : Type} {f : S → Option (S ⊕ Y)} (St : Nat → S) (c : Nat → Bool) (e y : Y) (N : Nat) (h : ∀ i, i < N → f (St i) = if c i = true then some (.inl (St (i + 1))) else some (.inr e)) (hN : f (St N) = some (.inr y)) :
    ∀ n k, k + n = N → loopM f (St k) = some (if (List.range' k n).all c = true then y else e)
  | 0, k, hk => by
    rw [show k = N from by omega, loopM_last hN]; rfl
  | n + 1, k, hk => by
    have hk' := h k (by omega)
    rw [List.range'_succ, List.all_cons]
    cases hc : c k with
    | false => rw [hc] at hk'; rw [loopM_last hk']; rfl
    | true =>
      rw [hc] at hk'; rw [loopM_next hk', loopM_all St c e y N h hN n (k + 1) (by omega)]; rfl

/-! ### What holds of a result -/

def Ok {X : Type} (x : Option X) (Q : X → Prop) : Prop := ∃ y, x = some y ∧ Q y

theorem Ok.mono {X : Type} {x : Option X} {Q R : X → Prop} (h : Ok x Q) (hq : ∀ y, Q y → R y) : Ok x R := by
  obtain ⟨y, h1, h2⟩ := h; exact ⟨y, h1, hq y h2⟩
theorem Ok.some {X : Type} {y : X} {Q : X → Prop} (h : Q y) : Ok (some y) Q := ⟨y, rfl, h⟩
theorem Ok.some' {X : Type} {y : X} {Q : X → Prop} (h : Ok (Option.some y) Q) : Q y := by
  obtain ⟨z, h1, h2⟩ := h; cases h1; exact h2
theorem Ok.chk {X : Type} {p : Prop} {x : Option X} {Q : X → Prop} (hp : p) (h : Ok x Q) : Ok (chk p x) Q := by
  rw [chk_pos hp]; exact h
theorem Ok.chks {X : Type} {p : Prop} {x : Option X} {Q : X → Prop} (h : Ok x Q) : Ok (Go.Tr.chk (p → p) x) Q := by
  rw [chk_pos fun h => h]; exact h
theorem Ok.lt {α X : Type} {v : α} {f : α → Option X} {Q : X → Prop} (h : ∀ x, x = v → Ok (f x) Q) : Ok (ltO v f) Q := h v rfl
theorem Ok.cnd {X : Type} {b : Bool} {x y : Option X} {Q : X → Prop} (h1 : b = true → Ok x Q) (h2 : b = false → Ok y Q) : Ok (cnd b x y) Q := by
  cases b with
  | true => exact h1 rfl
  | false => exact h2 rfl
theorem Ok.bnd {Y X : Type} {y : Option Y} {f : Y → Option X} {R : Y → Prop} {Q : X → Prop} (h : Ok y R) (h2 : ∀ z, R z → Ok (f z) Q) : Ok (bnd y f) Q := by
  obtain ⟨z, rfl, hz⟩ := h; exact h2 z hz
theorem Ok.bndG {Y X : Type} {c : Bool} {y : Option Y} {d : Y} {f : Y → Option X} {R : Y → Prop} {Q : X → Prop} (h : c = true → Ok y R) (h2 : ∀ z, (c = true → R z) → Ok (f z) Q) : Ok (bndG c y d f) Q := by
  unfold Go.Tr.bndG
  refine Ok.chk (fun hc => ?_) (h2 _ fun hc => ?_)
  · obtain ⟨z, rfl, hz⟩ := h hc; rfl
  · obtain ⟨z, rfl, hz⟩ := h hc; exact hz
theorem Ok.loop {S Y : Type} {f : S → Option (S ⊕ Y)} {Q : Y → Prop} (I : S → Prop) (μ : S → Nat) {s : S} (hs : I s)
    (h : ∀ s, I s → Ok (f s) fun r => match r with
      | .inl s' => I s' ∧ μ s' < μ s
      | .inr y => Q y) : Ok (loopM f s) Q := by
  suffices H : ∀ n s, μ s < n → I s → Ok (loopM f s) Q from H _ s (Nat.lt_succ_self _) hs
  intro n
  induction n with
  | zero => intro s hn; omega
  | succ n ih =>
    intro s hn hI
    obtain ⟨r, hr, hq⟩ := h s hI
    cases r with
    | inl s' => rw [loopM_next hr]; exact ih s' (by have := hq.2; omega) hq.1
    | inr y => exact ⟨y, loopM_last hr, hq⟩

/-! ### Numbers -/

@[simp] theorem room1 (n : Nat) : room 1 n ↔ n * 1 ≤ 140737488355328 := Iff.rfl

/-- What holds of all bytes. -/
theorem all_u8 {p : Int → Prop} [DecidablePred p] (h : ∀ n : Fin 256, p (n.val : Int)) {a : Int} (h0 : 0 ≤ a) (h1 : a < 256) : p a := by
  have := h ⟨a.toNat, by omega⟩
  simp only [Int.toNat_of_nonneg h0] at this
  exact this
theorem all_n {p : Int → Prop} (m : Nat) (h : ∀ n : Fin m, p (n.val : Int)) {a : Int} (h0 : 0 ≤ a) (h1 : a < m) : p a := by
  have := h ⟨a.toNat, by omega⟩
  simp only [Int.toNat_of_nonneg h0] at this
  exact this

end Go.Tr
