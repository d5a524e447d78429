/- What the second form's bound gives: each weight is at most the bulk times the greatest size of a type. Conditions: none. -/
import Derived.Test.YtfaaeeabiikhbaaGreatDoorTrW
import Derived.Test.YtfaaeeabiikhbaaGreatDoorBF
import Derived.Test.YtfaaeeabiikhbaaGreatDoorRows
namespace Go.Tr
open Go Go.Proofs Go.Proofs.YtfaaeeabiikhbaaGreatDoor
set_option linter.unusedVariables false
section
variable {H : Type} {P : Program} {K : Nat}
theorem mulK {a b K : Nat} (h : a ≤ b) : a * K ≤ b * K := Nat.mul_le_mul_right K h
mutual
theorem wd_le (hK : typesIn P K = true) (h1 : 1 ≤ K) : ∀ (d : DataW H) (t : TypeId) (m : Nat), t < P.types.size → m ∈ d.weights P t → m ≤ Rows.uptoBulk d * K
  | .lit (.string b), t, m, ht, h => by
    simp only [DataW.weights, List.mem_singleton] at h
    subst h
    simp only [Rows.uptoBulk]
    have := Nat.mul_le_mul (Nat.le_refl (b.length + 1)) h1
    omega
  | .lit (.int k n), t, m, ht, h => by simp [DataW.weights] at h
  | .lit (.bool b), t, m, ht, h => by simp [DataW.weights] at h
  | .lit l, t, m, ht, h => by
    cases l <;> first
      | (simp [DataW.weights] at h; done)
      | (simp only [DataW.weights, List.mem_singleton] at h; subst h; simp only [Rows.uptoBulk]; rename_i b; have := Nat.mul_le_mul (Nat.le_refl (b.length + 1)) h1; omega)
  | .nil, t, m, ht, h => by simp [DataW.weights] at h
  | .ptr d, t, m, ht, h => by
    simp only [DataW.weights] at h
    have hs := typesIn_spec hK ht
    split at h
    · rename_i e he
      have := wd_le hK h1 d _ m (hs.2.1 e he) h
      simp only [Rows.uptoBulk]
      have := @mulK (Rows.uptoBulk d) (Rows.uptoBulk d + 1) K (by omega)
      omega
    · simp at h
  | .slice e s, t, m, ht, h => by
    simp only [DataW.weights] at h
    simp only [Rows.uptoBulk]
    split at h
    · rename_i et he
      have hs := typesIn_spec hK ht
      have hl1 := len_le hK h1 e
      have hl2 := len_le hK h1 s
      rcases List.mem_cons.1 h with h | h
      · subst h
        have a := Nat.mul_le_mul (Nat.le_refl (e.length + s.length)) (typesIn_spec hK (hs.2.2.1 _ he)).1
        have b := @mulK (e.length + s.length) (Rows.uptoBulkAll e + Rows.uptoBulkAll s + 1) K (by omega)
        omega
      · rcases List.mem_append.1 h with h | h
        · have a := wda_le hK h1 e _ m (hs.2.2.1 _ he) h
          have b := @mulK (Rows.uptoBulkAll e) (Rows.uptoBulkAll e + Rows.uptoBulkAll s + 1) K (by omega)
          omega
        · have a := wda_le hK h1 s _ m (hs.2.2.1 _ he) h
          have b := @mulK (Rows.uptoBulkAll s) (Rows.uptoBulkAll e + Rows.uptoBulkAll s + 1) K (by omega)
          omega
    · simp at h
  | .agg l, t, m, ht, h => by
    simp only [DataW.weights] at h
    simp only [Rows.uptoBulk]
    have b := @mulK (Rows.uptoBulkAll l) (Rows.uptoBulkAll l + 1) K (by omega)
    have hs := typesIn_spec hK ht
    split at h
    · rename_i fs he
      have a := wde_le hK h1 l _ m (hs.2.2.2.1 fs he) h; omega
    · rename_i n e he
      have a := wda_le hK h1 l _ m (hs.2.2.2.2.1 n e he) h; omega
    · simp at h
  | .iface _ _, t, m, ht, h => by simp [DataW.weights] at h
  | .map es, t, m, ht, h => by
    simp only [DataW.weights] at h
    simp only [Rows.uptoBulk]
    split at h
    · rename_i kt et he
      have hs := (typesIn_spec hK ht).2.2.2.2.2 kt et he
      have hl := lene_le hK h1 es
      rcases List.mem_cons.1 h with h | h
      · subst h
        have a := Nat.mul_le_mul (Nat.le_refl es.length) (Nat.add_le_add (typesIn_spec hK hs.1).1 (typesIn_spec hK hs.2).1)
        have b := @mulK (2 * es.length) (Rows.uptoBulkEntries es + 1) K (by omega)
        rw [Nat.mul_assoc, Nat.mul_comm 2] at b
        have c : es.length * (K + K) = es.length * K * 2 := by rw [Nat.mul_add]; omega
        have d : (es.length * K) * 2 = es.length * K * 2 := rfl
        omega
      · have a := wdn_le hK h1 es _ m hs.2 h
        have b := @mulK (Rows.uptoBulkEntries es) (Rows.uptoBulkEntries es + 1) K (by omega)
        omega
    · simp at h
  | .held _, t, m, ht, h => by simp [DataW.weights] at h
theorem len_le (hK : typesIn P K = true) (h1 : 1 ≤ K) : ∀ (l : List (DataW H)), l.length ≤ Rows.uptoBulkAll l
  | [] => by simp
  | d :: r => by
    have := len_le hK h1 r
    have h2 : 1 ≤ Rows.uptoBulk d := by cases d <;> first | (simp [Rows.uptoBulk]; done) | (rename_i l; cases l <;> simp [Rows.uptoBulk])
    simp only [Rows.uptoBulkAll, List.length_cons]; omega
theorem wda_le (hK : typesIn P K = true) (h1 : 1 ≤ K) : ∀ (l : List (DataW H)) (t : TypeId) (m : Nat), t < P.types.size → m ∈ DataW.weightsAll P t l → m ≤ Rows.uptoBulkAll l * K
  | [], t, m, ht, h => by simp [DataW.weightsAll] at h
  | d :: r, t, m, ht, h => by
    simp only [DataW.weightsAll] at h
    simp only [Rows.uptoBulkAll]
    rw [Nat.add_mul]
    rcases List.mem_append.1 h with h | h
    · have := wd_le hK h1 d t m ht h; omega
    · have := wda_le hK h1 r t m ht h; omega
theorem wde_le (hK : typesIn P K = true) (h1 : 1 ≤ K) : ∀ (l : List (DataW H)) (ts : List TypeId) (m : Nat), (∀ t ∈ ts, t < P.types.size) → m ∈ DataW.weightsEach P ts l → m ≤ Rows.uptoBulkAll l * K
  | [], ts, m, ht, h => by cases ts <;> simp [DataW.weightsEach] at h
  | d :: r, [], m, ht, h => by simp [DataW.weightsEach] at h
  | d :: r, t :: ts, m, ht, h => by
    simp only [DataW.weightsEach] at h
    simp only [Rows.uptoBulkAll]
    rw [Nat.add_mul]
    rcases List.mem_append.1 h with h | h
    · have := wd_le hK h1 d t m (ht t (by simp)) h; omega
    · have := wde_le hK h1 r ts m (fun u hu => ht u (by simp [hu])) h; omega
theorem lene_le (hK : typesIn P K = true) (h1 : 1 ≤ K) : ∀ (l : List (Lit × DataW H)), 2 * l.length ≤ Rows.uptoBulkEntries l + 1
  | [] => by simp
  | (k, d) :: r => by
    have ih := lene_le hK h1 r
    have h2 : 1 ≤ Rows.uptoBulk d := by cases d <;> first | (simp [Rows.uptoBulk]; done) | (rename_i l; cases l <;> simp [Rows.uptoBulk])
    have h3 : 2 ≤ Rows.uptoBulkEntry (k, d) := by cases k <;> simp only [Rows.uptoBulkEntry] <;> omega
    simp only [Rows.uptoBulkEntries, List.length_cons]; omega
theorem wdn_le (hK : typesIn P K = true) (h1 : 1 ≤ K) : ∀ (l : List (Lit × DataW H)) (t : TypeId) (m : Nat), t < P.types.size → m ∈ DataW.weightsEntries P t l → m ≤ Rows.uptoBulkEntries l * K
  | [], t, m, ht, h => by simp [DataW.weightsEntries] at h
  | (k, d) :: r, t, m, ht, h => by
    simp only [DataW.weightsEntries] at h
    simp only [Rows.uptoBulkEntries]
    rw [Nat.add_mul]
    rcases List.mem_append.1 h with h | h
    · have h2 : m ≤ Rows.uptoBulkEntry (k, d) * K := by
        have hd := fun m h => wd_le hK h1 d t m ht h
        cases k with
        | string b =>
          simp only [DataW.weightsEntry] at h
          simp only [Rows.uptoBulkEntry]
          rcases List.mem_cons.1 h with h | h
          · subst h
            have := Nat.mul_le_mul (Nat.le_refl b.length) h1
            have := @mulK b.length (b.length + Rows.uptoBulk d + 1) K (by omega)
            omega
          · have := hd m h
            have := @mulK (Rows.uptoBulk d) (b.length + Rows.uptoBulk d + 1) K (by omega)
            omega
        | _ =>
          simp only [DataW.weightsEntry] at h
          simp only [Rows.uptoBulkEntry]
          have := hd m h
          have := @mulK (Rows.uptoBulk d) (Rows.uptoBulk d + 1) K (by omega)
          omega
      omega
    · have := wdn_le hK h1 r t m ht h; omega
end
end
theorem upto_le {H : Type} {P : Program} {K : Nat} (hK : typesIn P K = true) (h1 : 1 ≤ K) {ds gs : List (DataW H)} (hk : Rows.uptoSmall H (ds ++ gs) = true) {ts : List TypeId} (hts : ∀ t ∈ ts, t < P.types.size) :
    ∀ m ∈ DataW.weightsEach P ts ds, m ≤ 1048576 * K := by
  intro m hm
  have app : ∀ l r : List (DataW H), Rows.uptoBulkAll (l ++ r) = Rows.uptoBulkAll l + Rows.uptoBulkAll r := by
    intro l r
    induction l with
    | nil => simp [Rows.uptoBulkAll]
    | cons x l ih => simp only [List.cons_append, Rows.uptoBulkAll, ih]; omega
  have h : Rows.uptoBulkAll (ds ++ gs) ≤ 1048576 := of_decide_eq_true hk
  rw [app] at h
  have a := wde_le hK h1 ds ts m hts hm
  have b := @mulK (Rows.uptoBulkAll ds) 1048576 K (by omega)
  omega
end Go.Tr
