/- That a state says no more than another, as equations of its values.
   Conditions: none. -/
import Derived.Test.YthbkpjlimmckaaaTrX
namespace Go.Tr
open Go
set_option linter.unusedVariables false

mutual
def eqV : AV → AV → Prop
  | .int k n, .int k' m => Ob (k = k') ∧ Ob (n = m)
  | .bool b, .bool c => Ob (b = c)
  | .str l, .str m => Ob (l = m)
  | .agg l, .agg m => eqVs l m
  | .rsl n e o l, .rsl n' e' o' l' => Ob (n = n') ∧ Ob (e = e') ∧ Ob (o = o') ∧ Ob (l = l')
  | x, y => Ob (x = y)
def eqVs : List AV → List AV → Prop
  | [], [] => True
  | a :: l, b :: m => eqV a b ∧ eqVs l m
  | _, _ => False
end

mutual
theorem eqV_sound : ∀ {x y : AV}, eqV x y → x = y
  | x, y, h => by
    unfold eqV at h
    split at h
    · rw [h.1.out, h.2.out]
    · rw [h.out]
    · rw [h.out]
    · rw [eqVs_sound h]
    · rw [h.1.out, h.2.1.out, h.2.2.1.out, h.2.2.2.out]
    · exact h.out
theorem eqVs_sound : ∀ {l m : List AV}, eqVs l m → l = m
  | [], [], _ => rfl
  | a :: l, b :: m, h => by
    simp only [eqVs] at h
    rw [eqV_sound h.1, eqVs_sound h.2]
  | [], b :: m, h => by simp [eqVs] at h
  | a :: l, [], h => by simp [eqVs] at h
end

def eqO : AO → AO → Prop
  | .cells l, .cells m => eqVs l m
  | .fcl l, .fcl m => eqVs l m
  | .rows e xs, .rows e' ys => match decEq e e' with
    | isTrue h => Ob (h ▸ xs = ys)
    | isFalse _ => False
  | .frz e xs, .frz e' ys => match decEq e e' with
    | isTrue h => Ob (h ▸ xs = ys)
    | isFalse _ => False
  | _, _ => False

theorem eqO_sound {x y : AO} (h : eqO x y) : x = y := by
  unfold eqO at h
  split at h
  · rw [eqVs_sound h]
  · rw [eqVs_sound h]
  · split at h
    · rename_i h' _; subst h'; rw [← h.out]
    · exact h.elim
  · split at h
    · rename_i h' _; subst h'; rw [← h.out]
    · exact h.elim
  · exact h.elim

mutual
def nmB (N : Nat) : AV → Bool
  | .ptr n _ | .rsl n _ _ _ | .epr n _ _ _ | .csl n _ _ => Nat.blt n N
  | .fn _ x y => nmBs N x && nmBs N y
  | .ifc _ a => nmB N a
  | .agg l | .tup l => nmBs N l
  | .when _ a => nmB N a
  | .ite _ a b => nmB N a && nmB N b
  | _ => true
def nmBs (N : Nat) : List AV → Bool
  | [] => true
  | a :: l => nmB N a && nmBs N l
end

mutual
theorem nmB_sound {N : Nat} : ∀ {v : AV}, nmB N v = true → v.nm (fun n => n < N)
  | .ptr _ _, h | .rsl _ _ _ _, h | .epr _ _ _ _, h | .csl _ _ _, h => by
    simp only [nmB, Nat.blt_eq] at h; simpa only [AV.nm] using h
  | .fn _ x y, h => by
    simp only [nmB, Bool.and_eq_true] at h; simp only [AV.nm]; exact ⟨nmBs_sound h.1, nmBs_sound h.2⟩
  | .ifc _ a, h => by simp only [nmB] at h; simp only [AV.nm]; exact nmB_sound h
  | .agg l, h | .tup l, h => by simp only [nmB] at h; simp only [AV.nm]; exact nmBs_sound h
  | .when _ a, h => by simp only [nmB] at h; simp only [AV.nm]; exact fun _ => nmB_sound h
  | .ite _ a b, h => by
    simp only [nmB, Bool.and_eq_true] at h; simp only [AV.nm]; exact ⟨nmB_sound h.1, nmB_sound h.2⟩
  | .unk, h | .junk, h | .nilp, h | .nilsl, h | .nilif, h | .nilf, h => by simp [AV.nm]
  | .int _ _, h | .bool _, h | .str _, h | .fsl _ _, h | .fpt _ _ _, h | .arr _ _, h => by simp [AV.nm]
theorem nmBs_sound {N : Nat} : ∀ {l : List AV}, nmBs N l = true → AV.nms (fun n => n < N) l
  | [], h => by simp [AV.nms]
  | a :: l, h => by
    simp only [nmBs, Bool.and_eq_true] at h; simp only [AV.nms]; exact ⟨nmB_sound h.1, nmBs_sound h.2⟩
end

/-- What of a state is checked by reckoning. -/
def okT (r : Nat → Option Nat) (N : Nat) : List (Nat × AV) → Bool
  | [] => true
  | (_, v) :: q => AV.renOk r v && nmB N v && okT r N q
def okO (r : Nat → Option Nat) (N : Nat) : List (Nat × Option AO) → Bool
  | [] => true
  | (n, some (.cells l)) :: q => AV.rensOk r l && nmBs N l && Nat.blt n N && okO r N q
  | (n, some (.fcl l)) :: q => AV.rensOk r l && nmBs N l && Nat.blt n N && okO r N q
  | (n, some _) :: q => Nat.blt n N && okO r N q
  | (_, none) :: q => okO r N q

def subE (r : Nat → Option Nat) (g : Ga) : List (Nat × AV) → Prop
  | [] => True
  | (t, v) :: q => (match lkA g.tmps t with
    | some x => eqV x (AV.ren r v)
    | none => False) ∧ subE r g q
def subEO (r : Nat → Option Nat) (g : Ga) : List (Nat × Option AO) → Prop
  | [] => True
  | (n, some o) :: q => (match r n with
    | some m => match lkO g.objs m with
      | some x => eqO x (AO.ren r o)
      | none => False
    | none => Ob (emptyRows o)) ∧ subEO r g q
  | (_, none) :: q => subEO r g q

theorem subT_of {r : Nat → Option Nat} {g : Ga} {N : Nat} : ∀ {l : List (Nat × AV)}, okT r N l = true → subE r g l → subT r g N l
  | [], _, _ => trivial
  | (t, v) :: q, hb, he => by
    simp only [okT, Bool.and_eq_true] at hb
    simp only [subE] at he
    refine ⟨⟨?_, hb.1.1, nmB_sound hb.1.2⟩, subT_of hb.2 he.2⟩
    have := he.1
    split at this
    · rename_i x hx; rw [hx, eqV_sound this]
    · exact this.elim

theorem subO_of {r : Nat → Option Nat} {g : Ga} {N : Nat} : ∀ {l : List (Nat × Option AO)}, okO r N l = true → subEO r g l → subO r g N l
  | [], _, _ => trivial
  | (n, none) :: q, hb, he => by
    simp only [okO] at hb
    simp only [subEO] at he
    simp only [subO]
    exact subO_of hb he
  | (n, some o) :: q, hb, he => by
    simp only [subEO] at he
    have h1 : (match r n with
      | some m => lkO g.objs m = some (AO.ren r o)
      | none => emptyRows o) := by
      have := he.1
      split at this
      · rename_i m hm
        split at this
        · rename_i x hx; rw [hx, eqO_sound this]
        · exact this.elim
      · exact this.out
    cases o with
    | cells l =>
      simp only [okO, Bool.and_eq_true, Nat.blt_eq] at hb
      exact ⟨⟨h1, hb.1.1.1, by simpa only [AO.nm] using nmBs_sound hb.1.1.2, hb.1.2⟩, subO_of hb.2 he.2⟩
    | fcl l =>
      simp only [okO, Bool.and_eq_true, Nat.blt_eq] at hb
      exact ⟨⟨h1, hb.1.1.1, by simpa only [AO.nm] using nmBs_sound hb.1.1.2, hb.1.2⟩, subO_of hb.2 he.2⟩
    | rows e xs =>
      simp only [okO, Bool.and_eq_true, Nat.blt_eq] at hb
      exact ⟨⟨h1, trivial, trivial, hb.1⟩, subO_of hb.2 he.2⟩
    | frz e xs =>
      simp only [okO, Bool.and_eq_true, Nat.blt_eq] at hb
      exact ⟨⟨h1, trivial, trivial, hb.1⟩, subO_of hb.2 he.2⟩

theorem SubG.of {g G : Ga} {r : Nat → Option Nat} (hnt : G.nt = g.nt) (hb : (okT r G.next G.tmps && okO r G.next G.objs && injO r G.objs) = true) (ht : subE r g G.tmps) (ho : subEO r g G.objs) : SubG g G r := by
  simp only [Bool.and_eq_true] at hb
  exact ⟨hnt, subT_of hb.1.1 ht, subO_of hb.1.2 ho, hb.2⟩

/-- Two half bytes. -/
theorem or4 {a b : Int} (ha : 0 ≤ a) (ha' : a < 16) (hb : 0 ≤ b) (hb' : b < 16) :
    IntKind.u8.wrap ((BitVec.ofInt IntKind.u8.bits (IntKind.u8.wrap (a * 2 ^ min (Int.toNat 4) IntKind.u8.bits)) ||| BitVec.ofInt IntKind.u8.bits b).toNat : Int) = a * 16 + b := by
  have key : ∀ x y : Fin 16, (BitVec.ofInt 8 ((x : Nat) * 16 : Int) ||| BitVec.ofInt 8 (y : Nat)).toNat = x.val * 16 + y.val := by decide
  have e : (2 : Int) ^ min (Int.toNat 4) IntKind.u8.bits = 16 := rfl
  rw [e, u8_wrap, u8_wrap]
  have e1 : a * 16 % 256 = a * 16 := by omega
  rw [e1]
  have := key ⟨a.toNat, by omega⟩ ⟨b.toNat, by omega⟩
  simp only [Int.toNat_of_nonneg ha, Int.toNat_of_nonneg hb] at this
  show ((BitVec.ofInt 8 (a * 16) ||| BitVec.ofInt 8 b).toNat : Int) % 256 = _
  rw [this]
  omega

end Go.Tr
