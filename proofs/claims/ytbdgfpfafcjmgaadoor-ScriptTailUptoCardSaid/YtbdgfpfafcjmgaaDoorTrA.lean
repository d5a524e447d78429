/- Abstract values for the model's values: closed data by shapes, objects by names; what an abstract value says of a value in a world.
   Conditions: none; definitions and their first laws. -/
import Derived.Orders
import Derived.Laws.Sem
namespace Go.Tr
open Go
set_option linter.unusedVariables false

/-- Shapes of closed data. -/
inductive Sh where
  | int (k : IntKind) | bool | str | sl (e : Sh) | arr (n : Nat) (e : Sh) | unit | pair (x y : Sh)
  deriving DecidableEq

@[reducible] def Sh.T : Sh → Type
  | .int _ => Int
  | .bool => Bool
  | .str => List UInt8
  | .sl e => List (Sh.T e)
  | .arr _ e => List (Sh.T e)
  | .unit => Unit
  | .pair a b => Sh.T a × Sh.T b

def Sh.size : Sh → Nat
  | .int _ | .bool | .str | .sl _ => 1
  | .arr n e => n * e.size
  | .unit => 0
  | .pair a b => a.size + b.size

def Sh.dflt : (s : Sh) → s.T
  | .int _ => (0 : Int)
  | .bool => false
  | .str => ([] : List UInt8)
  | .sl _ => ([] : List _)
  | .arr n e => List.replicate n e.dflt
  | .unit => ()
  | .pair a b => (a.dflt, b.dflt)

/-- Abstract values. -/
inductive AV where
  | unk | junk
  | int (k : IntKind) (n : Int)
  | bool (b : Bool)
  | str (l : List UInt8)
  | nilp | nilsl | nilif | nilf
  | fsl (e : Sh) (xs : List e.T)
  | fpt (e : Sh) (x : e.T) (off : Nat)
  | ptr (n off : Nat)
  | rsl (n : Nat) (e : Sh) (off len : Nat)
  | epr (n : Nat) (e : Sh) (i off : Nat)
  | csl (n off len : Nat)
  | own (n : Nat) (e : Sh)
  | cpr (n off i m : Nat)
  | fn (f : FuncId) (first cap : List AV)
  | ifc (t : TypeId) (v : AV)
  | agg (l : List AV)
  | arr (e : Sh) (xs : List e.T)
  | tup (l : List AV)
  | when (g : Bool) (v : AV)
  | ite (c : Bool) (x y : AV)

/-- Abstract objects: a variable's cells; a row that is owned; a row that is not written any more. -/
inductive AO where
  | cells (l : List AV)
  | rows (e : Sh) (xs : List e.T)
  | frz (e : Sh) (xs : List e.T)
  | fcl (l : List AV)

/-- Where an object lies. -/
structure Loc where
  base : Option Addr
  cap : Nat
  own : Bool
  len : Nat

/-- A world, and where the objects lie that came in. -/
structure WX extends World where
  m0 : Nat → Option Loc

structure Env where
  w : World
  mu : Nat → Option Loc
  ok : Nat → Prop

def leafV : Value → Prop
  | .agg _ | .tuple _ => False
  | _ => True

/-- The cells from an offset on. -/
def Row (w : World) (b o : Nat) (cs : List Value) : Prop := ∀ j (h : j < cs.length), w.cell? ⟨b, o + j, none⟩ = some cs[j]

def LRs (w : World) (ok : Nat → Prop) : (s : Sh) → s.T → List Value → Prop
  | .int k, n, vs => vs = [.int k n]
  | .bool, b, vs => vs = [.bool b]
  | .str, l, vs => vs = [.string ⟨l.toArray⟩]
  | .sl e, xs, vs => ∃ base cap, vs = [.slice base (List.length xs) cap] ∧ List.length xs ≤ cap ∧
      (List.length xs = 0 ∨ ∃ b o, base = some ⟨b, o, none⟩ ∧ ok b ∧ ∀ i (h : i < List.length xs), ∃ cs, cs.length = e.size ∧ Row w b (o + i * e.size) cs ∧ LRs w ok e (xs[i]'h) cs)
  | .arr n e, xs, vs => List.length xs = n ∧ vs.length = n * e.size ∧ ∀ i (h : i < List.length xs), LRs w ok e (xs[i]'h) ((vs.drop (i * e.size)).take e.size)
  | .unit, _, vs => vs = []
  | .pair a b, x, vs => ∃ v1 v2, vs = v1 ++ v2 ∧ LRs w ok a (Prod.fst x) v1 ∧ LRs w ok b (Prod.snd x) v2

mutual
def VR (E : Env) : AV → Value → Prop
  | .unk, _ => True
  | .junk, v => leafV v
  | .int k n, v => v = .int k n
  | .bool b, v => v = .bool b
  | .str l, v => v = .string ⟨l.toArray⟩
  | .nilp, v => v = .pointer none
  | .nilsl, v => v = .slice none 0 0
  | .nilif, v => v = .nilIface
  | .nilf, v => v = .nilFunc
  | .fsl e xs, v => LRs E.w E.ok (.sl e) xs [v]
  | .fpt e x off, v => ∃ b o cs, v = .pointer (some ⟨b, o + off, none⟩) ∧ E.ok b ∧ cs.length = e.size ∧ Row E.w b o cs ∧ LRs E.w E.ok e x cs
  | .ptr n off, v => leafV v ∧ ∀ L, E.mu n = some L → ∃ b, L.base = some ⟨b, 0, none⟩ ∧ v = .pointer (some ⟨b, off, none⟩)
  | .rsl n e off len, v => leafV v ∧ ∀ L, E.mu n = some L → ∃ base, v = .slice base len (L.cap - off) ∧ off + len ≤ L.cap ∧
      (off = 0 → base = L.base) ∧ (off < L.cap → base = L.base.map (·.add (off * e.size)))
  | .epr n e i off, v => leafV v ∧ ∀ L, E.mu n = some L → ∃ b, L.base = some ⟨b, 0, none⟩ ∧ v = .pointer (some ⟨b, i * e.size + off, none⟩)
  | .csl n off len, v => leafV v ∧ ∀ L, E.mu n = some L → ∃ b o cap, L.base = some ⟨b, 0, none⟩ ∧ v = .slice (some ⟨b, o, none⟩) len cap ∧ len ≤ cap ∧ (0 < len → o = off)
  | .own n e, v => leafV v ∧ ∀ L, E.mu n = some L → v = .slice L.base L.len L.cap
  | .cpr n off i m, v => i < m ∧ leafV v ∧ ∀ L, E.mu n = some L → ∃ b, L.base = some ⟨b, 0, none⟩ ∧ v = .pointer (some ⟨b, off + i, none⟩)
  | .fn f x y, v => ∃ p q : List Value, v = .func (.func f) p.toArray q.toArray ∧ VRL E x p ∧ VRL E y q
  | .ifc t a, v => ∃ x, v = .iface t x ∧ VR E a x
  | .agg l, v => ∃ x : List Value, v = .agg x.toArray ∧ VRL E l x
  | .arr e xs, v => ∃ x : List Value, v = .agg x.toArray ∧ LRs E.w E.ok (.arr xs.length e) xs x
  | .tup l, v => ∃ x : List Value, v = .tuple x.toArray ∧ VRL E l x
  | .when g a, v => (g = true → VR E a v) ∧ (g = false → v = undef)
  | .ite c a b, v => (c = true → VR E a v) ∧ (c = false → VR E b v)
def VRL (E : Env) : List AV → List Value → Prop
  | [], vs => vs = []
  | a :: l, vs => ∃ v r, vs = v :: r ∧ VR E a v ∧ VRL E l r
end

mutual
/-- The names in an abstract value are among those. -/
def AV.nm (p : Nat → Prop) : AV → Prop
  | .ptr n _ | .rsl n _ _ _ | .epr n _ _ _ | .csl n _ _ | .own n _ | .cpr n _ _ _ => p n
  | .fn _ x y => AV.nms p x ∧ AV.nms p y
  | .ifc _ a => AV.nm p a
  | .agg l | .tup l => AV.nms p l
  | .when g a => g = true → AV.nm p a
  | .ite _ a b => AV.nm p a ∧ AV.nm p b
  | _ => True
def AV.nms (p : Nat → Prop) : List AV → Prop
  | [] => True
  | a :: l => AV.nm p a ∧ AV.nms p l
end

def AO.nm (p : Nat → Prop) : AO → Prop
  | .cells l => AV.nms p l
  | .fcl l => AV.nms p l
  | _ => True

def owns (E : Env) (n b : Nat) : Prop := ∃ L, E.mu n = some L ∧ L.own = true ∧ L.base = some ⟨b, 0, none⟩

def unfrozen (fr : Nat × Nat) (n : Nat) : Prop := ∀ i, i < n → ¬ (fr.1 ≤ i ∧ i < fr.2)

def ObjR (E : Env) (n : Nat) : AO → Prop
  | .cells l => ∃ b cs T fr, E.mu n = some ⟨some ⟨b, 0, none⟩, 1, true, 0⟩ ∧ E.w.heap[b]? = some (.cells cs T fr) ∧ unfrozen fr cs.size ∧ VRL E l cs.toList
  | .rows e xs => ∃ L, E.mu n = some L ∧ L.len = xs.length ∧
      ((L.cap = 0 ∧ xs.length = 0 ∧ L.own = false) ∨
       ∃ b cs T fr, L.base = some ⟨b, 0, none⟩ ∧ L.own = true ∧ E.w.heap[b]? = some (.cells cs T fr) ∧ cs.size = L.cap * e.size ∧ xs.length ≤ L.cap ∧ unfrozen fr cs.size ∧
         ∀ i (h : i < xs.length), LRs E.w E.ok e (xs[i]'h) ((cs.toList.drop (i * e.size)).take e.size))
  | .frz e xs => ∃ L, E.mu n = some L ∧ L.len = xs.length ∧ L.own = false ∧ (L.cap = 0 ∨ ∃ b, L.base = some ⟨b, 0, none⟩) ∧ LRs E.w E.ok (.sl e) xs [.slice L.base xs.length L.cap]
  | .fcl l => ∃ b cs T fr, E.mu n = some ⟨some ⟨b, 0, none⟩, 1, false, 0⟩ ∧ E.ok b ∧ E.w.heap[b]? = some (.cells cs T fr) ∧ VRL E l cs.toList

end Go.Tr
