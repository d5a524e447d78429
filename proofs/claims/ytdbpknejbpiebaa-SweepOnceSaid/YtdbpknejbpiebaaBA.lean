/- Abstract values for the model's values: closed data by shapes, objects by names; what an abstract value says of a value in a world. The evaluator: what the code of a function comes to over abstract values, as a proposition. What abstract values and objects say stays true where the world, and what the names mean, go on. Operations that turn nothing: what the evaluator says of them is what the model does. More operations that turn nothing: addresses, slices, parts, loads. Loads. Operations that make objects, and stores. Literals of arrays, structs and slices; made slices; texts as bytes. Structs, arrays and slices as literals; made slices; conversions. Conditions: none but those that each theorem states. -/
import Derived.Orders
import Derived.Laws.Sem
import Derived.Laws.Entries
import Derived.ChangeKeysEq
import Derived.Laws.Cells
import Derived.Laws.CopyRow
namespace Go.Tr
open Go
set_option linter.unusedVariables false
inductive TErr where
  | nil | num (t : TypeId) (k : IntKind) (n : Int) | at' (t : TypeId) (n : Int) (e : TErr) | of' (t : TypeId) (s : List UInt8) (e : TErr) | any (t : TypeId)
inductive Sh where
  | int (k : IntKind) | bool | str | sl (e : Sh) | arr (n : Nat) (e : Sh) | unit | pair (x y : Sh) | err
  deriving DecidableEq
@[reducible] def Sh.T : Sh → Type
  | .int _ => Int
  | .bool => Bool
  | .str => List UInt8
  | .sl e => List (Sh.T e)
  | .arr _ e => List (Sh.T e)
  | .unit => Unit
  | .pair a b => Sh.T a × Sh.T b
  | .err => TErr
def Sh.size : Sh → Nat
  | .int _ | .bool | .str | .sl _ | .err => 1
  | .arr n e => n * e.size
  | .unit => 0
  | .pair a b => a.size + b.size
def Sh.dflt : (s : Sh) → s.T
  | .int _ => (0 : Int)
  | .bool => false
  | .str => ([] : List UInt8)
  | .sl _ => ([] : List _)
  | .arr n e => List.replicate n e.dflt
  | .unit => ()
  | .pair a b => (a.dflt, b.dflt)
  | .err => TErr.nil
inductive AV where
  | unk | junk
  | int (k : IntKind) (n : Int)
  | bool (b : Bool)
  | str (l : List UInt8)
  | nilp | nilsl | nilif | nilf
  | fsl (e : Sh) (xs : List e.T)
  | fpt (e : Sh) (x : e.T) (off : Nat)
  | ptr (n off : Nat)
  | rsl (n : Nat) (e : Sh) (off len : Nat)
  | epr (n : Nat) (e : Sh) (i off : Nat)
  | csl (n off len : Nat)
  | own (n : Nat) (e : Sh)
  | cpr (n off i m : Nat)
  | fn (f : FuncId) (first cap : List AV)
  | ifc (t : TypeId) (v : AV)
  | agg (l : List AV)
  | arr (e : Sh) (x : e.T)
  | wsl (n : Nat) (e : Sh) (i at' m : Nat) (s : Sh) (off len : Nat)
  | mpr (n : Nat)
  | tup (l : List AV)
  | when (g : Bool) (v : AV)
  | ite (c : Bool) (x y : AV)
  | er (t : TErr)
inductive AO where
  | cells (l : List AV)
  | rows (e : Sh) (xs : List e.T)
  | frz (e : Sh) (xs : List e.T)
  | fcl (l : List AV)
  | mp (k : IntKind) (e : Sh) (l : List (Int × e.T))
structure Loc where
  base : Option Addr
  cap : Nat
  own : Bool
  len : Nat
structure WX extends World where
  m0 : Nat → Option Loc
structure Env where
  w : World
  mu : Nat → Option Loc
  ok : Nat → Prop
def leafV : Value → Prop
  | .agg _ | .tuple _ => False
  | _ => True
def Row (w : World) (b o : Nat) (cs : List Value) : Prop := ∀ j (h : j < cs.length), w.cell? ⟨b, o + j, none⟩ = some cs[j]
def ErrR (w : World) (ok : Nat → Prop) : TErr → Value → Prop
  | .nil, v => v = .nilIface
  | .num t k n, v => v = .iface t (.int k n)
  | .at' t n e, v => ∃ b x, v = .iface t (.pointer (some ⟨b, 0, none⟩)) ∧ ok b ∧ Row w b 0 [.int .i64 n, x] ∧ ErrR w ok e x
  | .of' t s e, v => ∃ b x, v = .iface t (.pointer (some ⟨b, 0, none⟩)) ∧ ok b ∧ Row w b 0 [.string ⟨s.toArray⟩, x] ∧ ErrR w ok e x
  | .any t, v => ∃ x, v = .iface t x
def LRs (w : World) (ok : Nat → Prop) : (s : Sh) → s.T → List Value → Prop
  | .int k, n, vs => vs = [.int k n]
  | .bool, b, vs => vs = [.bool b]
  | .str, l, vs => vs = [.string ⟨l.toArray⟩]
  | .sl e, xs, vs => ∃ base cap, vs = [.slice base (List.length xs) cap] ∧ List.length xs ≤ cap ∧
      (List.length xs = 0 ∨ ∃ b o, base = some ⟨b, o, none⟩ ∧ ok b ∧ ∀ i (h : i < List.length xs), ∃ cs, cs.length = e.size ∧ Row w b (o + i * e.size) cs ∧ LRs w ok e (xs[i]'h) cs)
  | .arr n e, xs, vs => List.length xs = n ∧ vs.length = n * e.size ∧ ∀ i (h : i < List.length xs), LRs w ok e (xs[i]'h) ((vs.drop (i * e.size)).take e.size)
  | .unit, _, vs => vs = []
  | .pair a b, x, vs => ∃ v1 v2, vs = v1 ++ v2 ∧ LRs w ok a (Prod.fst x) v1 ∧ LRs w ok b (Prod.snd x) v2
  | .err, t, vs => ∃ v, vs = [v] ∧ ErrR w ok t v
mutual
def VR (E : Env) : AV → Value → Prop
  | .unk, _ => True
  | .junk, v => leafV v
  | .int k n, v => v = .int k n
  | .bool b, v => v = .bool b
  | .str l, v => v = .string ⟨l.toArray⟩
  | .nilp, v => v = .pointer none
  | .nilsl, v => v = .slice none 0 0
  | .nilif, v => v = .nilIface
  | .nilf, v => v = .nilFunc
  | .fsl e xs, v => LRs E.w E.ok (.sl e) xs [v]
  | .fpt e x off, v => ∃ b o cs, v = .pointer (some ⟨b, o + off, none⟩) ∧ E.ok b ∧ cs.length = e.size ∧ Row E.w b o cs ∧ LRs E.w E.ok e x cs
  | .ptr n off, v => leafV v ∧ ∀ L, E.mu n = some L → ∃ b, L.base = some ⟨b, 0, none⟩ ∧ v = .pointer (some ⟨b, off, none⟩)
  | .rsl n e off len, v => leafV v ∧ ∀ L, E.mu n = some L → ∃ base, v = .slice base len (L.cap - off) ∧ off + len ≤ L.cap ∧
      (off = 0 → base = L.base) ∧ (off < L.cap → base = L.base.map (·.add (off * e.size)))
  | .epr n e i off, v => leafV v ∧ ∀ L, E.mu n = some L → ∃ b, L.base = some ⟨b, 0, none⟩ ∧ v = .pointer (some ⟨b, i * e.size + off, none⟩)
  | .csl n off len, v => leafV v ∧ ∀ L, E.mu n = some L → ∃ b o cap, L.base = some ⟨b, 0, none⟩ ∧ v = .slice (some ⟨b, o, none⟩) len cap ∧ len ≤ cap ∧ (0 < len → o = off)
  | .own n e, v => leafV v ∧ ∀ L, E.mu n = some L → v = .slice L.base L.len L.cap
  | .cpr n off i m, v => i < m ∧ leafV v ∧ ∀ L, E.mu n = some L → ∃ b, L.base = some ⟨b, 0, none⟩ ∧ v = .pointer (some ⟨b, off + i, none⟩)
  | .fn f x y, v => ∃ p q : List Value, v = .func (.func f) p.toArray q.toArray ∧ VRL E x p ∧ VRL E y q
  | .ifc t a, v => ∃ x, v = .iface t x ∧ VR E a x
  | .agg l, v => ∃ x : List Value, v = .agg x.toArray ∧ VRL E l x
  | .arr e y, v => ∃ x : List Value, v = .agg x.toArray ∧ LRs E.w E.ok e y x
  | .wsl n e i at' m s off len, v => leafV v ∧ ∀ L, E.mu n = some L → ∃ b o, L.base = some ⟨b, 0, none⟩ ∧ v = .slice (some ⟨b, o, none⟩) len (m - off) ∧ off + len ≤ m ∧ (0 < len → o = i * e.size + at' + off * s.size)
  | .mpr n, v => leafV v ∧ ∀ L, E.mu n = some L → ∃ b, L.base = some ⟨b, 0, none⟩ ∧ v = .map (some b)
  | .tup l, v => ∃ x : List Value, v = .tuple x.toArray ∧ VRL E l x
  | .when g a, v => (g = true → VR E a v) ∧ (g = false → v = undef)
  | .ite c a b, v => (c = true → VR E a v) ∧ (c = false → VR E b v)
  | .er t, v => ErrR E.w E.ok t v
def VRL (E : Env) : List AV → List Value → Prop
  | [], vs => vs = []
  | a :: l, vs => ∃ v r, vs = v :: r ∧ VR E a v ∧ VRL E l r
end
mutual
/-- The names in an abstract value are among those. -/
def AV.nm (p : Nat → Prop) : AV → Prop
  | .ptr n _ | .rsl n _ _ _ | .epr n _ _ _ | .csl n _ _ | .own n _ | .cpr n _ _ _ | .wsl n _ _ _ _ _ _ _ | .mpr n => p n
  | .fn _ x y => AV.nms p x ∧ AV.nms p y
  | .ifc _ a => AV.nm p a
  | .agg l | .tup l => AV.nms p l
  | .when g a => g = true → AV.nm p a
  | .ite _ a b => AV.nm p a ∧ AV.nm p b
  | _ => True
def AV.nms (p : Nat → Prop) : List AV → Prop
  | [] => True
  | a :: l => AV.nm p a ∧ AV.nms p l
end
def AO.nm (p : Nat → Prop) : AO → Prop
  | .cells l => AV.nms p l
  | .fcl l => AV.nms p l
  | _ => True
def owns (E : Env) (n b : Nat) : Prop := ∃ L, E.mu n = some L ∧ L.own = true ∧ L.base = some ⟨b, 0, none⟩
def unfrozen (fr : Nat × Nat) (n : Nat) : Prop := ∀ i, i < n → ¬ (fr.1 ≤ i ∧ i < fr.2)
def MpR (w : World) (ok : Nat → Prop) (k : IntKind) (e : Sh) : List (Int × e.T) → List MapEntry → Prop
  | [], ms => ms = []
  | p :: l, ms => ∃ m r, ms = m :: r ∧ m.key = .int k p.1 ∧ LRs w ok e p.2 [m.val] ∧ MpR w ok k e l r
def ObjR (E : Env) (n : Nat) : AO → Prop
  | .cells l => ∃ b cs T fr, E.mu n = some ⟨some ⟨b, 0, none⟩, 1, true, 0⟩ ∧ E.w.heap[b]? = some (.cells cs T fr) ∧ unfrozen fr cs.size ∧ VRL E l cs.toList
  | .rows e xs => ∃ L, E.mu n = some L ∧ L.len = xs.length ∧
      ((L.cap = 0 ∧ xs.length = 0 ∧ L.own = false) ∨
       ∃ b cs T fr, L.base = some ⟨b, 0, none⟩ ∧ L.own = true ∧ E.w.heap[b]? = some (.cells cs T fr) ∧ cs.size = L.cap * e.size ∧ xs.length ≤ L.cap ∧ unfrozen fr cs.size ∧
         ∀ i (h : i < xs.length), LRs E.w E.ok e (xs[i]'h) ((cs.toList.drop (i * e.size)).take e.size))
  | .frz e xs => ∃ L, E.mu n = some L ∧ L.len = xs.length ∧ L.own = false ∧ (L.cap = 0 ∨ ∃ b, L.base = some ⟨b, 0, none⟩) ∧ LRs E.w E.ok (.sl e) xs [.slice L.base xs.length L.cap]
  | .fcl l => ∃ b cs T fr, E.mu n = some ⟨some ⟨b, 0, none⟩, 1, false, 0⟩ ∧ E.ok b ∧ E.w.heap[b]? = some (.cells cs T fr) ∧ VRL E l cs.toList
  | .mp k e l => ∃ b es c, E.mu n = some ⟨some ⟨b, 0, none⟩, 1, true, 0⟩ ∧ E.w.heap[b]? = some (.map es c) ∧ MpR E.w E.ok k e l es.toList
end Go.Tr
namespace Go.Tr
open Go
set_option linter.unusedVariables false
universe u
noncomputable def fv0 {α : Sort u} (v : AV) (k : AV → α) : α :=
  match v with
  | .unk => k .unk
  | .junk => k .junk
  | .int a b => k (.int a b)
  | .bool a => k (.bool a)
  | .str a => k (.str a)
  | .nilp => k .nilp
  | .nilsl => k .nilsl
  | .nilif => k .nilif
  | .nilf => k .nilf
  | .fsl a b => k (.fsl a b)
  | .fpt a b c => k (.fpt a b c)
  | .ptr a b => k (.ptr a b)
  | .rsl a b c d => k (.rsl a b c d)
  | .epr a b c d => k (.epr a b c d)
  | .csl a b c => k (.csl a b c)
  | .own a b => k (.own a b)
  | .cpr a b c d => k (.cpr a b c d)
  | .fn a b c => k (.fn a b c)
  | .ifc a b => k (.ifc a b)
  | .agg a => k (.agg a)
  | .arr a b => k (.arr a b)
  | .wsl a b c d e f g h => k (.wsl a b c d e f g h)
  | .mpr a => k (.mpr a)
  | .tup a => k (.tup a)
  | .when a b => k (.when a b)
  | .ite a b c => k (.ite a b c)
  | .er a => k (.er a)
noncomputable def fvl {α : Sort u} (l : List AV) : (List AV → α) → α :=
  List.rec (motive := fun _ => (List AV → α) → α) (fun k => k []) (fun a _ ih k => fv0 a fun a' => ih fun r' => k (a' :: r')) l
theorem fvl_cons {α : Sort u} (a : AV) (r : List AV) (k : List AV → α) : fvl (a :: r) k = fv0 a fun a' => fvl r fun r' => k (a' :: r') := rfl
noncomputable def fv {α : Sort u} (v : AV) (k : AV → α) : α :=
  match v with
  | .agg l => fvl l fun l' => k (.agg l')
  | .tup l => fvl l fun l' => k (.tup l')
  | v => fv0 v k
def lkA {α : Type} : List (Nat × α) → Nat → Option α
  | [], _ => none
  | (m, x) :: r, n => match Nat.beq n m with
    | true => some x
    | false => lkA r n
def lkO (l : List (Nat × Option AO)) (n : Nat) : Option AO :=
  match lkA l n with
  | some r => r
  | none => none
def nth {α : Type} : List α → Nat → Option α
  | [], _ => none
  | x :: r, n => match n with
    | 0 => some x
    | n + 1 => nth r n
def cval : Value → AV
  | .int k n => .int k n
  | .bool b => .bool b
  | .string s => .str s.data.toList
  | .pointer none => .nilp
  | .slice none 0 0 => .nilsl
  | .nilIface => .nilif
  | .nilFunc => .nilf
  | _ => .unk
def cvals : List Value → List AV
  | [] => []
  | v :: r => cval v :: cvals r
def opv (tm : Nat → Option AV) : Operand → AV
  | .tmp t => match tm t with
    | some v => v
    | none => .unk
  | .const v => cval v
  | .func f => .fn f [] []
  | .global _ => .unk
abbrev Upd := List (Nat × Option AO)
structure OpR where
  obs : List Prop
  v : AV
  u : Upd
noncomputable def fe {α : Type} (tm : Nat → Option AV) (x : Operand) (k : List Prop → AV → Option α) : Option α :=
  match opv tm x with
  | .when g v => fv v fun v' => k [g = true] v'
  | v => fv v (k [])
noncomputable def fel {α : Type} (tm : Nat → Option AV) (xs : List Operand) (k : List Prop → List AV → Option α) : Option α :=
  match xs with
  | [] => k [] []
  | x :: r => fe tm x fun p v => fel tm r fun q vs => k (p ++ q) (v :: vs)
abbrev Ctx := FuncId → List AV → (Nat → Option AO) → Nat → Option (Prop × AV × Upd)
def leafA : AV → Bool
  | .unk | .agg _ | .arr _ _ | .tup _ | .when _ _ | .ite _ _ _ => false
  | _ => true
def leavesA : List AV → Bool
  | [] => true
  | a :: l => match leafA a with
    | true => leavesA l
    | false => false
def cellsA (v : AV) : Option (List AV) :=
  match v with
  | .agg l => match leavesA l with
    | true => some l
    | false => none
  | v => match leafA v with
    | true => some [v]
    | false => none
def takeA {α : Type} : Nat → List α → List α
  | 0, _ => []
  | _ + 1, [] => []
  | n + 1, x :: r => x :: takeA n r
def dropA {α : Type} : Nat → List α → List α
  | 0, l => l
  | _ + 1, [] => []
  | n + 1, _ :: r => dropA n r
def lenA {α : Type} : List α → Nat
  | [] => 0
  | _ :: r => lenA r + 1
def appA {α : Type} : List α → List α → List α
  | [], m => m
  | x :: r, m => x :: appA r m
def setAtA (off : Nat) (vs cells : List AV) : Option (List AV) :=
  match Nat.ble (off + lenA vs) (lenA cells) with
  | true => some (appA (takeA off cells) (appA vs (dropA (off + lenA vs) cells)))
  | false => none
def isAggT (P : Program) (t : TypeId) : Option Bool :=
  match P.underlying t with
  | some (.struct _) => some true
  | some (.array _ _) => some true
  | some _ => some false
  | none => none
def sizeT (P : Program) (t : TypeId) : Option Nat :=
  match P.info? t with
  | some i => some i.size
  | none => none
noncomputable def partA (P : Program) (t : TypeId) (off : Nat) (cells : List AV) : Option AV :=
  match isAggT P t, sizeT P t with
  | some true, some n => match Nat.ble (off + n) (lenA cells) with
    | true => some (.agg (takeA n (dropA off cells)))
    | false => none
  | some false, _ => nth cells off
  | _, _ => none
def enc : (s : Sh) → s.T → List AV
  | .int k, n => [.int k n]
  | .bool, x => [.bool x]
  | .str, x => [.str x]
  | .sl e, xs => [.fsl e xs]
  | .arr _ _, _ => []
  | .unit, _ => []
  | .pair a b, x => appA (enc a (Prod.fst x)) (enc b (Prod.snd x))
  | .err, x => [.er x]
def Sh.flat : Sh → Bool
  | .arr _ _ => false
  | .pair a b => match a.flat with
    | true => b.flat
    | false => false
  | _ => true
def errA (v : AV) : Option TErr :=
  match v with
  | .er t => some t
  | .nilif => some .nil
  | .ifc T a => match a with
    | .int k n => some (.num T k n)
    | _ => none
  | _ => none
def errN (t : TErr) : Bool :=
  match t with
  | .nil => true
  | _ => false
def decS : (s : Sh) → List AV → Option (s.T × List AV)
  | .int k, .int k' n :: r => if k = k' then some (n, r) else none
  | .bool, .bool x :: r => some (x, r)
  | .str, .str x :: r => some (x, r)
  | .sl _, .nilsl :: r => some (([] : List _), r)
  | .sl e, .fsl e' xs :: r => if h : e' = e then some ((h ▸ xs : List e.T), r) else none
  | .unit, r => some ((), r)
  | .pair a b, l => match decS a l with
    | some (x, r) => match decS b r with
      | some (y, r') => some (((x, y) : a.T × b.T), r')
      | none => none
    | none => none
  | .err, v :: r => match errA v with
    | some t => some (t, r)
    | none => none
  | _, _ => none
def shT (P : Program) : Nat → TypeId → Option Sh
  | 0, _ => none
  | d + 1, t => match P.underlying t with
    | some (.int k) => some (.int k)
    | some .bool => some .bool
    | some .string => some .str
    | some (.slice e) => match shT P d e with
      | some s => some (.sl s)
      | none => none
    | some (.array n e) => match shT P d e with
      | some s => match Nat.ble n 16 with
        | true => arrSh s n
        | false => some (.arr n s)
      | none => none
    | some (.struct fs) => fldSh (shT P d) fs.toList
    | _ => none
 where
  arrSh (s : Sh) : Nat → Option Sh
    | 0 => none
    | 1 => some s
    | n + 1 => match arrSh s n with
      | some r => some (.pair s r)
      | none => none
  fldSh (sh : TypeId → Option Sh) : List Field → Option Sh
    | [] => none
    | [f] => sh f.type
    | f :: r => match sh f.type with
      | some s => match fldSh sh r with
        | some q => some (.pair s q)
        | none => none
      | none => none
def zeroT (P : Program) (t : TypeId) : Option (List AV) :=
  match P.info? t with
  | some i => match i.zero with
    | some z => some (cvals z.cells.toList)
    | none => none
  | none => none
def fld (P : Program) (t : TypeId) (f : Nat) : Option Field :=
  match P.underlying t with
  | some (.struct fs) => nth fs.toList f
  | _ => none
def hitS (s e : Sh) (x : e.T) (off : Nat) : Option s.T :=
  match off with
  | 0 => if h : e = s then some (h ▸ x) else none
  | _ + 1 => none
def getS (s : Sh) : (e : Sh) → e.T → Nat → Option s.T
  | .pair a b, x, off => match hitS s (.pair a b) x off with
    | some y => some y
    | none => match Nat.blt off a.size with
      | true => getS s a (Prod.fst x) off
      | false => getS s b (Prod.snd x) (off - a.size)
  | .arr n a, x, off => match hitS s (.arr n a) x off with
    | some y => some y
    | none => match Nat.blt off (n * a.size) with
      | true => getS s a (List.getD x (off / a.size) a.dflt) (off % a.size)
      | false => none
  | e, x, off => hitS s e x off
def hitW (s e : Sh) (y : s.T) (off : Nat) : Option e.T :=
  match off with
  | 0 => if h : s = e then some (h ▸ y) else none
  | _ + 1 => none
def setS (s : Sh) (y : s.T) : (e : Sh) → e.T → Nat → Option e.T
  | .pair a b, x, off => match hitW s (.pair a b) y off with
    | some z => some z
    | none => match Nat.blt off a.size with
      | true => match setS s y a (Prod.fst x) off with
        | some z => some (z, Prod.snd x)
        | none => none
      | false => match setS s y b (Prod.snd x) (off - a.size) with
        | some z => some (Prod.fst x, z)
        | none => none
  | .arr n a, x, off => match hitW s (.arr n a) y off with
    | some z => some z
    | none => match Nat.blt off (n * a.size) with
      | true => match setS s y a (List.getD x (off / a.size) a.dflt) (off % a.size) with
        | some z => some (List.set x (off / a.size) z)
        | none => none
      | false => none
  | e, _, off => hitW s e y off
def zeroRep (f : List AV → Option (List AV)) : Nat → List AV → Option (List AV)
  | 0, r => some r
  | n + 1, r => match f r with
    | some r => zeroRep f n r
    | none => none
def zeroS : Sh → List AV → Option (List AV)
  | .int k, v :: r => match v with
    | .int k' n => if k' = k ∧ n = 0 then some r else none
    | _ => none
  | .bool, v :: r => match v with
    | .bool b => match b with
      | false => some r
      | true => none
    | _ => none
  | .str, v :: r => match v with
    | .str l => match l with
      | [] => some r
      | _ :: _ => none
    | _ => none
  | .sl _, v :: r => match v with
    | .nilsl => some r
    | _ => none
  | .err, v :: r => match v with
    | .nilif => some r
    | _ => none
  | .unit, r => some r
  | .pair a b, r => match zeroS a r with
    | some r => zeroS b r
    | none => none
  | .arr n e, r => zeroRep (zeroS e) n r
  | _, [] => none
def zeroE (e : Sh) (z : List AV) : Option e.T :=
  match e.flat with
  | true => match decS e z with
    | some (t, []) => some t
    | _ => none
  | false => match zeroS e z with
    | some [] => some e.dflt
    | _ => none
def headA (l : List AV) : Option AV :=
  match l with
  | [v] => some v
  | _ => none
def bandI (k : IntKind) (a b : Int) : Int := (BitVec.ofInt k.bits a &&& BitVec.ofInt k.bits b).toNat
def borI (k : IntKind) (a b : Int) : Int := (BitVec.ofInt k.bits a ||| BitVec.ofInt k.bits b).toNat
def bxorI (k : IntKind) (a b : Int) : Int := (BitVec.ofInt k.bits a ^^^ BitVec.ofInt k.bits b).toNat
def bandnI (k : IntKind) (a b : Int) : Int := (BitVec.ofInt k.bits a &&& ~~~ BitVec.ofInt k.bits b).toNat
def shlI (k : IntKind) (a b : Int) : Int := k.wrap (a * 2 ^ (min b.toNat k.bits))
def shrI (k : IntKind) (a b : Int) : Int := a.fdiv (2 ^ (min b.toNat k.bits))
def binI (op : BinOp) (k : IntKind) (a b : Int) : Option (List Prop × AV) :=
  match op with
  | .add => some ([], .int k (k.wrap (a + b)))
  | .sub => some ([], .int k (k.wrap (a - b)))
  | .mul => some ([], .int k (k.wrap (a * b)))
  | .quo => some ([¬ b = 0], .int k (k.wrap (a.tdiv b)))
  | .rem => some ([¬ b = 0], .int k (a.tmod b))
  | .and => some ([], .int k (k.wrap (bandI k a b)))
  | .or => some ([], .int k (k.wrap (borI k a b)))
  | .xor => some ([], .int k (k.wrap (bxorI k a b)))
  | .andNot => some ([], .int k (k.wrap (bandnI k a b)))
  | .eql => some ([], .bool (a == b))
  | .neq => some ([], .bool (a != b))
  | .lss => some ([], .bool (decide (a < b)))
  | .leq => some ([], .bool (decide (a ≤ b)))
  | .gtr => some ([], .bool (decide (a > b)))
  | .geq => some ([], .bool (decide (a ≥ b)))
  | _ => none
def binS (op : BinOp) (a b : List UInt8) : Option (List Prop × AV) :=
  match op with
  | .add => some ([((a.length + b.length : Nat) : Int) ≤ 9223372036854775807], .str (a ++ b))
  | .eql => some ([], .bool (a == b))
  | .neq => some ([], .bool (!(a == b)))
  | .lss => some ([], .bool (Op.bytesLess a b))
  | .leq => some ([], .bool (Op.bytesLess a b || (a == b)))
  | .gtr => some ([], .bool (!(Op.bytesLess a b || (a == b))))
  | .geq => some ([], .bool (!(Op.bytesLess a b)))
  | _ => none
def shE (P : Program) (t : TypeId) : Option Sh :=
  match shT P 16 t, sizeT P t with
  | some e, some s => match Nat.beq s e.size with
    | true => some e
    | false => none
  | _, _ => none
def shZ (P : Program) (t : TypeId) : Option Sh :=
  match shE P t, zeroT P t with
  | some e, some z => match Nat.beq (lenA z) e.size with
    | true => some e
    | false => none
  | _, _ => none
def encV (P : Program) (T : TypeId) (s : Sh) (y : s.T) : Option AV :=
  match isAggT P T with
  | some true => match s.flat with
    | true => some (.agg (enc s y))
    | false => some (.arr s y)
  | some false => match s.flat with
    | true => headA (enc s y)
    | false => none
  | none => none
def decV (s : Sh) (v : AV) : Option s.T :=
  match v with
  | .arr s' y => if h : s' = s then some (h ▸ y) else none
  | v => match cellsA v with
    | some cs => match decS s cs with
      | some (t, []) => some t
      | _ => none
    | none => none
def partS (P : Program) (T : TypeId) (e : Sh) (x : e.T) (off : Nat) : Option AV :=
  match shE P T with
  | some s => match getS s e x off with
    | some y => encV P T s y
    | none => none
  | none => none
def fillS (P : Program) (fs : List Field) (e : Sh) (x : e.T) : List (Nat × AV) → Option e.T
  | [] => some x
  | (i, v) :: r => match nth fs i with
    | some f => match shE P f.type with
      | some s => match decV s v with
        | some y => match setS s y e x f.offset with
          | some x' => fillS P fs e x' r
          | none => none
        | none => none
      | none => none
    | none => none
def arrI (e : Sh) (x : e.T) : Option (Nat × IntKind × List Int) :=
  match e, x with
  | .arr n s, x => match s, x with
    | .int k, x => some (n, k, x)
    | _, _ => none
  | _, _ => none
noncomputable def eqFieldsA (P : Program) (f : TypeId → AV → AV → Option Bool) (xs ys : List AV) : List Field → Option Bool
  | [] => some true
  | g :: r => match g.name == "_" with
    | true => none
    | false => match partA P g.type g.offset xs, partA P g.type g.offset ys with
      | some x, some y => match f g.type x y with
        | some p => match r with
          | [] => some p
          | _ => match eqFieldsA P f xs ys r with
            | some q => some (p && q)
            | none => none
        | none => none
      | _, _ => none
noncomputable def eqItemsA (P : Program) (f : AV → AV → Option Bool) (e : TypeId) (s : Nat) (xs ys : List AV) : List Nat → Option Bool
  | [] => some true
  | i :: r => match partA P e (i * s) xs, partA P e (i * s) ys with
    | some x, some y => match f x y with
      | some p => match r with
        | [] => some p
        | _ => match eqItemsA P f e s xs ys r with
          | some q => some (p && q)
          | none => none
      | none => none
    | _, _ => none
noncomputable def eqA (P : Program) : Nat → TypeId → AV → AV → Option Bool
  | 0, _, _, _ => none
  | d + 1, t, x, y => match P.underlying t with
    | some (.int _) => match x, y with
      | .int k a, .int k' b => if k = k' then some (a == b) else none
      | _, _ => none
    | some .bool => match x, y with
      | .bool a, .bool b => some (a == b)
      | _, _ => none
    | some .string => match x, y with
      | .str a, .str b => some (a == b)
      | _, _ => none
    | some (.array n e) => match x, y, sizeT P e with
      | .agg xs, .agg ys, some s => eqItemsA P (eqA P d e) e s xs ys (List.range n)
      | _, _, _ => none
    | some (.struct fs) => match x, y, P.stoodInHeld t with
      | .agg xs, .agg ys, false => eqFieldsA P (eqA P d) xs ys fs.toList
      | _, _, _ => none
    | _ => none
def notIf (op : BinOp) (b : Bool) : Option AV :=
  match op with
  | .eql => some (.bool b)
  | .neq => some (.bool (!b))
  | _ => none
noncomputable def opBin (P : Program) (op : BinOp) (T : TypeId) (x y : AV) : Option (List Prop × AV) :=
  match x, y with
  | .int k a, .int k' b => match op with
    | .shl => some ([0 ≤ b], .int k (shlI k a b))
    | .shr => some ([0 ≤ b], .int k (shrI k a b))
    | op => if k = k' then binI op k a b else none
  | .str a, .str b => binS op a b
  | .bool a, .bool b => match P.underlying T, notIf op (a == b) with
    | some .bool, some v => some ([], v)
    | _, _ => none
  | .arr e a, .arr e' b => match arrI e a, arrI e' b with
    | some (n, k, a), some (m, k', b) => match P.underlying T with
      | some (.array l t) => match P.underlying t, sizeT P t with
        | some (.int _), some sz => match P.eqGuardType P.depth T, notIf op (a == b) with
          | false, some v => if n = l ∧ m = l ∧ k = k' ∧ sz = 1 then some ([], v) else none
          | _, _ => none
        | _, _ => none
      | _ => none
    | _, _ => none
  | .agg a, .agg b => match P.eqGuardType P.depth T, eqA P 8 T (.agg a) (.agg b) with
    | false, some q => match notIf op q with
      | some v => some ([], v)
      | none => none
    | _, _ => none
  | x, y => match P.underlying T with
    | some (.pointer _) => match x, y with
      | .nilp, .nilp => (notIf op true).map fun v => ([], v)
      | .nilp, .fpt _ _ _ => (notIf op false).map fun v => ([], v)
      | .fpt _ _ _, .nilp => (notIf op false).map fun v => ([], v)
      | _, _ => none
    | some (.interface _) => match x, y with
      | .ifc _ _, .nilif => (notIf op false).map fun v => ([], v)
      | .nilif, .ifc _ _ => (notIf op false).map fun v => ([], v)
      | _, _ => none
    | _ => none
def sliceA (lo hi : Nat) {α : Type} (l : List α) : List α := (l.drop lo).take (hi - lo)
def lvA (ob : Nat → Option AO) (n : Nat) : Bool :=
  match ob n with
  | some _ => true
  | none => false
def liveA (ob : Nat → Option AO) (x : AV) : Bool :=
  match x with
  | .ptr n _ => lvA ob n
  | .rsl n _ _ _ => lvA ob n
  | .epr n _ _ _ => lvA ob n
  | .csl n _ _ => lvA ob n
  | .own n _ => lvA ob n
  | .cpr n _ _ _ => lvA ob n
  | .wsl n _ _ _ _ _ _ _ => lvA ob n
  | .mpr n => lvA ob n
  | _ => true
def opIndexAddr (P : Program) (T : TypeId) (cst : Bool) (ob : Nat → Option AO) (x i : AV) : Option (List Prop × AV) :=
  match i with
  | .int _ i => match P.underlying T with
    | some (.slice el) => match sizeT P el with
      | some s => match x with
        | .fsl e xs => match Nat.beq s e.size with
          | true => some ([0 ≤ i ∧ i < (xs.length : Int)], .fpt e (xs.getD i.toNat e.dflt) 0)
          | false => none
        | .rsl n e off len => match Nat.beq s e.size with
          | true => some ([0 ≤ i ∧ i < (len : Int)], .epr n e (off + i.toNat) 0)
          | false => none
        | .csl n off len => some ([0 ≤ i ∧ i < (len : Int)], .ptr n (off + i.toNat * s))
        | .own n e => match Nat.beq s e.size with
          | true => match ob n with
            | some (.rows e' xs) => some ([0 ≤ i ∧ i < (xs.length : Int)], .epr n e i.toNat 0)
            | some (.frz e' xs) => some ([0 ≤ i ∧ i < (xs.length : Int)], .epr n e i.toNat 0)
            | _ => none
          | false => none
        | _ => none
      | none => none
    | some (.array m el) => match sizeT P el with
      | some s => match x with
        | .ptr n off => match cst with
          | true => some ([0 ≤ i ∧ i < (m : Int)], .ptr n (off + i.toNat * s))
          | false => match Nat.beq s 1 with
            | true => some ([0 ≤ i ∧ i < (m : Int)], .cpr n off i.toNat m)
            | false => none
        | .fpt e x off => some ([0 ≤ i ∧ i < (m : Int)], .fpt e x (off + i.toNat * s))
        | .epr n e j off => some ([0 ≤ i ∧ i < (m : Int)], .epr n e j (off + i.toNat * s))
        | _ => none
      | none => none
    | _ => none
  | _ => none
def homI : List AV → Option (IntKind × List Int)
  | [] => none
  | a :: r => match a with
    | .int k n => match r with
      | [] => some (k, [n])
      | _ :: _ => match homI r with
        | some (k', ns) => if k = k' then some (k, n :: ns) else none
        | none => none
    | _ => none
def homS : List AV → Option (List (List UInt8))
  | [] => some []
  | a :: r => match a with
    | .str s => match homS r with
      | some ss => some (s :: ss)
      | none => none
    | _ => none
def homV (l : List AV) (i : Nat) : Option AV :=
  match homI l with
  | some (k, ns) => some (.int k (ns.getD i 0))
  | none => match homS l with
    | some ss => some (.str (ss.getD i []))
    | none => none
def intsA (k : IntKind) (ns : List Int) : Nat → Nat → List AV
  | _, 0 => []
  | j, m + 1 => .int k (ns.getD j 0) :: intsA k ns (j + 1) m
def strsA (ss : List (List UInt8)) : Nat → Nat → List AV
  | _, 0 => []
  | j, m + 1 => .str (ss.getD j []) :: strsA ss (j + 1) m
def homW (l : List AV) (i m : Nat) (v : AV) : Option (List AV) :=
  match homI l with
  | some (k, ns) => match v with
    | .int k' x => if k = k' then some (intsA k (ns.set i x) 0 m) else none
    | _ => none
  | none => match homS l with
    | some ss => match v with
      | .str x => some (strsA (ss.set i x) 0 m)
      | _ => none
    | none => none
def isCst (o : Operand) : Bool :=
  match o with
  | .const _ => true
  | _ => false
noncomputable def opIndex (P : Program) (T : TypeId) (cst : Bool) (x i : AV) : Option (List Prop × AV) :=
  match i with
  | .int _ i => match P.underlying T with
    | some .string => match x with
      | .str l => some ([0 ≤ i ∧ i < (l.length : Int)], .int .u8 ((l.getD i.toNat 0).toNat : Int))
      | _ => none
    | some (.array m e) => match sizeT P e with
      | some s => match x with
        | .agg l => match cst with
          | true => match partA P e (i.toNat * s) l with
            | some v => some ([0 ≤ i ∧ i < (m : Int)], v)
            | none => none
          | false => match Nat.beq s 1, isAggT P e, Nat.beq (lenA l) m with
            | true, some false, true => match homV l i.toNat with
              | some v => some ([0 ≤ i ∧ i < (m : Int)], v)
              | none => none
            | _, _, _ => none
        | _ => none
      | none => none
    | _ => none
  | _ => none
def opFieldAddr (P : Program) (T : TypeId) (x : AV) (f : Nat) : Option AV :=
  match fld P T f with
  | some f => match sizeT P f.type with
    | some (_ + 1) => match x with
      | .ptr n off => some (.ptr n (off + f.offset))
      | .fpt e x off => some (.fpt e x (off + f.offset))
      | .epr n e i off => some (.epr n e i (off + f.offset))
      | _ => none
    | _ => none
  | none => none
noncomputable def opLoad (P : Program) (T : TypeId) (ob : Nat → Option AO) (x : AV) : Option (List Prop × AV) :=
  match x with
  | .ptr n off => match ob n with
    | some (.cells l) => match partA P T off l with
      | some v => some ([], v)
      | none => none
    | some (.fcl l) => match partA P T off l with
      | some v => some ([], v)
      | none => none
    | _ => none
  | .cpr n off i m => match ob n, isAggT P T with
    | some (.cells l), some false => match Nat.ble (off + m) (lenA l) with
      | true => match homV (takeA m (dropA off l)) i with
        | some v => some ([], v)
        | none => none
      | false => none
    | _, _ => none
  | .fpt e x off => match e.flat with
    | true => match partA P T off (enc e x) with
      | some v => some ([], v)
      | none => none
    | false => none
  | .epr n e i off => match e.flat with
    | true => match ob n with
      | some (.rows e' xs) => if h : e' = e then
          match partA P T off (enc e' (xs.getD i e'.dflt)) with
          | some v => some ([i < xs.length], v)
          | none => none
        else none
      | some (.frz e' xs) => if h : e' = e then
          match partA P T off (enc e' (xs.getD i e'.dflt)) with
          | some v => some ([i < xs.length], v)
          | none => none
        else none
      | _ => none
    | false => match ob n with
      | some (.rows e' xs) => if e' = e then
          match partS P T e' (xs.getD i e'.dflt) off with
          | some v => some ([i < xs.length], v)
          | none => none
        else none
      | _ => none
  | _ => none
def opStoreS (P : Program) (T : TypeId) (ob : Nat → Option AO) (x v : AV) : Option (List Prop × Upd) :=
  match x with
  | .epr n e i off => match e.flat with
    | true => none
    | false => match ob n with
      | some (.rows e' xs) => if e' = e then
          match shE P T with
          | some s => match decV s v with
            | some y => match setS s y e' (xs.getD i e'.dflt) off with
              | some t => some ([i < xs.length], [(n, some (.rows e' (xs.set i t)))])
              | none => none
            | none => none
          | none => none
        else none
      | _ => none
  | _ => none
noncomputable def opStore (P : Program) (T : TypeId) (ob : Nat → Option AO) (x v : AV) : Option (List Prop × Upd) :=
  match cellsA v, sizeT P T with
  | some cs, some sz => match Nat.beq (lenA cs) sz with
    | true => match x with
      | .ptr n off => match ob n with
        | some (.cells l) => match setAtA off cs l with
          | some l' => fvl l' fun l' => some ([], [(n, some (.cells l'))])
          | none => none
        | _ => none
      | .cpr n off i m => match ob n, cs with
        | some (.cells l), [c] => match Nat.ble (off + m) (lenA l) with
          | true => match homW (takeA m (dropA off l)) i m c with
            | some l' => match setAtA off l' l with
              | some l'' => fvl l'' fun l'' => some ([], [(n, some (.cells l''))])
              | none => none
            | none => none
          | false => none
        | _, _ => none
      | .epr n e i off => match e.flat with
        | true => match ob n with
          | some (.rows e' xs) => if e' = e then
              match setAtA off cs (enc e' (xs.getD i e'.dflt)) with
              | some l' => match decS e' l' with
                | some (t, []) => some ([i < xs.length], [(n, some (.rows e' (xs.set i t)))])
                | _ => none
              | none => none
            else none
          | _ => none
        | false => none
      | _ => none
    | false => none
  | _, _ => none
def litRows (e : Sh) (i : Nat) : List (Nat × AV) → Option (List e.T)
  | [] => some []
  | (j, v) :: r => match Nat.beq i j, cellsA v with
    | true, some cs => match decS e cs with
      | some (t, []) => match litRows e (i + 1) r with
        | some ts => some (t :: ts)
        | none => none
      | _ => none
    | _, _ => none
noncomputable def fillA (place : Nat → Option (Nat × Nat)) (cells : List AV) : List (Nat × AV) → Option (List AV)
  | [] => some cells
  | (i, v) :: r => match place i, cellsA v with
    | some (off, size), some cs => match Nat.beq (lenA cs) size, setAtA off cs cells with
      | true, some cells' => fillA place cells' r
      | _, _ => none
    | _, _ => none
def fldPl (P : Program) : List Field → Option (List (Nat × Nat))
  | [] => some []
  | f :: r => match sizeT P f.type with
    | some s => match fldPl P r with
      | some q => some ((f.offset, s) :: q)
      | none => none
    | none => none
def opBuildS (P : Program) (T : TypeId) (l : List (Nat × AV)) : Option AV :=
  match P.underlying T with
  | some (.struct fs) => match shE P T, zeroT P T with
    | some e, some z => match e.flat with
      | true => none
      | false => match zeroE e z with
        | some x => match fldPl P fs.toList, fillS P fs.toList e x l with
          | some _, some x => some (.arr e x)
          | _, _ => none
        | none => none
    | _, _ => none
  | _ => none
def placeT (P : Program) (t : TypeId) : Option (Nat → Option (Nat × Nat)) :=
  match P.underlying t with
  | some (.struct fs) => match fldPl P fs.toList with
    | some q => some (nth q)
    | none => none
  | some (.array _ e) => match sizeT P e with
    | some s => some fun i => some (i * s, s)
    | none => none
  | _ => none
noncomputable def fep {α : Type} (tm : Nat → Option AV) (xs : List (Nat × Operand)) (k : List Prop → List (Nat × AV) → Option α) : Option α :=
  match xs with
  | [] => k [] []
  | (i, x) :: r => fe tm x fun p v => fep tm r fun q vs => k (p ++ q) ((i, v) :: vs)
def toBytes (xs : List Int) : List UInt8 := xs.map fun z => UInt8.ofNat z.toNat
def ofBytes (l : List UInt8) : List Int := l.map fun b => (b.toNat : Int)
def idxA (i : Nat) : List AV → List (Nat × AV)
  | [] => []
  | v :: r => (i, v) :: idxA (i + 1) r
def readA (ob : Nat → Option AO) (e : Sh) (x : AV) : Option (List e.T × List Prop) :=
  match x with
  | .fsl e' xs => if h : e' = e then some (h ▸ xs, []) else none
  | .nilsl => some ([], [])
  | .rsl n e' off len => match ob n with
    | some (.rows e'' xs) => if h : e'' = e then if e' = e then some (sliceA off (off + len) (h ▸ xs), [off + len ≤ xs.length]) else none else none
    | some (.frz e'' xs) => if h : e'' = e then if e' = e then some (sliceA off (off + len) (h ▸ xs), [off + len ≤ xs.length]) else none else none
    | _ => none
  | .own n e' => match ob n with
    | some (.rows e'' xs) => if h : e'' = e then if e' = e then some (h ▸ xs, []) else none else none
    | some (.frz e'' xs) => if h : e'' = e then if e' = e then some (h ▸ xs, []) else none else none
    | _ => none
  | .csl n off len => match ob n with
    | some (.cells l) => match Nat.ble (off + len) (lenA l), leavesA (takeA len (dropA off l)), litRows e 0 (idxA 0 (takeA len (dropA off l))) with
      | true, true, some ts => some (ts, [])
      | _, _, _ => none
    | some (.fcl l) => match Nat.ble (off + len) (lenA l), leavesA (takeA len (dropA off l)), litRows e 0 (idxA 0 (takeA len (dropA off l))) with
      | true, true, some ts => some (ts, [])
      | _, _, _ => none
    | _ => none
  | .wsl n e' i at' m s off len => match ob n with
    | some (.rows e'' xs) => if e'' = e' then if h : s = e then match getS (.arr m s) e'' (xs.getD i e''.dflt) at' with
        | some t => some (sliceA off (off + len) (h ▸ t), [i < xs.length])
        | none => none
      else none else none
    | _ => none
  | _ => none
noncomputable def opConvert (P : Program) (src dst : TypeId) (ob : Nat → Option AO) (nm : Nat) (x : AV) : Option (List Prop × AV × Upd) :=
  match P.underlying src, P.underlying dst with
  | some (.int _), some (.int k) => match x with
    | .int _ n => some ([], .int k (k.wrap n), [])
    | _ => none
  | some .string, some .string => match x with
    | .str l => some ([], .str l, [])
    | _ => none
  | some .string, some (.slice e) => match P.underlying e, x with
    | some (.int .u8), .str l => some ([], .own nm (.int .u8), [(nm, some (.rows (.int .u8) (ofBytes l)))])
    | _, _ => none
  | some (.slice e), some .string => match P.underlying e with
    | some (.int .u8) => match readA ob (.int .u8) x with
      | some (xs, obs) => some (obs, .str (toBytes xs), [])
      | none => none
    | _ => none
  | _, _ => none
noncomputable def optI {α : Type} (tm : Nat → Option AV) (x : Option Operand) (d : Int) (k : List Prop → Int → Option α) : Option α :=
  match x with
  | none => k [] d
  | some x => fe tm x fun p v => match v with
    | .int _ n => k p n
    | _ => none
noncomputable def opSlice (P : Program) (T : TypeId) (tm : Nat → Option AV) (ob : Nat → Option AO) (x : AV) (lo hi mx : Option Operand) (nm : Nat) : Option (List Prop × AV × Upd) :=
  match mx with
  | some m => match hi with
    | some h => match P.underlying T with
      | some (.slice el) => match x, sizeT P el with
        | .fsl e xs, some _ => optI tm lo 0 fun p a => optI tm (some h) 0 fun q b => optI tm (some m) 0 fun r c =>
            some (appA p (appA q (appA r [a = 0 ∧ b = 0 ∧ c = 0])), .own nm e, [(nm, some (.rows e []))])
        | _, _ => none
      | _ => none
    | none => none
  | none => match P.underlying T with
    | some .string => match x with
      | .str l => optI tm lo 0 fun p a => optI tm hi l.length fun q b =>
          some (appA p (appA q [0 ≤ a ∧ a ≤ b ∧ b ≤ (l.length : Int)]), .str (sliceA a.toNat b.toNat l), [])
      | _ => none
    | some (.slice el) => match sizeT P el with
      | some s => match x with
        | .fsl e xs => match Nat.beq s e.size with
          | true => optI tm lo 0 fun p a => optI tm hi xs.length fun q b =>
            some (appA p (appA q [0 ≤ a ∧ a ≤ b ∧ b ≤ (xs.length : Int)]), .fsl e (sliceA a.toNat b.toNat xs), [])
          | false => none
        | .nilsl => optI tm lo 0 fun p a => optI tm hi 0 fun q b =>
            some (appA p (appA q [a = 0 ∧ b = 0]), .nilsl, [])
        | .rsl n e off len => match Nat.beq s e.size with
          | true => optI tm lo 0 fun p a => optI tm hi len fun q b =>
            some (appA p (appA q [0 ≤ a ∧ a ≤ b ∧ b ≤ (len : Int)]), .rsl n e (off + a.toNat) (b.toNat - a.toNat), [])
          | false => none
        | .own n e => match Nat.beq s e.size with
          | true => match ob n with
            | some (.rows e' xs) => optI tm lo 0 fun p a => optI tm hi xs.length fun q b =>
              some (appA p (appA q [0 ≤ a ∧ a ≤ b ∧ b ≤ (xs.length : Int)]), .rsl n e a.toNat (b.toNat - a.toNat), [])
            | some (.frz e' xs) => optI tm lo 0 fun p a => optI tm hi xs.length fun q b =>
              some (appA p (appA q [0 ≤ a ∧ a ≤ b ∧ b ≤ (xs.length : Int)]), .rsl n e a.toNat (b.toNat - a.toNat), [])
            | _ => none
          | false => none
        | .csl n off len => optI tm lo 0 fun p a => optI tm hi len fun q b =>
            some (appA p (appA q [0 ≤ a ∧ a ≤ b ∧ b ≤ (len : Int)]), .csl n (off + a.toNat * s) (b.toNat - a.toNat), [])
        | _ => none
      | none => none
    | some (.array m el) => match sizeT P el with
      | some s => match x with
        | .ptr n off => optI tm lo 0 fun p a => optI tm hi m fun q b =>
            some (appA p (appA q [0 ≤ a ∧ a ≤ b ∧ b ≤ (m : Int)]), .csl n (off + a.toNat * s) (b.toNat - a.toNat), [])
        | .epr n e i off => match shE P el with
          | some se => optI tm lo 0 fun p a => optI tm hi m fun q b =>
            some (appA p (appA q [0 ≤ a ∧ a ≤ b ∧ b ≤ (m : Int)]), .wsl n e i off m se a.toNat (b.toNat - a.toNat), [])
          | none => none
        | _ => none
      | none => none
    | _ => none
def room (b n : Nat) : Prop :=
  match b with
  | 0 => n ≤ 140737488355328
  | b + 1 => n * Nat.succ b ≤ 140737488355328
def roomy (P : Program) (e : TypeId) (n : Nat) : Prop :=
  match P.info? e with
  | some i => room i.bytes n
  | none => False
def apSrc (P : Program) (T : TypeId) (ob : Nat → Option AO) (e : Sh) (y : AV) : Option (List e.T × List Prop) :=
  match P.underlying T with
  | some .string => match y, e with
    | .str l, .int .u8 => some (ofBytes l, [])
    | _, _ => none
  | some (.slice _) => readA ob e y
  | _ => none
def opAppend (P : Program) (T T' : TypeId) (ob : Nat → Option AO) (nm : Nat) (x y : AV) : Option (List Prop × AV × Upd) :=
  match P.underlying T with
  | some (.slice el) => match shZ P el with
    | none => none
    | some e => match apSrc P T' ob e y with
      | none => none
      | some (ys, obs) => match x with
        | .nilsl => some (appA obs [roomy P el ys.length], .own nm e, [(nm, some (.rows e ys))])
        | .own n e' => match ob n with
          | some (.rows e'' xs) => if h : e'' = e then
              some (appA obs [roomy P el (xs.length + ys.length)], .own nm e,
                [(n, none), (nm, some (.rows e ((h ▸ xs : List e.T) ++ ys)))])
            else none
          | _ => none
        | .rsl n e' off len => match ob n with
          | some (.rows e'' xs) => if h : e'' = e then
              some (appA obs [off = 0 ∧ len = xs.length ∧ roomy P el (xs.length + ys.length)], .own nm e,
                [(n, none), (nm, some (.rows e ((h ▸ xs : List e.T) ++ ys)))])
            else none
          | _ => none
        | _ => none
  | _ => none
def cpyA {α : Type} (off len : Nat) (ys xs : List α) : List α := xs.take off ++ (ys.take len ++ xs.drop (off + min len ys.length))
def opCopy (P : Program) (T : TypeId) (ob : Nat → Option AO) (x y : AV) : Option (List Prop × AV × Upd) :=
  match P.underlying T with
  | some (.slice el) => match sizeT P el with
    | some s => match x with
      | .rsl n e off len => match Nat.beq s e.size with
        | true => match ob n with
          | some (.rows e' xs) => match readA ob e' y with
            | some (ys, obs) => if e' = e then some (appA obs [off + len ≤ xs.length], .int .i64 ((min len ys.length : Nat) : Int), [(n, some (.rows e' (cpyA off len ys xs)))]) else none
            | none => none
          | _ => none
        | false => none
      | .wsl n e i at' m se off len => match Nat.beq s se.size with
        | true => match ob n with
          | some (.rows e' xs) => match readA ob se y with
            | some (ys, obs) => if e' = e then match getS (.arr m se) e' (xs.getD i e'.dflt) at' with
                | some t => match setS (.arr m se) (cpyA off len ys t) e' (xs.getD i e'.dflt) at' with
                  | some z => some (appA obs [i < xs.length], .int .i64 ((min len ys.length : Nat) : Int), [(n, some (.rows e' (xs.set i z)))])
                  | none => none
                | none => none
              else none
            | none => none
          | _ => none
        | false => none
      | _ => none
    | none => none
  | _ => none
def opLen (P : Program) (T : TypeId) (ob : Nat → Option AO) (x : AV) : Option AV :=
  match P.underlying T with
  | some .string => match x with
    | .str l => some (.int .i64 (l.length : Int))
    | _ => none
  | some (.array n _) => some (.int .i64 (n : Int))
  | some (.slice _) => match x with
    | .fsl _ xs => some (.int .i64 (xs.length : Int))
    | .nilsl => some (.int .i64 0)
    | .rsl _ _ _ len => some (.int .i64 (len : Int))
    | .csl _ _ len => some (.int .i64 (len : Int))
    | .wsl _ _ _ _ _ _ _ len => some (.int .i64 (len : Int))
    | .own n _ => match ob n with
      | some (.rows _ xs) => some (.int .i64 (xs.length : Int))
      | some (.frz _ xs) => some (.int .i64 (xs.length : Int))
      | _ => none
    | _ => none
  | _ => none
def minmaxA (mx : Bool) : AV → List AV → Option AV
  | v, [] => some v
  | .int k a, .int _ b :: r => minmaxA mx (.int k (match mx with | true => if b > a then b else a | false => if b < a then b else a)) r
  | _, _ => none
def arrV (e : Sh) (xs : List e.T) : (n : Nat) → (i : Nat) → (s : Sh) → Option s.T
  | 0, _, _ => none
  | 1, i, s => if h : e = s then some (h ▸ xs.getD i e.dflt) else none
  | n + 1, i, .pair a b => if h : e = a then match arrV e xs n (i + 1) b with
      | some r => some ((h ▸ xs.getD i e.dflt, r) : a.T × b.T)
      | none => none
    else none
  | _, _, _ => none
def pickA (ca cb : Operand) (t : Bool) (a b : AV) : Option (List Prop × AV) :=
  let (pa, a) := strip t true a
  let (pb, b) := strip t false b
  match a, b with
  | .bool x, .bool y => match ca, cb with
    | .const _, _ => match x with
      | true => some (pb, .bool (t || y))
      | false => some (pb, .bool (!t && y))
    | _, .const _ => match y with
      | false => some (pa, .bool (t && x))
      | true => some (pa, .bool (!t || x))
    | _, _ => some (appA pa pb, .bool (cond t x y))
  | _, _ => none
 where
  strip (t want : Bool) (v : AV) : List Prop × AV := match v with
    | .when g v => ([t = want → g = true], v)
    | v => ([], v)
def frz1 (ob : Nat → Option AO) (v : AV) : AV :=
  match v with
  | .own m e => match ob m with
    | some (.rows e' xs) => if e' = e then .fsl e' xs else .own m e
    | some (.frz e' xs) => if e' = e then .fsl e' xs else .own m e
    | _ => .own m e
  | v => v
def frzU (ob : Nat → Option AO) (v : AV) : Upd :=
  match v with
  | .own m e => match ob m with
    | some (.rows e' xs) => if e' = e then [(m, some (.frz e' xs))] else []
    | _ => []
  | _ => []
def frzs (ob : Nat → Option AO) : List AV → List AV
  | [] => []
  | v :: r => frz1 ob v :: frzs ob r
def frzUs (ob : Nat → Option AO) : List AV → Upd
  | [] => []
  | v :: r => appA (frzU ob v) (frzUs ob r)
def frzV (ob : Nat → Option AO) (v : AV) : AV :=
  match v with
  | .agg l => .agg (frzs ob l)
  | v => frz1 ob v
def frzW (ob : Nat → Option AO) (v : AV) : Upd :=
  match v with
  | .agg l => frzUs ob l
  | v => frzU ob v
def frzP (ob : Nat → Option AO) : List (Nat × AV) → List (Nat × AV)
  | [] => []
  | (i, v) :: r => (i, frzV ob v) :: frzP ob r
def frzQ (ob : Nat → Option AO) : List (Nat × AV) → Upd
  | [] => []
  | (_, v) :: r => appA (frzW ob v) (frzQ ob r)
def updO (u : Upd) (ob : Nat → Option AO) (n : Nat) : Option AO :=
  match lkA u n with
  | some r => r
  | none => ob n
def nilCmp (P : Program) (op : BinOp) (T : TypeId) (ob : Nat → Option AO) (y : Operand) (v : AV) : Option AV :=
  match y with
  | .const c => match c with
    | .pointer none => match P.underlying T with
      | some (.pointer _) => match v with
        | .ptr n _ => match lvA ob n with
          | true => notIf op false
          | false => none
        | _ => none
      | _ => none
    | .nilIface => match P.underlying T with
      | some (.interface _) => match v with
        | .er t => notIf op (errN t)
        | .nilif => notIf op true
        | _ => none
      | _ => none
    | _ => none
  | _ => none
def errP (ob : Nat → Option AO) (T : TypeId) (v : AV) : Option (TErr × Upd) :=
  match v with
  | .ptr n off => match Nat.beq off 0, ob n with
    | true, some (.cells l) => match l with
      | [a, b] => match errA b with
        | some e => match a with
          | .int k m => match k with
            | .i64 => some (.at' T m e, [(n, some (.fcl l))])
            | _ => none
          | .str s => some (.of' T s e, [(n, some (.fcl l))])
          | _ => none
        | none => none
      | [a] => match a with
        | .str _ => some (.any T, [(n, some (.fcl l))])
        | _ => none
      | _ => none
    | _, _ => none
  | _ => none
def arrT (P : Program) (T : TypeId) : Option Sh :=
  match shE P T with
  | some e => match e.flat with
    | true => none
    | false => some e
  | none => none
def lkZ {α : Type} (l : List (Int × α)) (j : Int) (d : α) : α :=
  match l with
  | [] => d
  | (i, x) :: r => if i = j then x else lkZ r j d
def hasZ {α : Type} (l : List (Int × α)) (j : Int) : Bool :=
  match l with
  | [] => false
  | (i, _) :: r => if i = j then true else hasZ r j
def updZ {α : Type} (l : List (Int × α)) (j : Int) (y : α) : List (Int × α) :=
  match l with
  | [] => [(j, y)]
  | (i, x) :: r => if i = j then (j, y) :: r else (i, x) :: updZ r j y
def leafSh (e : Sh) : Bool :=
  match e with
  | .int _ => true
  | .bool => true
  | .str => true
  | _ => false
def zero1 (P : Program) (t : TypeId) : Option AV :=
  match P.info? t with
  | some i => match i.zero with
    | some z => some (cval z)
    | none => none
  | none => none
def mapT (P : Program) (T : TypeId) : Option (IntKind × ((e : Sh) × e.T)) :=
  match P.underlying T with
  | some (.map kt et) => match P.underlying kt with
    | some (.int k) => match shE P et, zero1 P et with
      | some e, some z => match leafSh e with
        | true => match decS e [z] with
          | some (d, []) => some (k, ⟨e, d⟩)
          | _ => none
        | false => none
      | _, _ => none
    | _ => none
  | _ => none
def opLookup (P : Program) (T : TypeId) (ok : Bool) (ob : Nat → Option AO) (x j : AV) : Option AV :=
  match x, j with
  | .mpr n, .int k' j => match mapT P T with
    | some (k, ⟨e, d⟩) => match ob n with
      | some (.mp k'' e' l) => if k' = k ∧ k'' = k then if h : e = e' then
          match headA (enc e' (lkZ l j (h ▸ d))) with
          | some v => match ok with
            | true => some (.tup [v, .bool (hasZ l j)])
            | false => some v
          | none => none
        else none else none
      | _ => none
    | none => none
  | _, _ => none
def opMapUpd (P : Program) (T : TypeId) (ob : Nat → Option AO) (x j v : AV) : Option Upd :=
  match x, j with
  | .mpr n, .int k' j => match mapT P T with
    | some (k, ⟨e, _⟩) => match ob n with
      | some (.mp k'' e' l) => if k' = k ∧ k'' = k ∧ e = e' then
          match decS e' [v] with
          | some (y, []) => some [(n, some (.mp k'' e' (updZ l j y)))]
          | _ => none
        else none
      | _ => none
    | none => none
  | _, _ => none
noncomputable def opA (P : Program) (C : Ctx) (tm : Nat → Option AV) (ob : Nat → Option AO) (nm : Nat) (o : Oper) : Option OpR :=
  match o.op with
  | .move x => fe tm x fun p v => some ⟨p, v, []⟩
  | .assign x => fe tm x fun p v => some ⟨p, v, []⟩
  | .pick c a b => fe tm c fun p c => match c with
    | .bool t => match pickA a b t (opv tm a) (opv tm b) with
      | some (q, v) => some ⟨appA p q, v, []⟩
      | none => none
    | _ => none
  | .alloc T => match zeroT P T with
    | some l => match arrT P T with
      | some e => match zeroE e l with
        | some x => some ⟨[], .epr nm e 0 0, [(nm, some (.rows e [x]))]⟩
        | none => none
      | none => match leavesA l with
        | true => fvl l fun l => some ⟨[], .ptr nm 0, [(nm, some (.cells l))]⟩
        | false => none
    | none => none
  | .box T x => fe tm x fun p v => match v with
    | .arr e x => some ⟨p, .epr nm e 0 0, [(nm, some (.rows e [x]))]⟩
    | v => match cellsA v with
      | some l => some ⟨p, .ptr nm 0, [(nm, some (.cells l))]⟩
      | none => none
  | .build T parts => match arrT P T with
    | some _ => fep tm parts.toList fun p l => match opBuildS P T l with
      | some v => some ⟨p, v, []⟩
      | none => none
    | none => match zeroT P T, placeT P T with
      | some z, some pl => fep tm parts.toList fun p l => match fillA pl z l with
        | some l' => fvl l' fun l' => some ⟨p, .agg l', []⟩
        | none => none
      | _, _ => none
  | .makeMap T r => match r, mapT P T with
    | none, some (k, ⟨e, _⟩) => some ⟨[], .mpr nm, [(nm, some (.mp k e []))]⟩
    | _, _ => none
  | .lookup T x j ok => fe tm x fun p v => fe tm j fun q w => match liveA ob v, opLookup P T ok ob v w with
    | true, some r => some ⟨appA p q, r, []⟩
    | _, _ => none
  | .mapUpdate T x j y => fe tm x fun p v => fe tm j fun q w => fe tm y fun r z => match opMapUpd P T ob v w z with
    | some u => some ⟨appA p (appA q r), .unk, u⟩
    | none => none
  | .buildSlice T n parts => match P.underlying T with
    | some (.slice el) => match shE P el with
      | some e => fep tm parts.toList fun p l => match Nat.beq (lenA l) n, Nat.ble (n * e.size) 16777216, litRows e 0 l with
        | true, true, some ts => match zeroT P el with
          | some _ => some ⟨p, .own nm e, [(nm, some (.rows e ts))]⟩
          | none => none
        | true, true, none => match litRows e 0 (frzP ob l), zeroT P el with
          | some ts, some _ => some ⟨p, .own nm e, (nm, some (.rows e ts)) :: frzQ ob l⟩
          | _, _ => none
        | _, _, _ => none
      | none => none
    | _ => none
  | .load T x => fe tm x fun p v => match opLoad P T ob v with
    | some (q, v) => fv v fun v => some ⟨appA p q, v, []⟩
    | none => none
  | .store T x y => fe tm x fun p v => fe tm y fun p' v' => match opStoreS P T ob v v' with
    | some (q, u) => some ⟨appA p (appA p' q), .unk, u⟩
    | none => match opStore P T ob v v' with
      | some (q, u) => some ⟨appA p (appA p' q), .unk, u⟩
      | none => match opStore P T (updO (frzW ob v') ob) v (frzV ob v') with
        | some (q, u) => some ⟨appA p (appA p' q), .unk, appA u (frzW ob v')⟩
        | none => none
  | .nilCheck x => fe tm x fun p v => match liveA ob v with
    | true => match v with
      | .ptr _ _ => some ⟨p, v, []⟩
      | .fpt _ _ _ => some ⟨p, v, []⟩
      | .epr _ _ _ _ => some ⟨p, v, []⟩
      | .fn _ _ _ => some ⟨p, v, []⟩
      | _ => none
    | false => none
  | .binOp op T x y _ => fe tm x fun p v => fe tm y fun p' v' => match nilCmp P op T ob y v with
    | some w => some ⟨appA p p', w, []⟩
    | none => match opBin P op T v v' with
      | some (q, w) => some ⟨appA p (appA p' q), w, []⟩
      | none => none
  | .unOp op _ x => fe tm x fun p v => match op, v with
    | .not, .bool b => some ⟨p, .bool (!b), []⟩
    | .neg, .int k n => some ⟨p, .int k (k.wrap (0 - n)), []⟩
    | .xor, .int k n => some ⟨p, .int k (k.wrap (bxorI k (if k.signed then -1 else k.max) n)), []⟩
    | _, _ => none
  | .convert src dst x => fe tm x fun p v => match opConvert P src dst ob nm v with
    | some (q, w, u) => some ⟨appA p q, w, u⟩
    | none => none
  | .sliceToArrayPointer arr x => fe tm x fun p v => match v, P.underlying arr, shT P 16 arr with
    | .fsl e xs, some (.array n _), some s => match arrV e xs n 0 s with
      | some t => some ⟨appA p [n ≤ xs.length], .fpt s t 0, []⟩
      | none => none
    | _, _, _ => none
  | .makeInterface T x => fe tm x fun p v => match P.underlying T with
    | some (.interface _) => none
    | some _ => match errP ob T v with
      | some (t, u) => some ⟨p, .er t, u⟩
      | none => some ⟨p, .ifc T v, []⟩
    | none => none
  | .makeFunc fn first cap => match fn with
    | .func f => fel tm first.toList fun p x => fel tm cap.toList fun q y => some ⟨appA p q, .fn f x y, []⟩
    | _ => none
  | .makeSlice T l c => fe tm l fun p a => fe tm c fun q b => match a, b, P.underlying T with
    | .int _ n, .int _ m, some (.slice el) => match shE P el, zeroT P el with
      | some e, some z => match zeroE e z with
        | some t => some ⟨appA p (appA q [0 ≤ n ∧ n ≤ m ∧ m < 9223372036854775808 ∧ roomy P el m.toNat]), .own nm e, [(nm, some (.rows e (List.replicate n.toNat t)))]⟩
        | _ => none
      | _, _ => none
    | _, _, _ => none
  | .slice T x lo hi mx => fe tm x fun p v => match liveA ob v, opSlice P T tm ob v lo hi mx nm with
    | true, some (q, w, u) => some ⟨appA p q, w, u⟩
    | _, _ => none
  | .fieldAddr T x f => fe tm x fun p v => match liveA ob v, opFieldAddr P T v f with
    | true, some w => some ⟨p, w, []⟩
    | _, _ => none
  | .field T x f => fe tm x fun p v => match v, fld P T f with
    | .agg l, some f => match partA P f.type f.offset l with
      | some w => fv w fun w => some ⟨p, w, []⟩
      | none => none
    | .arr e x, some f => match partS P f.type e x f.offset with
      | some w => some ⟨p, w, []⟩
      | none => none
    | _, _ => none
  | .indexAddr T x i => fe tm x fun p v => fe tm i fun q j => match liveA ob v, opIndexAddr P T (isCst i) ob v j with
    | true, some (r, w) => some ⟨appA p (appA q r), w, []⟩
    | _, _ => none
  | .index T x i => fe tm x fun p v => fe tm i fun q j => match opIndex P T (isCst i) v j with
    | some (r, w) => fv w fun w => some ⟨appA p (appA q r), w, []⟩
    | none => none
  | .extract x i => fe tm x fun p v => match v with
    | .tup l => match nth l i with
      | some w => fv w fun w => some ⟨p, w, []⟩
      | none => none
    | _ => none
  | .call c => match c.callee with
    | .value f => fe tm f fun p fv' => fel tm c.args.toList fun q args => match fv' with
      | .fn F first cap => match C F (appA first (appA args cap)) ob nm with
        | some (r, v, u) => fv v fun v => some ⟨appA p (appA q [r]), v, u⟩
        | none => none
      | _ => none
    | .builtin .len => match c.args.toList, c.argTypes.toList with
      | [x], [T] => fe tm x fun p v => match liveA ob v, opLen P T ob v with
        | true, some w => some ⟨p, w, []⟩
        | _, _ => none
      | _, _ => none
    | .builtin .append => match c.args.toList, c.argTypes.toList with
      | [x, y], [T, T'] => fe tm x fun p v => fe tm y fun p' v' => match opAppend P T T' ob nm v v' with
        | some (q, w, u) => some ⟨appA p (appA p' q), w, u⟩
        | none => none
      | _, _ => none
    | .builtin .max => fel tm c.args.toList fun p l => match l with
      | v :: r => match minmaxA true v r with
        | some w => some ⟨p, w, []⟩
        | none => none
      | [] => none
    | .builtin .min => fel tm c.args.toList fun p l => match l with
      | v :: r => match minmaxA false v r with
        | some w => some ⟨p, w, []⟩
        | none => none
      | [] => none
    | .builtin .copy => match c.args.toList, c.argTypes.toList with
      | [x, y], [T, T'] => fe tm x fun p v => fe tm y fun p' v' => match opCopy P T ob v v' with
        | some (q, w, u) => some ⟨appA p (appA p' q), w, u⟩
        | none => none
      | _, _ => none
    | _ => none
  | _ => none
structure Ga where
  tmps : List (Nat × AV)
  objs : Upd
  next : Nat
  nt : Nat
def frcN {α : Sort u} (n : Nat) (k : Nat → α) : α :=
  match n with
  | 0 => k 0
  | n + 1 => k (Nat.succ n)
noncomputable def appK {α : Sort u} (l m : Upd) : (Upd → α) → α :=
  List.rec (motive := fun _ => (Upd → α) → α) (fun k => k m) (fun x _ ih k => ih fun q => k (x :: q)) l
theorem appK_cons {α : Sort u} (x : Nat × Option AO) (r m : Upd) (k : Upd → α) : appK (x :: r) m k = appK r m fun q => k (x :: q) := rfl
noncomputable def Ga.app {α : Sort u} (g : Ga) (d : Option Nat) (v : AV) (u : Upd) (k : Ga → α) : α :=
  match g with
  | ⟨tm, ob, nx, nt⟩ => appK u ob fun ob' => match d with
    | some d => k ⟨(d, v) :: tm, ob', nx, nt⟩
    | none => k ⟨tm, ob', nx, nt⟩
noncomputable def frcT {α : Sort u} (s : Nat) (l : List (Nat × AV)) : (List (Nat × AV) → α) → α :=
  List.rec (motive := fun _ => Nat → (List (Nat × AV) → α) → α) (fun _ k => k [])
    (fun x _ ih s k => match x with
      | (n, v) => match Nat.beq (Nat.land (Nat.shiftRight s n) 1) 1 with
        | true => ih s k
        | false => fv v fun v' => ih (Nat.lor s (Nat.shiftLeft 1 n)) fun q => k ((n, v') :: q)) l s
theorem frcT_cons {α : Sort u} (s n : Nat) (v : AV) (r : List (Nat × AV)) (k : List (Nat × AV) → α) : frcT s ((n, v) :: r) k =
    match Nat.beq (Nat.land (Nat.shiftRight s n) 1) 1 with
    | true => frcT s r k
    | false => fv v fun v' => frcT (Nat.lor s (Nat.shiftLeft 1 n)) r fun q => k ((n, v') :: q) := rfl
noncomputable def frcO {α : Sort u} (o : AO) (k : AO → α) : α :=
  match o with
  | .cells l => fvl l fun l' => k (.cells l')
  | .rows e xs => k (.rows e xs)
  | .frz e xs => k (.frz e xs)
  | .fcl l => fvl l fun l' => k (.fcl l')
  | .mp a b c => k (.mp a b c)
noncomputable def frcU {α : Sort u} (s : Nat) (l : Upd) : (Upd → α) → α :=
  List.rec (motive := fun _ => Nat → (Upd → α) → α) (fun _ k => k [])
    (fun x _ ih s k => match x with
      | (n, o) => match Nat.beq (Nat.land (Nat.shiftRight s n) 1) 1 with
        | true => ih s k
        | false => frcN n fun n' => match o with
          | none => ih (Nat.lor s (Nat.shiftLeft 1 n')) k
          | some o => frcO o fun o' => ih (Nat.lor s (Nat.shiftLeft 1 n')) fun q => k ((n', some o') :: q)) l s
theorem frcU_cons {α : Sort u} (s n : Nat) (o : Option AO) (r : Upd) (k : Upd → α) : frcU s ((n, o) :: r) k =
    match Nat.beq (Nat.land (Nat.shiftRight s n) 1) 1 with
    | true => frcU s r k
    | false => frcN n fun n' => match o with
      | none => frcU (Nat.lor s (Nat.shiftLeft 1 n')) r k
      | some o => frcO o fun o' => frcU (Nat.lor s (Nat.shiftLeft 1 n')) r fun q => k ((n', some o') :: q) := rfl
noncomputable def Ga.frc {α : Sort u} (g : Ga) (k : Ga → α) : α :=
  match g with
  | ⟨tm, ob, nx, nt⟩ => frcT 0 tm fun tm' => frcU 0 ob fun ob' => frcN nx fun nx' => k ⟨tm', ob', nx', nt⟩
structure Ob (p : Prop) : Prop where
  out : p
noncomputable def evObs (l : List Prop) : Prop → Prop :=
  List.rec (motive := fun _ => Prop → Prop) (fun q => q) (fun p _ ih q => Ob p ∧ ih q) l
theorem evObs_nil (q : Prop) : evObs [] q = q := rfl
theorem evObs_cons (p : Prop) (r : List Prop) (q : Prop) : evObs (p :: r) q = (Ob p ∧ evObs r q) := rfl
noncomputable def evObsC (c : Bool) (l : List Prop) : Prop → Prop :=
  List.rec (motive := fun _ => Prop → Prop) (fun q => q) (fun p _ ih q => (c = true → Ob p) ∧ ih q) l
theorem evObsC_nil (c : Bool) (q : Prop) : evObsC c [] q = q := rfl
theorem evObsC_cons (c : Bool) (p : Prop) (r : List Prop) (q : Prop) : evObsC c (p :: r) q = ((c = true → Ob p) ∧ evObsC c r q) := rfl
def gcA (ops : List Oper) (tm : Nat → Option AV) (o : Oper) : Option (Option Bool) :=
  match o.guard with
  | none => some none
  | some (j, want) => match nth ops j with
    | some oj => match oj.dst with
      | some t => match tm t with
        | some (.bool b) => match want with
          | true => some (some b)
          | false => some (some (!b))
        | some (.when g (.bool b)) => match want with
          | true => some (some (g && b))
          | false => some (some (g && !b))
        | _ => none
      | none => none
    | none => none
noncomputable def splA (v : AV) (k : AV → Prop) : Prop :=
  match v with
  | .ite c a b => (c = true → fv a k) ∧ (c = false → fv b k)
  | v => k v
def dstOk (nt : Nat) : Option Nat → Bool
  | some d => Nat.blt d nt
  | none => true
structure Tr where
  o : Oper
  v : AV
  u : Upd
  a : List AV
def opvs (tm : Nat → Option AV) : List Operand → List AV
  | [] => []
  | x :: r => opv tm x :: opvs tm r
def dumA (P : Program) (t : TypeId) : AV :=
  match zeroT P t with
  | some [v] => v
  | some l => .agg l
  | none => .unk
noncomputable def evOp (P : Program) (C : Ctx) (all : List Oper) (o : Oper) (ih : Nat → Ga → (List Tr → Ga → Prop) → Prop) (i : Nat) (g : Ga) (k : List Tr → Ga → Prop) : Prop :=
  match g with
  | ⟨tm, ob, nx, nt⟩ => match dstOk nt o.dst with
    | false => False
    | true => match gcA all (lkA tm) o with
      | none => False
      | some none => frcN (nx + 16 * i) fun nm => match opA P C (lkA tm) (lkO ob) nm o with
        | none => False
        | some ⟨obs, v, u⟩ => evObs obs (splA v fun v' => Ga.app ⟨tm, ob, nx, nt⟩ o.dst v' u fun g1 => ih (i + 1) g1 fun tr g' => k (⟨o, v', u, opvs (lkA tm) o.op.operands.toList⟩ :: tr) g')
      | some (some c) => frcN (nx + 16 * i) fun nm => match opA P C (lkA tm) (lkO ob) nm o with
        | some ⟨obs, v, []⟩ => evObsC c obs (Ga.app ⟨tm, ob, nx, nt⟩ o.dst (.when c v) [] fun g1 => ih (i + 1) g1 fun tr g' => k (⟨o, .when c v, [], opvs (lkA tm) o.op.operands.toList⟩ :: tr) g')
        | none => evObsC c [False] (Ga.app ⟨tm, ob, nx, nt⟩ o.dst (.when c (dumA P o.type)) [] fun g1 => ih (i + 1) g1 fun tr g' => k (⟨o, .when c (dumA P o.type), [], opvs (lkA tm) o.op.operands.toList⟩ :: tr) g')
        | _ => False
noncomputable def evOps (P : Program) (C : Ctx) (all : List Oper) (i : Nat) (ops : List Oper) : Ga → (List Tr → Ga → Prop) → Prop :=
  List.rec (motive := fun _ => Nat → Ga → (List Tr → Ga → Prop) → Prop)
    (fun i g k => match g with
      | ⟨tm, ob, nx, nt⟩ => k [] ⟨tm, ob, nx + 16 * i, nt⟩)
    (fun o _ ih i g k => evOp P C all o ih i g k) ops i
theorem evOps_cons (P : Program) (C : Ctx) (all : List Oper) (i : Nat) (o : Oper) (r : List Oper) (g : Ga) (k : List Tr → Ga → Prop) :
    evOps P C all i (o :: r) g k = evOp P C all o (fun i => evOps P C all i r) i g k := rfl
def nthN : List Nat → Nat → Nat
  | [], _ => 0
  | x :: r, n => match n with
    | 0 => x
    | n + 1 => nthN r n
def maskA (acc : List Nat) : List Edge → Nat → Nat
  | [], m => m
  | e :: r, m => match Region.binds .any e with
    | true => maskA acc r (Nat.lor (Nat.lor m (Nat.shiftLeft 1 e.on)) (nthN acc e.on))
    | false => maskA acc r m
def masksA : List Oper → List Nat → List Nat
  | [], acc => acc
  | o :: r, acc => masksA r (appA acc [maskA acc o.after.toList 0])
def backA (i : Nat) : List Edge → Bool
  | [] => true
  | e :: r => match Region.binds .any e, Nat.blt e.on i with
    | true, false => false
    | _, _ => backA i r
def memN (n : Nat) : List Nat → Bool
  | [] => false
  | m :: r => match Nat.beq n m with
    | true => true
    | false => memN n r
def tmpsOf : List Operand → List Nat
  | [] => []
  | .tmp t :: r => t :: tmpsOf r
  | _ :: r => tmpsOf r
def looksA (all : List Oper) (o : Oper) : List Nat :=
  match o.guard with
  | none => tmpsOf o.op.operands.toList
  | some (j, _) => match nth all j with
    | some oj => match oj.dst with
      | some t => t :: tmpsOf o.op.operands.toList
      | none => tmpsOf o.op.operands.toList
    | none => tmpsOf o.op.operands.toList
mutual
/-- Is a name in an abstract value? -/
def AV.has (n : Nat) : AV → Bool
  | .ptr m _ => Nat.beq n m
  | .rsl m _ _ _ => Nat.beq n m
  | .epr m _ _ _ => Nat.beq n m
  | .csl m _ _ => Nat.beq n m
  | .own m _ => Nat.beq n m
  | .cpr m _ _ _ => Nat.beq n m
  | .wsl m _ _ _ _ _ _ _ => Nat.beq n m
  | .mpr m => Nat.beq n m
  | .fn _ x y => AV.hass n x || AV.hass n y
  | .ifc _ a => AV.has n a
  | .agg l => AV.hass n l
  | .tup l => AV.hass n l
  | .when _ a => AV.has n a
  | .ite _ a b => AV.has n a || AV.has n b
  | _ => false
def AV.hass (n : Nat) : List AV → Bool
  | [] => false
  | a :: l => AV.has n a || AV.hass n l
end
def touchA (u : Upd) (n : Nat) : Bool :=
  match lkA u n with
  | some _ => true
  | none => false
def anyU (u : Upd) (p : Nat → Bool) : Bool :=
  match u with
  | [] => false
  | (n, _) :: r => p n || anyU r p
def rdO (o : Op) : Bool :=
  match o with
  | .move _ => false
  | .assign _ => false
  | _ => true
def confA (all : List Oper) (x y : Tr) : Bool :=
  (match y.o.dst with
    | some d => memN d (looksA all x.o) || (match x.o.dst with
      | some d' => Nat.beq d d'
      | none => false)
    | none => false) ||
  anyU y.u fun n => (rdO x.o.op && AV.hass n x.a) || touchA x.u n
def chkRow (all : List Oper) (m : Nat) (y : Tr) : Nat → List Tr → Bool
  | _, [] => true
  | i, x :: r => (Nat.testBit m i || !(confA all x y || confA all y x)) && chkRow all m y (i + 1) r
def chkRows (all : List Oper) : List Nat → List Tr → List Tr → Nat → Bool
  | m :: ms, y :: ys, seen, j => backA j y.o.after.toList && chkRow all m y 0 seen && chkRows all ms ys (appA seen [y]) (j + 1)
  | _, [], _, _ => true
  | [], _ :: _, _, _ => false
def chkA (ops : List Oper) (tr : List Tr) : Bool := chkRows ops (masksA ops []) tr [] 0
end Go.Tr
namespace Go.Tr
open Go
set_option linter.unusedVariables false
set_option linter.unusedSimpArgs false
theorem Row.mono {w w' : World} {b o : Nat} {cs : List Value} (hb : w'.heap[b]? = w.heap[b]?) (h : Row w b o cs) : Row w' b o cs := by
  intro j hj
  have := h j hj
  simpa only [World.cell?, hb] using this
theorem ErrR.mono {w w' : World} {ok ok' : Nat → Prop} (hw : ∀ b, ok b → w'.heap[b]? = w.heap[b]?) (ho : ∀ b, ok b → ok' b) :
    ∀ (t : TErr) (v : Value), ErrR w ok t v → ErrR w' ok' t v
  | .nil, v, h => h
  | .num _ _ _, v, h => h
  | .any _, v, h => h
  | .at' t n e, v, h => by
    simp only [ErrR] at h ⊢
    obtain ⟨b, x, h1, h2, h3, h4⟩ := h
    exact ⟨b, x, h1, ho _ h2, h3.mono (hw b h2), ErrR.mono hw ho e x h4⟩
  | .of' t s e, v, h => by
    simp only [ErrR] at h ⊢
    obtain ⟨b, x, h1, h2, h3, h4⟩ := h
    exact ⟨b, x, h1, ho _ h2, h3.mono (hw b h2), ErrR.mono hw ho e x h4⟩
theorem ErrR.leaf {w : World} {ok : Nat → Prop} {t : TErr} {v : Value} (h : ErrR w ok t v) : leafV v := by
  cases t with
  | nil => simp only [ErrR] at h; subst h; trivial
  | num t k n => simp only [ErrR] at h; subst h; trivial
  | at' t n e => simp only [ErrR] at h; obtain ⟨b, x, rfl, _⟩ := h; trivial
  | of' t s e => simp only [ErrR] at h; obtain ⟨b, x, rfl, _⟩ := h; trivial
  | any t => simp only [ErrR] at h; obtain ⟨x, rfl⟩ := h; trivial
theorem LRs.mono {w w' : World} {ok ok' : Nat → Prop} (hw : ∀ b, ok b → w'.heap[b]? = w.heap[b]?) (ho : ∀ b, ok b → ok' b) :
    ∀ (s : Sh) (x : s.T) (vs : List Value), LRs w ok s x vs → LRs w' ok' s x vs := by
  intro s
  induction s with
  | int k => intro x vs h; exact h
  | bool => intro x vs h; exact h
  | str => intro x vs h; exact h
  | unit => intro x vs h; exact h
  | sl e ih =>
    intro x vs h
    simp only [LRs] at h ⊢
    obtain ⟨base, cap, h1, h2, h3⟩ := h
    refine ⟨base, cap, h1, h2, ?_⟩
    rcases h3 with h3 | ⟨b, o, h4, h5, h6⟩
    · exact .inl h3
    · refine .inr ⟨b, o, h4, ho _ h5, fun i hi => ?_⟩
      obtain ⟨cs, g1, g2, g3⟩ := h6 i hi
      exact ⟨cs, g1, g2.mono (hw b h5), ih _ _ g3⟩
  | arr n e ih =>
    intro x vs h
    simp only [LRs] at h ⊢
    exact ⟨h.1, h.2.1, fun i hi => ih _ _ (h.2.2 i hi)⟩
  | pair a b iha ihb =>
    intro x vs h
    simp only [LRs] at h ⊢
    obtain ⟨v1, v2, h1, h2, h3⟩ := h
    exact ⟨v1, v2, h1, iha _ _ h2, ihb _ _ h3⟩
  | err =>
    intro x vs h
    simp only [LRs] at h ⊢
    obtain ⟨v, h1, h2⟩ := h
    exact ⟨v, h1, ErrR.mono hw ho x v h2⟩
theorem MpR.mono {w w' : World} {ok ok' : Nat → Prop} (hw : ∀ b, ok b → w'.heap[b]? = w.heap[b]?) (ho : ∀ b, ok b → ok' b) {k : IntKind} {e : Sh} : ∀ {l : List (Int × e.T)} {ms : List MapEntry}, MpR w ok k e l ms → MpR w' ok' k e l ms
  | [], ms, h => h
  | p :: l, ms, h => by
    obtain ⟨m, r, h1, h2, h3, h4⟩ := h
    exact ⟨m, r, h1, h2, LRs.mono hw ho _ _ _ h3, MpR.mono hw ho h4⟩
structure Goes (us : Nat → Prop) (E E' : Env) : Prop where
  hw : ∀ b, E.ok b → E'.w.heap[b]? = E.w.heap[b]?
  ho : ∀ b, E.ok b → E'.ok b
  mu : ∀ n, us n → ∀ L', E'.mu n = some L' → ∃ L, E.mu n = some L ∧ L.base = L'.base ∧ L.cap = L'.cap ∧ L.len = L'.len
mutual
theorem VR.mono {us : Nat → Prop} {E E' : Env} (g : Goes us E E') : ∀ (a : AV) (v : Value), a.nm us → VR E a v → VR E' a v
  | .unk, _, _, _ => by simp [VR]
  | .junk, v, _, h => by simpa [VR] using h
  | .int k n, v, _, h => by simpa [VR] using h
  | .bool b, v, _, h => by simpa [VR] using h
  | .str l, v, _, h => by simpa [VR] using h
  | .nilp, v, _, h => by simpa [VR] using h
  | .nilsl, v, _, h => by simpa [VR] using h
  | .nilif, v, _, h => by simpa [VR] using h
  | .nilf, v, _, h => by simpa [VR] using h
  | .fsl e xs, v, _, h => by
    simp only [VR] at h ⊢
    exact LRs.mono g.hw g.ho _ _ _ h
  | .fpt e x off, v, _, h => by
    simp only [VR] at h ⊢
    obtain ⟨b, o, cs, h1, h2, h3, h4, h5⟩ := h
    exact ⟨b, o, cs, h1, g.ho _ h2, h3, h4.mono (g.hw _ h2), LRs.mono g.hw g.ho _ _ _ h5⟩
  | .ptr n off, v, hn, h => by
    simp only [VR, AV.nm] at h hn ⊢
    refine ⟨h.1, fun L' hL' => ?_⟩
    obtain ⟨L, hL, hb, hc⟩ := g.mu n hn L' hL'
    obtain ⟨b, h1, h2⟩ := h.2 L hL
    exact ⟨b, hb ▸ h1, h2⟩
  | .rsl n e off len, v, hn, h => by
    simp only [VR, AV.nm] at h hn ⊢
    refine ⟨h.1, fun L' hL' => ?_⟩
    obtain ⟨L, hL, hb, hc, _⟩ := g.mu n hn L' hL'
    rw [← hb, ← hc]
    exact h.2 L hL
  | .epr n e i off, v, hn, h => by
    simp only [VR, AV.nm] at h hn ⊢
    refine ⟨h.1, fun L' hL' => ?_⟩
    obtain ⟨L, hL, hb, hc⟩ := g.mu n hn L' hL'
    rw [← hb]
    exact h.2 L hL
  | .csl n off len, v, hn, h => by
    simp only [VR, AV.nm] at h hn ⊢
    refine ⟨h.1, fun L' hL' => ?_⟩
    obtain ⟨L, hL, hb, hc⟩ := g.mu n hn L' hL'
    rw [← hb]
    exact h.2 L hL
  | .own n e, v, hn, h => by
    simp only [VR, AV.nm] at h hn ⊢
    refine ⟨h.1, fun L' hL' => ?_⟩
    obtain ⟨L, hL, hb, hc, hl⟩ := g.mu n hn L' hL'
    rw [← hb, ← hc, ← hl]
    exact h.2 L hL
  | .cpr n off i m, v, hn, h => by
    simp only [VR, AV.nm] at h hn ⊢
    refine ⟨h.1, h.2.1, fun L' hL' => ?_⟩
    obtain ⟨L, hL, hb, hc, hl⟩ := g.mu n hn L' hL'
    rw [← hb]
    exact h.2.2 L hL
  | .wsl n e i at' m s off len, v, hn, h => by
    simp only [VR, AV.nm] at h hn ⊢
    refine ⟨h.1, fun L' hL' => ?_⟩
    obtain ⟨L, hL, hb, hc⟩ := g.mu n hn L' hL'
    rw [← hb]
    exact h.2 L hL
  | .mpr n, v, hn, h => by
    simp only [VR, AV.nm] at h hn ⊢
    refine ⟨h.1, fun L' hL' => ?_⟩
    obtain ⟨L, hL, hb, hc⟩ := g.mu n hn L' hL'
    rw [← hb]
    exact h.2 L hL
  | .fn f x y, v, hn, h => by
    simp only [VR, AV.nm] at h hn ⊢
    obtain ⟨p, q, h1, h2, h3⟩ := h
    exact ⟨p, q, h1, VRL.mono g x p hn.1 h2, VRL.mono g y q hn.2 h3⟩
  | .ifc t a, v, hn, h => by
    simp only [VR, AV.nm] at h hn ⊢
    obtain ⟨x, h1, h2⟩ := h
    exact ⟨x, h1, VR.mono g a x hn h2⟩
  | .agg l, v, hn, h => by
    simp only [VR, AV.nm] at h hn ⊢
    obtain ⟨x, h1, h2⟩ := h
    exact ⟨x, h1, VRL.mono g l x hn h2⟩
  | .arr e xs, v, _, h => by
    simp only [VR] at h ⊢
    obtain ⟨x, h1, h2⟩ := h
    exact ⟨x, h1, LRs.mono g.hw g.ho _ _ _ h2⟩
  | .tup l, v, hn, h => by
    simp only [VR, AV.nm] at h hn ⊢
    obtain ⟨x, h1, h2⟩ := h
    exact ⟨x, h1, VRL.mono g l x hn h2⟩
  | .when c a, v, hn, h => by
    simp only [VR, AV.nm] at h hn ⊢
    exact ⟨fun hc => VR.mono g a v (hn hc) (h.1 hc), h.2⟩
  | .ite c a b, v, hn, h => by
    simp only [VR, AV.nm] at h hn ⊢
    exact ⟨fun hc => VR.mono g a v hn.1 (h.1 hc), fun hc => VR.mono g b v hn.2 (h.2 hc)⟩
  | .er t, v, _, h => by
    simp only [VR] at h ⊢
    exact ErrR.mono g.hw g.ho t v h
theorem VRL.mono {us : Nat → Prop} {E E' : Env} (g : Goes us E E') : ∀ (l : List AV) (vs : List Value), AV.nms us l → VRL E l vs → VRL E' l vs
  | [], vs, _, h => by simpa [VRL] using h
  | a :: l, vs, hn, h => by
    simp only [VRL, AV.nms] at h hn ⊢
    obtain ⟨v, r, h1, h2, h3⟩ := h
    exact ⟨v, r, h1, VR.mono g a v hn.1 h2, VRL.mono g l r hn.2 h3⟩
end
mutual
theorem AV.nm_mono {p q : Nat → Prop} (h : ∀ n, p n → q n) : ∀ a : AV, a.nm p → a.nm q
  | .unk, _ | .junk, _ | .int _ _, _ | .bool _, _ | .str _, _ | .nilp, _ | .nilsl, _ | .nilif, _ | .nilf, _ | .fsl _ _, _ | .fpt _ _ _, _ | .arr _ _, _ | .er _, _ => by simp [AV.nm]
  | .ptr n _, hn | .rsl n _ _ _, hn | .epr n _ _ _, hn | .csl n _ _, hn | .own n _, hn | .cpr n _ _ _, hn | .wsl n _ _ _ _ _ _ _, hn | .mpr n, hn => by
    simp only [AV.nm] at hn ⊢
    exact h _ hn
  | .fn f x y, hn => by simp only [AV.nm] at hn ⊢; exact ⟨AV.nms_mono h x hn.1, AV.nms_mono h y hn.2⟩
  | .ifc t a, hn => by simp only [AV.nm] at hn ⊢; exact AV.nm_mono h a hn
  | .agg l, hn => by simp only [AV.nm] at hn ⊢; exact AV.nms_mono h l hn
  | .tup l, hn => by simp only [AV.nm] at hn ⊢; exact AV.nms_mono h l hn
  | .when c a, hn => by simp only [AV.nm] at hn ⊢; exact fun hc => AV.nm_mono h a (hn hc)
  | .ite c a b, hn => by simp only [AV.nm] at hn ⊢; exact ⟨AV.nm_mono h a hn.1, AV.nm_mono h b hn.2⟩
theorem AV.nms_mono {p q : Nat → Prop} (h : ∀ n, p n → q n) : ∀ l : List AV, AV.nms p l → AV.nms q l
  | [], _ => by simp [AV.nms]
  | a :: l, hn => by simp only [AV.nms] at hn ⊢; exact ⟨AV.nm_mono h a hn.1, AV.nms_mono h l hn.2⟩
end
theorem AO.nm_mono {p q : Nat → Prop} (h : ∀ n, p n → q n) (o : AO) (hn : o.nm p) : o.nm q := by
  cases o <;> simp only [AO.nm] at hn ⊢
  · exact AV.nms_mono h _ hn
  · exact AV.nms_mono h _ hn
theorem ObjR.mono {us : Nat → Prop} {E E' : Env} (g : Goes us E E') {n : Nat} {o : AO} (hn : o.nm us) (hmu : E'.mu n = E.mu n)
    (hb : ∀ b, owns E n b → E'.w.heap[b]? = E.w.heap[b]?) (h : ObjR E n o) : ObjR E' n o := by
  cases o with
  | cells l =>
    simp only [ObjR, AO.nm] at h hn ⊢
    obtain ⟨b, cs, T, fr, h1, h2, h3, h4⟩ := h
    exact ⟨b, cs, T, fr, hmu.trans h1, (hb b ⟨_, h1, rfl, rfl⟩).trans h2, h3, VRL.mono g _ _ hn h4⟩
  | rows e xs =>
    simp only [ObjR] at h ⊢
    obtain ⟨L, h1, hl, h2⟩ := h
    refine ⟨L, hmu.trans h1, hl, ?_⟩
    rcases h2 with h2 | ⟨b, cs, T, fr, h3, h4, h5, h6, h7, h8, h9⟩
    · exact .inl h2
    · exact .inr ⟨b, cs, T, fr, h3, h4, (hb b ⟨L, h1, h4, h3⟩).trans h5, h6, h7, h8, fun i hi => LRs.mono g.hw g.ho _ _ _ (h9 i hi)⟩
  | frz e xs =>
    simp only [ObjR] at h ⊢
    obtain ⟨L, h1, hl, h2, h2', h3⟩ := h
    exact ⟨L, hmu.trans h1, hl, h2, h2', LRs.mono g.hw g.ho _ _ _ h3⟩
  | fcl l =>
    simp only [ObjR, AO.nm] at h hn ⊢
    obtain ⟨b, cs, T, fr, h1, h2, h3, h4⟩ := h
    exact ⟨b, cs, T, fr, hmu.trans h1, g.ho _ h2, (g.hw b h2).trans h3, VRL.mono g _ _ hn h4⟩
  | mp k e l =>
    simp only [ObjR] at h ⊢
    obtain ⟨b, es, c, h1, h2, h3⟩ := h
    exact ⟨b, es, c, hmu.trans h1, (hb b ⟨_, h1, rfl, rfl⟩).trans h2, MpR.mono g.hw g.ho h3⟩
structure EnvOk (W0 : WX) (okIn B : Nat → Prop) (E : Env) : Prop where
  inj : ∀ n m b, owns E n b → owns E m b → n = m
  own : ∀ n b, owns E n b → B b ∧ b < E.w.heap.size ∧ ¬ E.ok b
  okl : ∀ b, E.ok b → b < E.w.heap.size ∧ (okIn b ∨ B b)
  oki : ∀ b, okIn b → E.ok b
  fr : ∀ b, b < W0.heap.size → ¬ B b → E.w.heap[b]? = W0.heap[b]?
  sz : W0.heap.size ≤ E.w.heap.size
  new : ∀ b, W0.heap.size ≤ b → B b
  os : E.w.os = W0.os
  tape : E.w.tape = W0.tape
  output : E.w.output = W0.output
  li : ∀ n L, E.mu n = some L → n < 16 → ∃ L0, W0.m0 n = some L0 ∧ L0.base = L.base ∧ L0.cap = L.cap ∧ L0.len = L.len
class Tabs (P : Program) where
  G : World → (Nat → Prop) → Prop
  mono : ∀ (w w' : World) (fz fz' : Nat → Prop), (∀ b, fz b → fz' b ∧ w'.heap[b]? = w.heap[b]?) → G w fz → G w' fz'
def TabIn (P : Program) [Tabs P] (W0 : WX) (B : Nat → Prop) : Prop := Tabs.G P W0.toWorld fun b => b < W0.heap.size ∧ ¬ B b
structure SimE (W0 : WX) (okIn B us : Nat → Prop) (tm : Nat → Option AV) (ob : Nat → Option AO) (nt : Nat) (E : Env) (a : Act) : Prop where
  defers : a.defers = []
  size : a.tmps.size = nt
  tmp : ∀ t v, tm t = some v → VR E v (a.tmps.getD t undef) ∧ v.nm us
  obj : ∀ n o, ob n = some o → ObjR E n o ∧ o.nm us ∧ us n
  dom : ∀ n L, E.mu n = some L → ∃ o, ob n = some o
  env : EnvOk W0 okIn B E
  lo : ∀ n, n < 16 → us n
structure ObS (E : Env) (us : Nat → Prop) (ob : Nat → Option AO) : Prop where
  obj : ∀ n o, ob n = some o → ObjR E n o ∧ o.nm us ∧ us n
theorem SimE.ob {W0 : WX} {okIn B us : Nat → Prop} {tm : Nat → Option AV} {ob : Nat → Option AO} {nt : Nat} {E : Env} {a : Act} (h : SimE W0 okIn B us tm ob nt E a) : ObS E us ob := ⟨h.obj⟩
def updT (d : Option Nat) (v : AV) (tm : Nat → Option AV) (t : Nat) : Option AV :=
  match d with
  | some d => match Nat.beq t d with
    | true => some v
    | false => tm t
  | none => tm t
structure Evo (W0 : WX) (okIn B us us' : Nat → Prop) (E E' : Env) (u : Upd) : Prop where
  sub : ∀ n, us n → us' n
  mu : ∀ n, lkA u n = none → E'.mu n = E.mu n
  muo : ∀ n, us n → ∀ L', E'.mu n = some L' → ∃ L, E.mu n = some L ∧ L.base = L'.base ∧ L.cap = L'.cap ∧ L.len = L'.len
  non : ∀ n, lkA u n = some none → E'.mu n = none
  obj : ∀ n o, lkA u n = some (some o) → ObjR E' n o ∧ o.nm us' ∧ us' n
  keep : ∀ b, b < E.w.heap.size → (∀ n, owns E n b → lkA u n = none) → E'.w.heap[b]? = E.w.heap[b]?
  ho : ∀ b, E.ok b → E'.ok b
  env : EnvOk W0 okIn B E'
theorem Evo.goes {W0 : WX} {okIn B us us' : Nat → Prop} {E E' : Env} {u : Upd} (h : Evo W0 okIn B us us' E E' u) (he : EnvOk W0 okIn B E) : Goes us E E' :=
  ⟨fun b hb => h.keep b (he.okl b hb).1 fun n hn => absurd hb (he.own n b hn).2.2, h.ho, h.muo⟩
theorem beq_true {n m : Nat} (h : Nat.beq n m = true) : n = m := Nat.eq_of_beq_eq_true h
theorem beq_false {n m : Nat} (h : Nat.beq n m = false) : n ≠ m := Nat.ne_of_beq_eq_false h
theorem beq_self (n : Nat) : Nat.beq n n = true := Nat.beq_refl n
theorem beq_ne {n m : Nat} (h : n ≠ m) : Nat.beq n m = false := by
  cases hb : Nat.beq n m with
  | true => exact absurd (beq_true hb) h
  | false => rfl
theorem put_get (a : Act) (d : Option Nat) (x : Value) (t : Nat) :
    (a.put d x).tmps.getD t undef = if d = some t ∧ t < a.tmps.size then x else a.tmps.getD t undef := by
  cases d with
  | none => simp [Act.put]
  | some d =>
    simp only [Act.put, Array.getD_eq_getD_getElem?, Option.some.injEq]
    by_cases hdt : d = t
    · subst hdt
      by_cases hlt : d < a.tmps.size
      · simp [hlt]
      · simp [hlt]
    · simp [Array.getElem?_setIfInBounds_ne hdt, hdt]
theorem SimE.evo {W0 : WX} {okIn B us us' : Nat → Prop} {tm : Nat → Option AV} {ob : Nat → Option AO} {nt : Nat} {E E' : Env} {a : Act} {u : Upd}
    (h : SimE W0 okIn B us tm ob nt E a) (hv : Evo W0 okIn B us us' E E' u) {d : Option Nat} (hd : dstOk nt d = true) {v : AV} {x : Value}
    (hx : VR E' v x) (hnm : v.nm us') : SimE W0 okIn B us' (updT d v tm) (updO u ob) nt E' (a.put d x) := by
  have g := hv.goes h.env
  refine ⟨?_, ?_, ?_, ?_, ?_, hv.env, fun n hn => hv.sub n (h.lo n hn)⟩
  · cases d <;> simp [Act.put, h.defers]
  · cases d <;> simp [Act.put, h.size]
  · intro t y ht
    have hput := put_get a d x t
    unfold updT at ht
    cases d with
    | none =>
      simp only at ht
      simp only [reduceCtorEq, false_and, if_false] at hput
      rw [hput]
      have := h.tmp t y ht
      exact ⟨VR.mono g _ _ this.2 this.1, AV.nm_mono hv.sub _ this.2⟩
    | some d =>
      cases hb : Nat.beq t d with
      | true =>
        have htd := beq_true hb
        subst htd
        simp only [hb, Option.some.injEq] at ht
        subst ht
        have hlt : t < a.tmps.size := by
          simp only [dstOk] at hd
          rw [h.size]; exact Nat.le_of_ble_eq_true hd
        simp only [true_and, hlt, if_true] at hput
        rw [hput]
        exact ⟨hx, hnm⟩
      | false =>
        have htd := beq_false hb
        simp only [hb] at ht
        have : ¬ (some d = some t ∧ t < a.tmps.size) := fun hh => htd (Option.some.inj hh.1).symm
        rw [if_neg this] at hput
        rw [hput]
        have := h.tmp t y ht
        exact ⟨VR.mono g _ _ this.2 this.1, AV.nm_mono hv.sub _ this.2⟩
  · intro n o hn
    unfold updO at hn
    cases hl : lkA u n with
    | some r =>
      rw [hl] at hn
      simp only at hn
      subst hn
      exact hv.obj n o hl
    | none =>
      rw [hl] at hn
      simp only at hn
      obtain ⟨h1, h2, h3⟩ := h.obj n o hn
      refine ⟨ObjR.mono g h2 (hv.mu n hl) (fun b hb => ?_) h1, AO.nm_mono hv.sub _ h2, hv.sub _ h3⟩
      refine hv.keep b (h.env.own n b hb).2.1 fun m hm => ?_
      rw [h.env.inj m n b hm hb]; exact hl
  · intro n L hL
    unfold updO
    cases hl : lkA u n with
    | some r =>
      cases r with
      | some o => exact ⟨o, rfl⟩
      | none => rw [hv.non n hl] at hL; exact absurd hL (by simp)
    | none =>
      rw [hv.mu n hl] at hL
      obtain ⟨o, ho⟩ := h.dom n L hL
      exact ⟨o, by simp [ho]⟩
theorem Evo.refl {W0 : WX} {okIn B us : Nat → Prop} {E : Env} (he : EnvOk W0 okIn B E) : Evo W0 okIn B us us E E [] :=
  ⟨fun _ h => h, fun _ _ => rfl, fun n _ L h => ⟨L, h, rfl, rfl, rfl⟩, fun n h => by simp [lkA] at h, fun n o h => by simp [lkA] at h, fun _ _ _ => rfl, fun _ h => h, he⟩
end Go.Tr
namespace Go.Tr
open Go
universe u
set_option linter.unusedVariables false
set_option linter.unusedSimpArgs false
theorem fv0_eq {α : Sort u} (v : AV) (k : AV → α) : fv0 v k = k v := by cases v <;> rfl
theorem fvl_eq {α : Sort u} (l : List AV) (k : List AV → α) : fvl l k = k l := by
  induction l generalizing k with
  | nil => rfl
  | cons a r ih => rw [fvl_cons, fv0_eq, ih]
theorem fv_eq {α : Sort u} (v : AV) (k : AV → α) : fv v k = k v := by
  cases v <;> simp only [fv, fv0_eq, fvl_eq]
theorem appA_eq {α : Type} (l m : List α) : appA l m = l ++ m := by
  induction l with
  | nil => rfl
  | cons a r ih => simp [appA, ih]
theorem takeA_eq {α : Type} (n : Nat) (l : List α) : takeA n l = l.take n := by
  induction n generalizing l with
  | zero => simp [takeA]
  | succ n ih => cases l <;> simp [takeA, ih]
theorem dropA_eq {α : Type} (n : Nat) (l : List α) : dropA n l = l.drop n := by
  induction n generalizing l with
  | zero => simp [dropA]
  | succ n ih => cases l <;> simp [dropA, ih]
theorem lenA_eq {α : Type} (l : List α) : lenA l = l.length := by
  induction l with
  | nil => rfl
  | cons a r ih => simp [lenA, ih]
theorem nth_eq {α : Type} (l : List α) (n : Nat) : nth l n = l[n]? := by
  induction l generalizing n with
  | nil => simp [nth]
  | cons a r ih => cases n <;> simp [nth, ih]
def usn (us : Nat → Prop) (nm n : Nat) : Prop := us n ∨ (nm ≤ n ∧ n < nm + 16)
theorem usn_nm {us : Nat → Prop} {nm : Nat} : usn us nm nm := .inr ⟨Nat.le_refl _, by omega⟩
theorem cvals_nm (p : Nat → Prop) : ∀ l : List Value, AV.nms p (cvals l)
  | [] => by simp [cvals, AV.nms]
  | v :: r => by
    have : (cval v).nm p := by unfold cval; split <;> simp [AV.nm]
    simp only [cvals, AV.nms]; exact ⟨this, cvals_nm p r⟩
theorem cval_sound (E : Env) (v : Value) (p : Nat → Prop) : VR E (cval v) v ∧ (cval v).nm p := by
  unfold cval
  split <;> simp [VR, AV.nm]
theorem cvals_sound (E : Env) : ∀ l : List Value, VRL E (cvals l) l
  | [] => by simp [cvals, VRL]
  | v :: r => by
    simp only [cvals, VRL]
    exact ⟨v, r, rfl, (cval_sound E v fun _ => True).1, cvals_sound E r⟩
section
variable {W0 : WX} {okIn B us : Nat → Prop} {tm : Nat → Option AV} {ob : Nat → Option AO} {nt : Nat} {E : Env} {a : Act}
theorem opv_sound (hs : SimE W0 okIn B us tm ob nt E a) (x : Operand) : VR E (opv tm x) (a.eval x) ∧ (opv tm x).nm us := by
  cases x with
  | tmp t =>
    simp only [opv, Act.eval]
    cases h : tm t with
    | none => simp [VR, AV.nm]
    | some v => exact hs.tmp t v h
  | const v => exact cval_sound E v us
  | global g => simp [opv, VR, AV.nm]
  | func f => exact ⟨⟨[], [], rfl, by simp [VRL], by simp [VRL]⟩, by simp [opv, AV.nm, AV.nms]⟩
theorem fe_sound {α : Type} (hs : SimE W0 okIn B us tm ob nt E a) {x : Operand} {k : List Prop → AV → Option α} {r : α} (h : fe tm x k = some r) :
    ∃ p v, k p v = some r ∧ ((∀ q ∈ p, q) → VR E v (a.eval x)) ∧ ((∀ q ∈ p, q) → v.nm us) := by
  have hx := opv_sound hs x
  unfold fe at h
  split at h
  · rename_i g v hv
    rw [fv_eq] at h
    rw [hv] at hx
    simp only [VR, AV.nm] at hx
    exact ⟨[g = true], v, h, fun hq => hx.1.1 (hq _ (by simp)), fun hq => hx.2 (hq _ (by simp))⟩
  · rw [fv_eq] at h
    exact ⟨[], _, h, fun _ => hx.1, fun _ => hx.2⟩
theorem fel_sound {α : Type} (hs : SimE W0 okIn B us tm ob nt E a) : ∀ {xs : List Operand} {k : List Prop → List AV → Option α} {r : α}, fel tm xs k = some r →
    ∃ p vs, k p vs = some r ∧ ((∀ q ∈ p, q) → VRL E vs (xs.map a.eval)) ∧ ((∀ q ∈ p, q) → AV.nms us vs)
  | [], k, r, h => ⟨[], [], h, fun _ => by simp [VRL], fun _ => by simp [AV.nms]⟩
  | x :: xs, k, r, h => by
    simp only [fel] at h
    obtain ⟨p, v, h1, h2, h3⟩ := fe_sound hs h
    obtain ⟨q, vs, g1, g2, g3⟩ := fel_sound hs h1
    refine ⟨p ++ q, v :: vs, g1, fun hq => ?_, fun hq => ⟨h3 fun r hr => hq r (by simp [hr]), g3 fun r hr => hq r (by simp [hr])⟩⟩
    simp only [List.map_cons, VRL]
    exact ⟨_, _, rfl, h2 fun r hr => hq r (by simp [hr]), g2 fun r hr => hq r (by simp [hr])⟩
theorem VRL.nth {E : Env} : ∀ {l : List AV} {vs : List Value} {i : Nat} {a : AV}, VRL E l vs → l[i]? = some a → ∃ v, vs[i]? = some v ∧ VR E a v
  | [], vs, i, a, h, hi => by simp at hi
  | b :: l, vs, i, a, h, hi => by
    simp only [VRL] at h
    obtain ⟨v, r, rfl, h1, h2⟩ := h
    cases i with
    | zero => simp at hi; subst hi; exact ⟨v, rfl, h1⟩
    | succ i => simpa using VRL.nth h2 (by simpa using hi)
theorem VRL.length {E : Env} : ∀ {l : List AV} {vs : List Value}, VRL E l vs → vs.length = l.length
  | [], vs, h => by simp [VRL] at h; simp [h]
  | b :: l, vs, h => by
    simp only [VRL] at h
    obtain ⟨v, r, rfl, h1, h2⟩ := h
    simp [VRL.length h2]
theorem VRL.take {E : Env} : ∀ {l : List AV} {vs : List Value} (n : Nat), VRL E l vs → VRL E (l.take n) (vs.take n)
  | [], vs, n, h => by simp [VRL] at h; simp [h, VRL]
  | b :: l, vs, n, h => by
    simp only [VRL] at h
    obtain ⟨v, r, rfl, h1, h2⟩ := h
    cases n with
    | zero => simp [VRL]
    | succ n => simp only [List.take_succ_cons, VRL]; exact ⟨v, _, rfl, h1, VRL.take n h2⟩
theorem VRL.drop {E : Env} : ∀ {l : List AV} {vs : List Value} (n : Nat), VRL E l vs → VRL E (l.drop n) (vs.drop n)
  | [], vs, n, h => by simp [VRL] at h; simp [h, VRL]
  | b :: l, vs, n, h => by
    cases n with
    | zero => simpa using h
    | succ n =>
      simp only [VRL] at h
      obtain ⟨v, r, rfl, h1, h2⟩ := h
      simpa using VRL.drop n h2
theorem VRL.append {E : Env} : ∀ {l m : List AV} {vs us : List Value}, VRL E l vs → VRL E m us → VRL E (l ++ m) (vs ++ us)
  | [], m, vs, us, h, g => by simp [VRL] at h; simpa [h] using g
  | b :: l, m, vs, us, h, g => by
    simp only [VRL] at h
    obtain ⟨v, r, rfl, h1, h2⟩ := h
    simp only [List.cons_append, VRL]
    exact ⟨v, _, rfl, h1, VRL.append h2 g⟩
theorem nms_take {p : Nat → Prop} : ∀ {l : List AV} (n : Nat), AV.nms p l → AV.nms p (l.take n)
  | [], n, h => by simp [AV.nms]
  | b :: l, n, h => by
    simp only [AV.nms] at h
    cases n with
    | zero => simp [AV.nms]
    | succ n => simp only [List.take_succ_cons, AV.nms]; exact ⟨h.1, nms_take n h.2⟩
theorem nms_drop {p : Nat → Prop} : ∀ {l : List AV} (n : Nat), AV.nms p l → AV.nms p (l.drop n)
  | [], n, h => by simp [AV.nms]
  | b :: l, n, h => by
    cases n with
    | zero => simpa using h
    | succ n => simp only [AV.nms] at h; simpa using nms_drop n h.2
theorem nms_append {p : Nat → Prop} : ∀ {l m : List AV}, AV.nms p l → AV.nms p m → AV.nms p (l ++ m)
  | [], m, _, g => by simpa using g
  | b :: l, m, h, g => by simp only [List.cons_append, AV.nms] at h ⊢; exact ⟨h.1, nms_append h.2 g⟩
theorem nms_nth {p : Nat → Prop} : ∀ {l : List AV} {i : Nat} {a : AV}, AV.nms p l → l[i]? = some a → a.nm p
  | [], i, a, _, h => by simp at h
  | b :: l, i, a, h, hi => by
    simp only [AV.nms] at h
    cases i with
    | zero => simp at hi; subst hi; exact h.1
    | succ i => exact nms_nth h.2 (by simpa using hi)
def StepOK (P : Program) (o : Oper) (a : Act) (W0 : WX) (okIn B us : Nat → Prop) (nm : Nat) (E : Env) (v : AV) (u : Upd) : Prop :=
  ∀ (K : Act → World → Prop) (Q : Exit → Act → World → Prop),
    (∀ E' x, Evo W0 okIn B us (usn us nm) E E' u → VR E' v x → v.nm (usn us nm) → K (a.put o.dst x) E'.w) → o.wp P a E.w K Q
theorem Evo.refl' {nm : Nat} (he : EnvOk W0 okIn B E) : Evo W0 okIn B us (usn us nm) E E [] :=
  { Evo.refl (us := us) he with sub := fun _ h => .inl h, obj := fun n o h => by simp [lkA] at h }
theorem StepOK.value {P : Program} {o : Oper} {nm : Nat} {v : AV} {x : Value} (hs : SimE W0 okIn B us tm ob nt E a)
    (hr : (execOp a.eval o).run P E.w = .ok (.value x) E.w) (hx : VR E v x) (hn : v.nm us) : StepOK P o a W0 okIn B us nm E v [] := by
  intro K Q hK
  unfold Oper.wp
  rw [hr]
  exact hK E x (Evo.refl' hs.env) hx (AV.nm_mono (fun _ h => .inl h) _ hn)
theorem StepOK.skip {P : Program} {o : Oper} {nm : Nat} {u : Upd} {E' : Env}
    (hr : (execOp a.eval o).run P E.w = .ok .skip E'.w) (hv : Evo W0 okIn B us (usn us nm) E E' u) : StepOK P o a W0 okIn B us nm E .unk u := by
  intro K Q hK
  unfold Oper.wp
  rw [hr]
  exact hK E' undef hv (by simp [VR]) (by simp [AV.nm])
theorem StepOK.valueE {P : Program} {o : Oper} {nm : Nat} {u : Upd} {E' : Env} {v : AV} {x : Value}
    (hr : (execOp a.eval o).run P E.w = .ok (.value x) E'.w) (hv : Evo W0 okIn B us (usn us nm) E E' u) (hx : VR E' v x) (hn : v.nm (usn us nm)) :
    StepOK P o a W0 okIn B us nm E v u := by
  intro K Q hK
  unfold Oper.wp
  rw [hr]
  exact hK E' x hv hx hn
theorem run_isAgg {P : Program} {t : TypeId} {b : Bool} (w : World) (h : isAggT P t = some b) : (isAgg t).run P w = .ok b w := by
  unfold isAggT at h
  split at h <;> simp at h <;> subst h <;> rename_i hu
  · simp [isAgg, run_underlying hu]
  · simp [isAgg, run_underlying hu]
  · rename_i h1 h2
    simp only [isAgg, Sem.run_bind, run_underlying hu, Result.andThen_ok]
    rfl
theorem sizeT_info {P : Program} {t : TypeId} {n : Nat} (h : sizeT P t = some n) : ∃ i, P.info? t = some i ∧ i.size = n := by
  unfold sizeT at h
  split at h
  · rename_i i hi; exact ⟨i, hi, by simpa using h⟩
  · simp at h
theorem run_sizeT {P : Program} {t : TypeId} {n : Nat} (w : World) (h : sizeT P t = some n) : (sizeOf t).run P w = .ok n w := by
  obtain ⟨i, hi, hn⟩ := sizeT_info h
  simp [sizeOf, typeInfo, hi, hn]
theorem partA_cases {P : Program} {t : TypeId} {off : Nat} {l : List AV} {v : AV} (h : partA P t off l = some v) :
    (∃ n, isAggT P t = some true ∧ sizeT P t = some n ∧ off + n ≤ l.length ∧ v = .agg ((l.drop off).take n)) ∨
    (isAggT P t = some false ∧ l[off]? = some v) := by
  unfold partA at h
  split at h
  · rename_i n h1 h2
    split at h
    · rename_i hb
      rw [lenA_eq] at hb
      simp only [Option.some.injEq, takeA_eq, dropA_eq] at h
      exact .inl ⟨n, h1, h2, Nat.le_of_ble_eq_true hb, h.symm⟩
    · simp at h
  · rename_i h1
    rw [nth_eq] at h
    exact .inr ⟨h1, h⟩
  · simp at h
theorem part_sound {P : Program} {t : TypeId} {off : Nat} {l : List AV} {v : AV} {vs : List Value} (h : partA P t off l = some v) (hl : VRL E l vs)
    (w : World) : ∃ x, (part t vs.toArray off).run P w = .ok x w ∧ VR E v x := by
  rcases partA_cases h with ⟨n, h1, h2, h3, rfl⟩ | ⟨h1, h2⟩
  · refine ⟨.agg ((vs.drop off).take n).toArray, ?_, ⟨_, rfl, (hl.drop off).take n⟩⟩
    simp [part, run_isAgg w h1, run_sizeT w h2]
  · obtain ⟨x, hx, hv⟩ := hl.nth h2
    refine ⟨x, ?_, hv⟩
    simp [part, run_isAgg w h1, hx]
theorem partA_nm {P : Program} {t : TypeId} {off : Nat} {l : List AV} {v : AV} {p : Nat → Prop} (h : partA P t off l = some v) (hn : AV.nms p l) : v.nm p := by
  rcases partA_cases h with ⟨n, h1, h2, h3, rfl⟩ | ⟨h1, h2⟩
  · exact nms_take _ (nms_drop _ hn)
  · exact nms_nth hn h2
theorem eqA_sound {P : Program} (w : World) : ∀ (d : Nat) (t : TypeId) (x y : AV) (b : Bool), eqA P d t x y = some b → ∀ (D : Nat), d ≤ D → ∀ (u v : Value), VR E x u → VR E y v →
    (Op.equalIn D t u v).run P w = .ok b w := by
  intro d
  induction d with
  | zero => intro t x y b h; simp [eqA] at h
  | succ d ih =>
    intro t x y b h D hD u v hu hv
    obtain ⟨D, rfl⟩ : ∃ m, D = m + 1 := ⟨D - 1, by omega⟩
    have hD' : d ≤ D := by omega
    unfold eqA at h
    split at h
    · rename_i k hk
      split at h
      · split at h
        · rename_i hkk
          subst hkk
          simp only [VR] at hu hv
          subst hu; subst hv
          simp only [Option.some.injEq] at h
          subst h
          exact run_equalIn_int w D t _ _ _ _ hk
        · simp at h
      · simp at h
    · rename_i hk
      split at h
      · simp only [VR] at hu hv
        subst hu; subst hv
        simp only [Option.some.injEq] at h
        subst h
        exact run_equalIn_bool w D t _ _ hk
      · simp at h
    · rename_i hk
      split at h
      · simp only [VR] at hu hv
        subst hu; subst hv
        simp only [Option.some.injEq] at h
        subst h
        rw [run_equalIn_string w D t _ _ hk]
        simp
      · simp at h
    · rename_i n e hk
      split at h
      · rename_i xs ys s hs
        simp only [VR] at hu hv
        obtain ⟨us, rfl, hu⟩ := hu
        obtain ⟨vs, rfl, hv⟩ := hv
        obtain ⟨i, hi, hsz⟩ := sizeT_info hs
        rw [run_equalIn_array w D _ _ hk hi]
        have hc : P.cellsOf e = s := by simp [Program.cellsOf, hi, hsz]
        rw [hc]
        generalize List.range n = is at h ⊢
        clear hk
        induction is generalizing b with
        | nil => simp [eqItemsA] at h; subst h; simp [Op.eqItems]
        | cons j is ihs =>
          unfold eqItemsA at h
          split at h
          · rename_i x1 y1 hx1 hy1
            obtain ⟨p1, hp1, hq1⟩ := part_sound hx1 hu w
            obtain ⟨p2, hp2, hq2⟩ := part_sound hy1 hv w
            split at h
            · rename_i p hp
              have hr := ih _ _ _ _ hp D hD' p1 p2 hq1 hq2
              split at h
              · simp only [Option.some.injEq] at h
                subst h
                simp only [Op.eqItems, Sem.run_bind, hp1, hp2, hr, Result.andThen_ok]
                cases p <;> simp
              · split at h
                · rename_i q hq
                  simp only [Option.some.injEq] at h
                  subst h
                  simp only [Op.eqItems, Sem.run_bind, hp1, hp2, hr, Result.andThen_ok]
                  cases p
                  · simp
                  · have := ihs _ hq
                    simpa using this
                · simp at h
            · simp at h
          · simp at h
      · simp at h
    · rename_i fs hk
      split at h
      · rename_i xs ys hp
        simp only [VR] at hu hv
        obtain ⟨us, rfl, hu⟩ := hu
        obtain ⟨vs, rfl, hv⟩ := hv
        have hf : P.fieldsOf t = fs := by simp [Program.fieldsOf, hk]
        rw [run_equalIn_struct w D t _ _ (by rw [hf]; exact hk) hp, hf]
        generalize fs.toList = gs at h ⊢
        clear hk hf
        induction gs generalizing b with
        | nil => simp [eqFieldsA] at h; subst h; simp [Op.eqFields]
        | cons g gs ihs =>
          unfold eqFieldsA at h
          split at h
          · simp at h
          · rename_i hname
            have hname' : g.name ≠ "_" := by simpa using hname
            split at h
            · rename_i x1 y1 hx1 hy1
              obtain ⟨p1, hp1, hq1⟩ := part_sound hx1 hu w
              obtain ⟨p2, hp2, hq2⟩ := part_sound hy1 hv w
              split at h
              · rename_i p hp
                have hr := ih _ _ _ _ hp D hD' p1 p2 hq1 hq2
                split at h
                · simp only [Option.some.injEq] at h
                  subst h
                  simp only [Op.eqFields, hname', ne_eq, not_false_eq_true, if_true, Sem.run_bind, hp1, hp2, hr, Result.andThen_ok]
                  cases p <;> simp
                · split at h
                  · rename_i q hq
                    simp only [Option.some.injEq] at h
                    subst h
                    simp only [Op.eqFields, hname', ne_eq, not_false_eq_true, if_true, Sem.run_bind, hp1, hp2, hr, Result.andThen_ok]
                    cases p
                    · simp
                    · have := ihs _ hq
                      simpa using this
                  · simp at h
              · simp at h
            · simp at h
      · simp at h
    · simp at h
theorem arrI_sound {w : World} {ok : Nat → Prop} {e : Sh} {x : e.T} {n : Nat} {k : IntKind} {l : List Int} {cs : List Value} (h : arrI e x = some (n, k, l)) (hx : LRs w ok e x cs) : VRL E (l.map fun z => AV.int k z) cs ∧ l.length = n := by
  unfold arrI at h
  split at h
  · rename_i m s x
    split at h
    · rename_i k' x
      simp only [Option.some.injEq, Prod.mk.injEq] at h
      obtain ⟨rfl, rfl, rfl⟩ := h
      simp only [LRs, Sh.size, Nat.mul_one] at hx
      obtain ⟨h1, h2, h3⟩ := hx
      refine ⟨?_, h1⟩
      have : cs = x.map fun z => Value.int k' z := by
        apply List.ext_getElem (by simp [h1, h2])
        intro i g1 g2
        have hi : i < x.length := by simpa using g2
        have := h3 i hi
        have hd : (cs.drop i).take 1 = [cs[i]] := by rw [List.drop_eq_getElem_cons g1, List.take_succ_cons, List.take_zero]
        rw [hd] at this
        simp only [List.cons.injEq, and_true] at this
        simp [this]
      subst this
      clear h1 h2 h3
      induction x with
      | nil => simp [VRL]
      | cons z x ih => simp only [List.map_cons, VRL]; exact ⟨_, _, rfl, by simp [VR], ih⟩
    · simp at h
  · simp at h
theorem eqItems_ints {P : Program} {t : TypeId} {k k0 : IntKind} (ht : P.underlying t = some (.int k0)) (l m : List Int) : ∀ is : List Nat, (∀ i ∈ is, i < l.length ∧ i < m.length) →
    eqItemsA P (eqA P 7 t) t 1 (l.map fun z => AV.int k z) (m.map fun z => AV.int k z) is = some (is.all fun i => l.getD i 0 == m.getD i 0)
  | [], _ => by simp [eqItemsA]
  | i :: r, hi => by
    have ih := eqItems_ints (k := k) ht l m r fun j hj => hi j (by simp [hj])
    obtain ⟨h1, h2⟩ := hi i (by simp)
    have ha : isAggT P t = some false := by simp [isAggT, ht]
    have p1 : partA P t (i * 1) (l.map fun z => AV.int k z) = some (.int k (l.getD i 0)) := by
      simp [partA, ha, nth_eq, h1]
    have p2 : partA P t (i * 1) (m.map fun z => AV.int k z) = some (.int k (m.getD i 0)) := by
      simp [partA, ha, nth_eq, h2]
    unfold eqItemsA
    rw [p1, p2]
    have he : eqA P 7 t (.int k (l.getD i 0)) (.int k (m.getD i 0)) = some (l.getD i 0 == m.getD i 0) := by simp [eqA, ht]
    simp only [he]
    cases r with
    | nil => simp
    | cons j r => simp only [ih, List.all_cons]
theorem eqArr_ints {P : Program} {T t : TypeId} {k k0 : IntKind} {n : Nat} (hT : P.underlying T = some (.array n t)) (ht : P.underlying t = some (.int k0)) (hz : sizeT P t = some 1) {l m : List Int} (hl : l.length = n) (hm : m.length = n) :
    eqA P 8 T (.agg (l.map fun z => AV.int k z)) (.agg (m.map fun z => AV.int k z)) = some (l == m) := by
  have h := eqItems_ints (k := k) ht l m (List.range n) fun i hi => by
    have := List.mem_range.1 hi; omega
  have e1 : eqA P 8 T (.agg (l.map fun z => AV.int k z)) (.agg (m.map fun z => AV.int k z)) = eqItemsA P (eqA P 7 t) t 1 (l.map fun z => AV.int k z) (m.map fun z => AV.int k z) (List.range n) := by
    conv => lhs; unfold eqA
    simp only [hT, hz]
  rw [e1, h]
  congr 1
  rw [Bool.eq_iff_iff]
  simp only [List.all_eq_true, List.mem_range, beq_iff_eq]
  constructor
  · intro hh
    apply List.ext_getElem (by omega)
    intro i g1 g2
    have := hh i (by omega)
    simpa [g1, g2] using this
  · rintro rfl i _; rfl
theorem VR.int {E : Env} {k : IntKind} {n : Int} : VR E (.int k n) (.int k n) := by simp [VR]
theorem VR.bool {E : Env} {b : Bool} : VR E (.bool b) (.bool b) := by simp [VR]
theorem VR.str {E : Env} {l : List UInt8} : VR E (.str l) (.string ⟨l.toArray⟩) := by simp [VR]
theorem binI_sound {P : Program} (w : World) {op : BinOp} {T : TypeId} {k : IntKind} {m n : Int} {q : List Prop} {r : AV} (h : binI op k m n = some (q, r)) (hq : ∀ p ∈ q, p) :
    ∃ z, (binOp op T (.int k m) (.int k n)).run P w = .ok z w ∧ VR E r z ∧ (∀ p, r.nm p) := by
  unfold binI at h
  cases op <;> simp only [Option.some.injEq, Prod.mk.injEq, reduceCtorEq] at h
  all_goals (obtain ⟨rfl, rfl⟩ := h)
  all_goals (refine ⟨_, ?_, (by first | exact VR.int | exact VR.bool | exact VR.str), by simp [AV.nm]⟩)
  all_goals (simp only [binOp_add, binOp_sub, binOp_mul, binOp_quo, binOp_rem, binOp_and, binOp_or, binOp_xor, binOp_andNot, binOp_eql, binOp_neq, binOp_lss, binOp_leq, binOp_gtr, binOp_geq, Op.intArith, Op.intBits])
  all_goals (try rfl)
  all_goals (have h0 := hq _ (List.Mem.head _); simp [Op.intDiv, h0])
theorem binS_sound {P : Program} (w : World) {op : BinOp} {T : TypeId} {l m : List UInt8} {q : List Prop} {r : AV} (h : binS op l m = some (q, r)) (hq : ∀ p ∈ q, p) :
    ∃ z, (binOp op T (.string ⟨l.toArray⟩) (.string ⟨m.toArray⟩)).run P w = .ok z w ∧ VR E r z ∧ (∀ p, r.nm p) := by
  unfold binS at h
  cases op <;> simp only [Option.some.injEq, Prod.mk.injEq, reduceCtorEq] at h
  all_goals (obtain ⟨rfl, rfl⟩ := h)
  all_goals (refine ⟨_, ?_, (by first | exact VR.int | exact VR.bool | exact VR.str), by simp [AV.nm]⟩)
  case add =>
    have h0 := hq _ (List.Mem.head _)
    simp only [binOp_string_add, Op.stringOp]
    have hs1 : (⟨l.toArray⟩ : ByteArray).size = l.length := by simp [ByteArray.size]
    have hs2 : (⟨m.toArray⟩ : ByteArray).size = m.length := by simp [ByteArray.size]
    rw [if_neg (by rw [hs1, hs2, IntKind.max_i64]; omega)]
    have : ((⟨l.toArray⟩ : ByteArray) ++ ⟨m.toArray⟩) = ⟨(l ++ m).toArray⟩ := by
      apply ByteArray.ext
      simp [ByteArray.data_append]
    rw [this]
    rfl
  all_goals (simp [binOp, Op.stringOp])
theorem binOp_equal {P : Program} {w : World} {op : BinOp} {T : TypeId} {x y : Value} {b : Bool} {r : AV} (hr : notIf op b = some r)
    (hb : ∀ op, binOp op T x y = match op with | .eql => (do pure (.bool (← Op.equal T x y))) | .neq => (do pure (.bool (!(← Op.equal T x y)))) | o => binOp o T x y)
    (he : (Op.equal T x y).run P w = .ok b w) : ∃ z, (binOp op T x y).run P w = .ok z w ∧ VR E r z ∧ (∀ p, r.nm p) := by
  unfold notIf at hr
  cases op <;> simp only [Option.some.injEq, reduceCtorEq] at hr
  all_goals (subst hr; refine ⟨_, ?_, VR.bool, by simp [AV.nm]⟩; rw [hb]; simp [he])
theorem equalIn_pp {P : Program} (w : World) (d : Nat) {T e : TypeId} (h : P.underlying T = some (.pointer e)) (b : Option Addr) :
    (Op.equalIn (d + 1) T (.pointer none) (.pointer b)).run P w = .ok b.isNone w := by
  simp [Op.equalIn, run_underlying h]
theorem equalIn_pp' {P : Program} (w : World) (d : Nat) {T e : TypeId} (h : P.underlying T = some (.pointer e)) (a : Addr) :
    (Op.equalIn (d + 1) T (.pointer (some a)) (.pointer none)).run P w = .ok false w := by
  simp [Op.equalIn, run_underlying h]
theorem equalIn_in {P : Program} (w : World) (d : Nat) {T : TypeId} {ms : Array (String × TypeId)} (h : P.underlying T = some (.interface ms)) (t : TypeId) (z : Value) :
    (Op.equalIn (d + 1) T (.iface t z) .nilIface).run P w = .ok false w := by
  simp [Op.equalIn, run_underlying h]
theorem equalIn_ni {P : Program} (w : World) (d : Nat) {T : TypeId} {ms : Array (String × TypeId)} (h : P.underlying T = some (.interface ms)) (t : TypeId) (z : Value) :
    (Op.equalIn (d + 1) T .nilIface (.iface t z)).run P w = .ok false w := by
  simp [Op.equalIn, run_underlying h]
theorem equalIn_nn {P : Program} (w : World) (d : Nat) {T : TypeId} {ms : Array (String × TypeId)} (h : P.underlying T = some (.interface ms)) :
    (Op.equalIn (d + 1) T .nilIface .nilIface).run P w = .ok true w := by
  simp [Op.equalIn, run_underlying h]
theorem ErrR.cases {w : World} {ok : Nat → Prop} {t : TErr} {v : Value} (h : ErrR w ok t v) : (errN t = true ∧ v = .nilIface) ∨ (errN t = false ∧ ∃ T a, v = .iface T a) := by
  cases t with
  | nil => simp only [ErrR] at h; exact .inl ⟨rfl, h⟩
  | num t k n => simp only [ErrR] at h; exact .inr ⟨rfl, _, _, h⟩
  | at' t n e => simp only [ErrR] at h; obtain ⟨b, x, h, _⟩ := h; exact .inr ⟨rfl, _, _, h⟩
  | of' t s e => simp only [ErrR] at h; obtain ⟨b, x, h, _⟩ := h; exact .inr ⟨rfl, _, _, h⟩
  | any t => simp only [ErrR] at h; obtain ⟨x, h⟩ := h; exact .inr ⟨rfl, _, _, h⟩
theorem opBin_sound {P : Program} (w : World) {op : BinOp} {T : TypeId} {x y : AV} {u v : Value} {q : List Prop} {r : AV} (ox oy : Operand)
    (h : opBin P op T x y = some (q, r)) (hq : ∀ p ∈ q, p) (hx : VR E x u) (hy : VR E y v) :
    ∃ z, ((do eqGuard op T ox oy u v; binOp op T u v) : Sem Value).run P w = .ok z w ∧ VR E r z ∧ (∀ p, r.nm p) := by
  unfold opBin at h
  split at h
  · simp only [VR] at hx hy
    subst hx; subst hy
    simp only [eqGuard_at_int, Sem.run_bind, Sem.run_pure, Result.andThen_ok]
    split at h
    · simp only [Option.some.injEq, Prod.mk.injEq] at h
      obtain ⟨rfl, rfl⟩ := h
      have h0 : (0 : Int) ≤ _ := hq _ (List.Mem.head _)
      refine ⟨_, ?_, VR.int, by simp [AV.nm]⟩
      rw [binOp_shl, Op.shift, if_neg (by omega)]
      rfl
    · simp only [Option.some.injEq, Prod.mk.injEq] at h
      obtain ⟨rfl, rfl⟩ := h
      have h0 : (0 : Int) ≤ _ := hq _ (List.Mem.head _)
      refine ⟨_, ?_, VR.int, by simp [AV.nm]⟩
      rw [binOp_shr, Op.shift, if_neg (by omega)]
      rfl
    · split at h
      · rename_i hk
        subst hk
        exact binI_sound w h hq
      · simp at h
  · simp only [VR] at hx hy
    subst hx; subst hy
    simp only [eqGuard_at_string, Sem.run_bind, Sem.run_pure, Result.andThen_ok]
    exact binS_sound w h hq
  · simp only [VR] at hx hy
    subst hx; subst hy
    simp only [eqGuard_at_bool, Sem.run_bind, Sem.run_pure, Result.andThen_ok]
    split at h
    · rename_i hu hn
      simp only [Option.some.injEq, Prod.mk.injEq] at h
      obtain ⟨rfl, rfl⟩ := h
      refine binOp_equal hn (fun o => by cases o <;> rfl) ?_
      exact run_equalIn_bool w 9999 T _ _ hu
    · simp at h
  · split at h
    · rename_i n k l m k' l' ha hb
      split at h
      · rename_i n0 t hT
        split at h
        · rename_i k0 sz ht hsz
          split at h
          · rename_i r' hg hn
            split at h
            · rename_i hc
              obtain ⟨rfl, rfl, rfl, rfl⟩ := hc
              simp only [Option.some.injEq, Prod.mk.injEq] at h
              obtain ⟨rfl, rfl⟩ := h
              simp only [VR] at hx hy
              obtain ⟨xs, rfl, hx⟩ := hx
              obtain ⟨ys, rfl, hy⟩ := hy
              obtain ⟨a1, a2⟩ := arrI_sound (E := E) ha hx
              obtain ⟨b1, b2⟩ := arrI_sound (E := E) hb hy
              have := eqA_sound w 8 T _ _ _ (eqArr_ints hT ht hsz a2 b2) 10000 (by omega) (.agg xs.toArray) (.agg ys.toArray) ⟨xs, rfl, a1⟩ ⟨ys, rfl, b1⟩
              simp only [Sem.run_bind, run_eqGuard_agg w op T ox oy _ _ hg, Result.andThen_ok]
              exact binOp_equal hn (fun o => by cases o <;> rfl) this
            · simp at h
          · simp at h
        · simp at h
      · simp at h
    · simp at h
  · split at h
    · rename_i hg he
      split at h
      · rename_i hn
        simp only [Option.some.injEq, Prod.mk.injEq] at h
        obtain ⟨rfl, rfl⟩ := h
        have := eqA_sound w 8 T _ _ _ he 10000 (by omega) u v hx hy
        simp only [VR] at hx hy
        obtain ⟨xs, rfl, hx⟩ := hx
        obtain ⟨ys, rfl, hy⟩ := hy
        simp only [Sem.run_bind, run_eqGuard_agg w op T ox oy _ _ hg, Result.andThen_ok]
        exact binOp_equal hn (fun o => by cases o <;> rfl) this
      · simp at h
    · simp at h
  · split at h
    · rename_i e hu
      split at h
      · simp only [VR] at hx hy
        subst hx; subst hy
        simp only [Option.map_eq_some_iff, Prod.mk.injEq] at h
        obtain ⟨z, hz, rfl, rfl⟩ := h
        simp only [eqGuard_at_pointer, Sem.run_bind, Sem.run_pure, Result.andThen_ok]
        refine binOp_equal hz (fun o => by cases o <;> rfl) ?_
        exact equalIn_pp w 9999 hu none
      · simp only [VR] at hx hy
        subst hx
        obtain ⟨b, o, cs, rfl, _⟩ := hy
        simp only [Option.map_eq_some_iff, Prod.mk.injEq] at h
        obtain ⟨z, hz, rfl, rfl⟩ := h
        simp only [eqGuard_at_pointer, Sem.run_bind, Sem.run_pure, Result.andThen_ok]
        refine binOp_equal hz (fun o => by cases o <;> rfl) ?_
        exact equalIn_pp w 9999 hu _
      · simp only [VR] at hx hy
        subst hy
        obtain ⟨b, o, cs, rfl, _⟩ := hx
        simp only [Option.map_eq_some_iff, Prod.mk.injEq] at h
        obtain ⟨z, hz, rfl, rfl⟩ := h
        simp only [eqGuard_at_pointer, Sem.run_bind, Sem.run_pure, Result.andThen_ok]
        refine binOp_equal hz (fun o => by cases o <;> rfl) ?_
        exact equalIn_pp' w 9999 hu _
      · simp at h
    · rename_i ms hu
      split at h
      · simp only [VR] at hx hy
        subst hy
        obtain ⟨a, rfl, _⟩ := hx
        simp only [Option.map_eq_some_iff, Prod.mk.injEq] at h
        obtain ⟨z, hz, rfl, rfl⟩ := h
        simp only [eqGuard_at_iface, Sem.run_bind, Sem.run_pure, Result.andThen_ok]
        refine binOp_equal hz (fun o => by cases o <;> rfl) ?_
        exact equalIn_in w 9999 hu _ _
      · simp only [VR] at hx hy
        subst hx
        obtain ⟨a, rfl, _⟩ := hy
        simp only [Option.map_eq_some_iff, Prod.mk.injEq] at h
        obtain ⟨z, hz, rfl, rfl⟩ := h
        simp only [eqGuard_nil_iface, Sem.run_bind, Sem.run_pure, Result.andThen_ok]
        refine binOp_equal hz (fun o => by cases o <;> rfl) ?_
        exact equalIn_ni w 9999 hu _ _
      · simp at h
    · simp at h
theorem eqGuard_lit {P : Program} (w : World) (op : BinOp) (T : TypeId) (ox : Operand) (c : Value) : (eqGuard op T ox (.const c) .nilIface .nilIface).run P w = .ok () w := by
  unfold eqGuard
  cases op <;> simp
theorem nilCmp_sound {P : Program} (w : World) {op : BinOp} {T : TypeId} {x : AV} {u v : Value} {r : AV} {ob : Nat → Option AO} (hlv : ∀ n, lvA ob n = true → ∃ L, E.mu n = some L) (ox oy : Operand)
    (h : nilCmp P op T ob oy x = some r) (hx : VR E x u) (hy : ∀ c, oy = .const c → v = c) :
    ∃ z, ((do eqGuard op T ox oy u v; binOp op T u v) : Sem Value).run P w = .ok z w ∧ VR E r z ∧ (∀ p, r.nm p) := by
  unfold nilCmp at h
  split at h
  · rename_i c
    split at h
    · split at h
      · rename_i e hu
        have hv := hy _ rfl
        subst hv
        split at h
        · split at h
          · rename_i hl
            simp only [VR] at hx
            obtain ⟨L, hL⟩ := hlv _ hl
            obtain ⟨b, _, rfl⟩ := hx.2 L hL
            simp only [eqGuard_at_pointer, Sem.run_bind, Sem.run_pure, Result.andThen_ok]
            refine binOp_equal h (fun o => by cases o <;> rfl) ?_
            exact equalIn_pp' w 9999 hu _
          · simp at h
        · simp at h
      · simp at h
    · split at h
      · rename_i ms hu
        have hv := hy _ rfl
        subst hv
        split at h
        · simp only [VR] at hx
          rcases hx.cases with ⟨he, rfl⟩ | ⟨he, T', a, rfl⟩
          · rw [he] at h
            simp only [Sem.run_bind, eqGuard_lit, Result.andThen_ok]
            refine binOp_equal h (fun o => by cases o <;> rfl) ?_
            exact equalIn_nn w 9999 hu
          · rw [he] at h
            simp only [eqGuard_at_iface, Sem.run_bind, Sem.run_pure, Result.andThen_ok]
            refine binOp_equal h (fun o => by cases o <;> rfl) ?_
            exact equalIn_in w 9999 hu _ _
        · simp only [VR] at hx
          subst hx
          simp only [Sem.run_bind, eqGuard_lit, Result.andThen_ok]
          refine binOp_equal h (fun o => by cases o <;> rfl) ?_
          exact equalIn_nn w 9999 hu
        · simp at h
      · simp at h
    · simp at h
  · simp at h
end
end Go.Tr
namespace Go.Tr
open Go
set_option linter.unusedVariables false
set_option linter.unusedSimpArgs false
section
variable {W0 : WX} {okIn B us : Nat → Prop} {tm : Nat → Option AV} {ob : Nat → Option AO} {nt : Nat} {E : Env} {a : Act}
theorem ObjR.loc {n : Nat} {o : AO} (h : ObjR E n o) : ∃ L, E.mu n = some L ∧ (L.cap = 0 ∨ ∃ b, L.base = some ⟨b, 0, none⟩) := by
  cases o with
  | cells l => obtain ⟨b, cs, T, fr, h1, _⟩ := h; exact ⟨_, h1, .inr ⟨b, rfl⟩⟩
  | rows e xs =>
    obtain ⟨L, h1, _, h2⟩ := h
    rcases h2 with h2 | ⟨b, cs, T, fr, h3, _⟩
    · exact ⟨L, h1, .inl h2.1⟩
    · exact ⟨L, h1, .inr ⟨b, h3⟩⟩
  | frz e xs => obtain ⟨L, h1, _, _, h2, _⟩ := h; exact ⟨L, h1, h2⟩
  | fcl l => obtain ⟨b, cs, T, fr, h1, _⟩ := h; exact ⟨_, h1, .inr ⟨b, rfl⟩⟩
  | mp k e l => obtain ⟨b, es, c, h1, _⟩ := h; exact ⟨_, h1, .inr ⟨b, rfl⟩⟩
theorem live_loc (hs : SimE W0 okIn B us tm ob nt E a) {n : Nat} (h : lvA ob n = true) : ∃ L, E.mu n = some L ∧ (L.cap = 0 ∨ ∃ b, L.base = some ⟨b, 0, none⟩) := by
  unfold lvA at h
  split at h
  · rename_i o ho; exact ((hs.obj n o ho).1).loc
  · simp at h
theorem LRs.length {w : World} {ok : Nat → Prop} : ∀ (s : Sh) (x : s.T) (vs : List Value), LRs w ok s x vs → vs.length = s.size
  | .int k, x, vs, h => by simp only [LRs] at h; simp [h, Sh.size]
  | .bool, x, vs, h => by simp only [LRs] at h; simp [h, Sh.size]
  | .str, x, vs, h => by simp only [LRs] at h; simp [h, Sh.size]
  | .unit, x, vs, h => by simp only [LRs] at h; simp [h, Sh.size]
  | .sl e, x, vs, h => by simp only [LRs] at h; obtain ⟨_, _, rfl, _⟩ := h; simp [Sh.size]
  | .arr n e, x, vs, h => by simp only [LRs] at h; simp [Sh.size, h.2.1]
  | .pair p q, x, vs, h => by
    simp only [LRs] at h
    obtain ⟨v1, v2, rfl, h1, h2⟩ := h
    simp [Sh.size, LRs.length p _ _ h1, LRs.length q _ _ h2]
  | .err, x, vs, h => by simp only [LRs] at h; obtain ⟨_, rfl, _⟩ := h; simp [Sh.size]
theorem drop_take_app {α : Type} {u v : List α} {o n : Nat} (h : o + n ≤ u.length) : ((u ++ v).drop o).take n = (u.drop o).take n := by
  rw [List.drop_append_of_le_length (by omega), List.take_append_of_le_length (by simp; omega)]
theorem hitS_is {s e : Sh} {x : e.T} {off : Nat} {y : s.T} (h : hitS s e x off = some y) : off = 0 ∧ ∃ he : e = s, he ▸ x = y := by
  unfold hitS at h
  split at h
  · split at h
    · rename_i he; exact ⟨rfl, he, Option.some.inj h⟩
    · simp at h
  · simp at h
theorem hitS_sound {w : World} {ok : Nat → Prop} {s e : Sh} {x : e.T} {off : Nat} {y : s.T} {cs : List Value} (h : hitS s e x off = some y) (hx : LRs w ok e x cs) : off + s.size ≤ cs.length ∧ LRs w ok s y ((cs.drop off).take s.size) := by
  obtain ⟨rfl, he, hy⟩ := hitS_is h
  subst he
  subst hy
  have hl := LRs.length e x cs hx
  refine ⟨by omega, ?_⟩
  rw [List.drop_zero, ← hl, List.take_length]
  exact hx
theorem arr_part {cs : List Value} {i z o n : Nat} (h : o + n ≤ z) : ((((cs.drop (i * z)).take z).drop o).take n) = (cs.drop (i * z + o)).take n := by
  rw [List.drop_take, List.take_take, List.drop_drop]
  congr 1
  omega
theorem getS_sound {w : World} {ok : Nat → Prop} {s : Sh} : ∀ (e : Sh) {x : e.T} {off : Nat} {y : s.T} {cs : List Value}, getS s e x off = some y → LRs w ok e x cs → off + s.size ≤ cs.length ∧ LRs w ok s y ((cs.drop off).take s.size) := by
  intro e
  induction e with
  | pair a b iha ihb =>
    intro x off y cs h hx
    simp only [getS] at h
    split at h
    · rename_i y' hh
      simp only [Option.some.injEq] at h
      subst h
      exact hitS_sound hh hx
    · simp only [LRs] at hx
      obtain ⟨v1, v2, rfl, h1, h2⟩ := hx
      have hl := LRs.length a _ _ h1
      split at h
      · rename_i hb
        obtain ⟨g1, g2⟩ := iha h h1
        refine ⟨by simp; omega, ?_⟩
        rw [drop_take_app g1]; exact g2
      · rename_i hb
        have hge : ¬ off < a.size := by intro hh; rw [Nat.blt_eq.mpr hh] at hb; simp at hb
        obtain ⟨g1, g2⟩ := ihb h h2
        refine ⟨by simp; omega, ?_⟩
        rw [List.drop_append, List.drop_eq_nil_of_le (by omega), List.nil_append, hl]
        exact g2
  | arr n a ih =>
    intro x off y cs h hx
    simp only [getS] at h
    split at h
    · rename_i y' hh
      simp only [Option.some.injEq] at h
      subst h
      exact hitS_sound hh hx
    · split at h
      · rename_i hb
        have hlt : off < n * a.size := Nat.blt_eq.mp hb
        simp only [LRs] at hx
        obtain ⟨h1, h2, h3⟩ := hx
        have hpos : 0 < a.size := by
          rcases Nat.eq_zero_or_pos a.size with h0 | h0
          · rw [h0] at hlt; omega
          · exact h0
        have hi : off / a.size < List.length x := by rw [h1]; exact (Nat.div_lt_iff_lt_mul hpos).2 hlt
        have hd : List.getD x (off / a.size) a.dflt = x[off / a.size] := by
          rw [List.getD_eq_getElem?_getD, List.getElem?_eq_getElem hi]; rfl
        rw [hd] at h
        obtain ⟨g1, g2⟩ := ih h (h3 _ hi)
        have hm := Nat.div_add_mod off a.size
        rw [Nat.mul_comm] at hm
        have hle : (off / a.size + 1) * a.size ≤ n * a.size := Nat.mul_le_mul_right _ (by omega)
        rw [Nat.succ_mul] at hle
        have hlen : ((cs.drop (off / a.size * a.size)).take a.size).length = a.size := by simp; omega
        rw [hlen] at g1
        rw [arr_part g1, hm] at g2
        exact ⟨by omega, g2⟩
      · simp at h
  | _ => intro x off y cs h hx; exact hitS_sound (by simpa only [getS] using h) hx
theorem hitW_is {s e : Sh} {y : s.T} {off : Nat} {z : e.T} (h : hitW s e y off = some z) : off = 0 ∧ ∃ he : s = e, he ▸ y = z := by
  unfold hitW at h
  split at h
  · split at h
    · rename_i he; exact ⟨rfl, he, Option.some.inj h⟩
    · simp at h
  · simp at h
theorem hitW_sound {w : World} {ok : Nat → Prop} {s e : Sh} {x : e.T} {y : s.T} {off : Nat} {z : e.T} {cs news : List Value} (h : hitW s e y off = some z) (hx : LRs w ok e x cs) (hy : LRs w ok s y news) : off + s.size ≤ cs.length ∧ LRs w ok e z (cs.take off ++ news ++ cs.drop (off + s.size)) := by
  obtain ⟨rfl, he, hz⟩ := hitW_is h
  subst he
  subst hz
  have hl := LRs.length s x cs hx
  refine ⟨by omega, ?_⟩
  rw [List.take_zero, List.nil_append, Nat.zero_add, ← hl, List.drop_length, List.append_nil]
  exact hy
theorem setS_sound {w : World} {ok : Nat → Prop} {s : Sh} {y : s.T} : ∀ (e : Sh) {x : e.T} {off : Nat} {z : e.T} {cs news : List Value}, setS s y e x off = some z → LRs w ok e x cs → LRs w ok s y news → off + s.size ≤ cs.length ∧ LRs w ok e z (cs.take off ++ news ++ cs.drop (off + s.size)) := by
  intro e
  induction e with
  | pair a b iha ihb =>
    intro x off z cs news h hx hy
    have hn := LRs.length s y news hy
    simp only [setS] at h
    split at h
    · rename_i y' hh
      simp only [Option.some.injEq] at h
      subst h
      exact hitW_sound hh hx hy
    · simp only [LRs] at hx
      obtain ⟨v1, v2, rfl, h1, h2⟩ := hx
      have hl := LRs.length a _ _ h1
      split at h
      · rename_i hb
        split at h
        · rename_i z' hz
          simp only [Option.some.injEq] at h
          subst h
          obtain ⟨g1, g2⟩ := iha hz h1 hy
          refine ⟨by simp; omega, ?_⟩
          simp only [LRs]
          refine ⟨_, v2, ?_, g2, h2⟩
          rw [List.take_append_of_le_length (by omega), List.drop_append_of_le_length (by omega)]
          simp only [List.append_assoc]
        · simp at h
      · rename_i hb
        have hge : ¬ off < a.size := by intro hh; rw [Nat.blt_eq.mpr hh] at hb; simp at hb
        split at h
        · rename_i z' hz
          simp only [Option.some.injEq] at h
          subst h
          obtain ⟨g1, g2⟩ := ihb hz h2 hy
          refine ⟨by simp; omega, ?_⟩
          simp only [LRs]
          refine ⟨v1, _, ?_, h1, g2⟩
          have hsub : off + s.size - a.size = off - a.size + s.size := by omega
          rw [List.take_append, List.take_of_length_le (by omega), List.drop_append, List.drop_eq_nil_of_le (by omega), hl, List.nil_append, hsub]
          simp only [List.append_assoc]
        · simp at h
  | arr n a ih =>
    intro x off z cs news h hx hy
    have hn := LRs.length s y news hy
    simp only [setS] at h
    split at h
    · rename_i y' hh
      simp only [Option.some.injEq] at h
      subst h
      exact hitW_sound hh hx hy
    · split at h
      · rename_i hb
        have hlt : off < n * a.size := Nat.blt_eq.mp hb
        simp only [LRs] at hx
        obtain ⟨h1, h2, h3⟩ := hx
        have hpos : 0 < a.size := by
          rcases Nat.eq_zero_or_pos a.size with h0 | h0
          · rw [h0] at hlt; omega
          · exact h0
        have hi : off / a.size < List.length x := by rw [h1]; exact (Nat.div_lt_iff_lt_mul hpos).2 hlt
        have hd : List.getD x (off / a.size) a.dflt = x[off / a.size] := by
          rw [List.getD_eq_getElem?_getD, List.getElem?_eq_getElem hi]; rfl
        rw [hd] at h
        split at h
        · rename_i z' hz
          simp only [Option.some.injEq] at h
          subst h
          obtain ⟨g1, g2⟩ := ih hz (h3 _ hi) hy
          have hm := Nat.div_add_mod off a.size
          rw [Nat.mul_comm] at hm
          have hle : (off / a.size + 1) * a.size ≤ n * a.size := Nat.mul_le_mul_right _ (by omega)
          rw [Nat.succ_mul] at hle
          have hlen : ((cs.drop (off / a.size * a.size)).take a.size).length = a.size := by simp; omega
          rw [hlen] at g1
          refine ⟨by omega, ?_⟩
          simp only [LRs]
          refine ⟨by simp [h1], by simp; omega, fun i hi' => ?_⟩
          have hix : i < List.length x := by simpa using hi'
          generalize hq : off / a.size = q at *
          generalize hr : off % a.size = r at *
          have hspl : ∀ t, (cs.take off ++ news ++ cs.drop (off + s.size))[t]? = if t < off then cs[t]? else if t < off + s.size then news[t - off]? else cs[t]? := by
            intro t
            rw [List.append_assoc, List.getElem?_append, List.length_take, Nat.min_eq_left (by omega)]
            split
            · rename_i ht; rw [List.getElem?_take, if_pos ht]
            · rename_i ht
              rw [List.getElem?_append, hn]
              split
              · rename_i ht2; rw [if_pos (by omega)]
              · rename_i ht2
                rw [if_neg (by omega), List.getElem?_drop]
                congr 1
                omega
          by_cases hiq : i = q
          · subst hiq
            simp only [List.getElem_set_self]
            have he : ((cs.take off ++ news ++ cs.drop (off + s.size)).drop (i * a.size)).take a.size = ((cs.drop (i * a.size)).take a.size).take r ++ news ++ ((cs.drop (i * a.size)).take a.size).drop (r + s.size) := by
              apply List.ext_getElem?
              intro t
              rw [List.getElem?_take, List.getElem?_drop, hspl, List.append_assoc, List.getElem?_append, List.length_take, hlen, Nat.min_eq_left (by omega), List.getElem?_append, hn]
              by_cases ht : t < a.size
              · rw [if_pos ht]
                by_cases c1 : t < r
                · rw [if_pos (by omega), if_pos c1, List.getElem?_take, if_pos c1, List.getElem?_take, if_pos ht, List.getElem?_drop]
                · rw [if_neg (by omega), if_neg c1]
                  by_cases c2 : t < r + s.size
                  · rw [if_pos (by omega), if_pos (by omega)]
                    congr 1
                    omega
                  · rw [if_neg (by omega), if_neg (by omega), List.getElem?_drop, List.getElem?_take, if_pos (by omega), List.getElem?_drop]
                    congr 1
                    omega
              · rw [if_neg ht, if_neg (by omega), if_neg (by omega), List.getElem?_drop, List.getElem?_take, if_neg (by omega)]
            rw [he]
            exact g2
          · rw [List.getElem_set_ne (by omega)]
            have he : ((cs.take off ++ news ++ cs.drop (off + s.size)).drop (i * a.size)).take a.size = (cs.drop (i * a.size)).take a.size := by
              apply List.ext_getElem?
              intro t
              rw [List.getElem?_take, List.getElem?_drop, hspl, List.getElem?_take, List.getElem?_drop]
              by_cases ht : t < a.size
              · rw [if_pos ht, if_pos ht]
                rcases Nat.lt_or_gt_of_ne hiq with hlt' | hgt'
                · have : (i + 1) * a.size ≤ q * a.size := Nat.mul_le_mul_right _ (by omega)
                  rw [Nat.succ_mul] at this
                  rw [if_pos (by omega)]
                · have : (q + 1) * a.size ≤ i * a.size := Nat.mul_le_mul_right _ (by omega)
                  rw [Nat.succ_mul] at this
                  rw [if_neg (by omega), if_neg (by omega)]
              · rw [if_neg ht, if_neg ht]
            rw [he]
            exact h3 i hix
        · simp at h
      · simp at h
  | _ => intro x off z cs news h hx hy; exact hitW_sound (by simpa only [setS] using h) hx hy
theorem own_loc {n : Nat} {e : Sh} {xs : List e.T} (h : ObjR E n (.rows e xs) ∨ ObjR E n (.frz e xs)) :
    ∃ L, E.mu n = some L ∧ L.len = xs.length ∧ xs.length ≤ L.cap ∧ (L.cap = 0 ∨ ∃ b, L.base = some ⟨b, 0, none⟩) := by
  rcases h with h | h
  · obtain ⟨L, h1, h2, h3⟩ := h
    rcases h3 with h3 | ⟨b, cs, T, fr, h3, h4, h5, h6, h7, _⟩
    · exact ⟨L, h1, h2, by omega, .inl h3.1⟩
    · exact ⟨L, h1, h2, h7, .inr ⟨b, h3⟩⟩
  · obtain ⟨L, h1, h2, h3, h4, h5⟩ := h
    simp only [LRs] at h5
    obtain ⟨base, cap, hv, hc, _⟩ := h5
    simp only [List.cons.injEq, Value.slice.injEq, and_true] at hv
    exact ⟨L, h1, h2, by omega, h4⟩
theorem own_val {n : Nat} {e e' : Sh} {xs : List e'.T} {v : Value} (h : ObjR E n (.rows e' xs) ∨ ObjR E n (.frz e' xs)) (hx : VR E (.own n e) v) :
    ∃ L, E.mu n = some L ∧ v = .slice L.base xs.length L.cap ∧ xs.length ≤ L.cap ∧ (L.cap = 0 ∨ ∃ b, L.base = some ⟨b, 0, none⟩) := by
  obtain ⟨L, h1, h2, h3, h4⟩ := own_loc h
  simp only [VR] at hx
  exact ⟨L, h1, by rw [hx.2 L h1, h2], h3, h4⟩
theorem add_mk (b o n : Nat) : (⟨b, o, none⟩ : Addr).add n = ⟨b, o + n, none⟩ := Addr.add_lit b o n
theorem opLen_sound {P : Program} (hs : SimE W0 okIn B us tm ob nt E a) {T ty : TypeId} {x r : AV} {v : Value} (hl : liveA ob x = true) (h : opLen P T ob x = some r) (hx : VR E x v)
    (w : World) : ∃ z, (Builtin.len_ #[T] ty #[v]).run P w = .ok z w ∧ VR E r z ∧ ∀ p, r.nm p := by
  unfold opLen at h
  split at h
  · rename_i hu
    split at h
    · simp only [Option.some.injEq] at h
      subst h
      simp only [VR] at hx
      subst hx
      refine ⟨_, run_len_string w T ty _ hu, ?_, by simp [AV.nm]⟩
      simp [VR, goInt, ByteArray.size]
    · simp at h
  · rename_i n e hu
    simp only [Option.some.injEq] at h
    subst h
    refine ⟨goInt n, ?_, VR.int, by simp [AV.nm]⟩
    simp [Builtin.len_, run_underlying hu]
  · rename_i e hu
    have key : ∀ base n c, (Builtin.len_ #[T] ty #[.slice base n c]).run P w = .ok (goInt n) w := by
      intro base n c; simp [Builtin.len_, run_underlying hu]
    split at h
    · simp only [Option.some.injEq] at h
      subst h
      simp only [VR, LRs] at hx
      obtain ⟨base, cap, hv, _⟩ := hx
      simp only [List.cons.injEq, and_true] at hv
      subst hv
      exact ⟨_, key _ _ _, VR.int, by simp [AV.nm]⟩
    · simp only [Option.some.injEq] at h
      subst h
      simp only [VR] at hx
      subst hx
      exact ⟨_, key _ _ _, VR.int, by simp [AV.nm]⟩
    · simp only [Option.some.injEq] at h
      subst h
      simp only [VR] at hx
      obtain ⟨L, hL, _⟩ := live_loc hs hl
      obtain ⟨base, rfl, _⟩ := hx.2 L hL
      exact ⟨_, key _ _ _, VR.int, by simp [AV.nm]⟩
    · simp only [Option.some.injEq] at h
      subst h
      simp only [VR] at hx
      obtain ⟨L, hL, _⟩ := live_loc hs hl
      obtain ⟨b, o, cap, _, rfl, _⟩ := hx.2 L hL
      exact ⟨_, key _ _ _, VR.int, by simp [AV.nm]⟩
    · simp only [Option.some.injEq] at h
      subst h
      simp only [VR] at hx
      obtain ⟨L, hL, _⟩ := live_loc hs hl
      obtain ⟨b, o, _, rfl, _⟩ := hx.2 L hL
      exact ⟨_, key _ _ _, VR.int, by simp [AV.nm]⟩
    · split at h
      · rename_i hob
        simp only [Option.some.injEq] at h
        subst h
        obtain ⟨L, _, rfl, _⟩ := own_val (.inl (hs.obj _ _ hob).1) hx
        exact ⟨_, key _ _ _, VR.int, by simp [AV.nm]⟩
      · rename_i hob
        simp only [Option.some.injEq] at h
        subst h
        obtain ⟨L, _, rfl, _⟩ := own_val (.inr (hs.obj _ _ hob).1) hx
        exact ⟨_, key _ _ _, VR.int, by simp [AV.nm]⟩
      · simp at h
    · simp at h
  · simp at h
theorem homI_sound : ∀ {l : List AV} {k : IntKind} {ns : List Int} {vs : List Value}, homI l = some (k, ns) → VRL E l vs → vs = ns.map (fun n => Value.int k n) ∧ ns.length = l.length
  | [], k, ns, vs, h, _ => by simp [homI] at h
  | a :: r, k, ns, vs, h, hv => by
    simp only [VRL] at hv
    obtain ⟨z, r', rfl, hz, hr⟩ := hv
    simp only [homI] at h
    split at h
    · rename_i k' n
      simp only [VR] at hz
      subst hz
      split at h
      · simp only [Option.some.injEq, Prod.mk.injEq] at h
        obtain ⟨rfl, rfl⟩ := h
        simp only [VRL] at hr
        subst hr
        exact ⟨rfl, rfl⟩
      · split at h
        · rename_i k2 ns2 h2
          split at h
          · rename_i hk
            subst hk
            simp only [Option.some.injEq, Prod.mk.injEq] at h
            obtain ⟨rfl, rfl⟩ := h
            obtain ⟨g1, g2⟩ := homI_sound h2 hr
            exact ⟨by rw [g1]; rfl, by simp [g2]⟩
          · simp at h
        · simp at h
    · simp at h
theorem homS_sound : ∀ {l : List AV} {ss : List (List UInt8)} {vs : List Value}, homS l = some ss → VRL E l vs → vs = ss.map (fun s => Value.string ⟨s.toArray⟩) ∧ ss.length = l.length
  | [], ss, vs, h, hv => by
    simp only [homS, Option.some.injEq] at h
    subst h
    simp only [VRL] at hv
    subst hv
    exact ⟨rfl, rfl⟩
  | a :: r, ss, vs, h, hv => by
    simp only [VRL] at hv
    obtain ⟨z, r', rfl, hz, hr⟩ := hv
    simp only [homS] at h
    split at h
    · simp only [VR] at hz
      subst hz
      split at h
      · rename_i ss2 h2
        simp only [Option.some.injEq] at h
        subst h
        obtain ⟨g1, g2⟩ := homS_sound h2 hr
        exact ⟨by rw [g1]; rfl, by simp [g2]⟩
      · simp at h
    · simp at h
theorem homV_sound {l : List AV} {i : Nat} {r : AV} {vs : List Value} (h : homV l i = some r) (hv : VRL E l vs) (hi : i < l.length) : ∃ z, vs[i]? = some z ∧ VR E r z ∧ ∀ p, r.nm p := by
  unfold homV at h
  split at h
  · rename_i k ns hk
    simp only [Option.some.injEq] at h
    subst h
    obtain ⟨rfl, g2⟩ := homI_sound hk hv
    have : i < ns.length := by omega
    exact ⟨.int k ns[i], by simp [this], by simp [VR, List.getD_eq_getElem?_getD, this], by simp [AV.nm]⟩
  · split at h
    · rename_i ss hk
      simp only [Option.some.injEq] at h
      subst h
      obtain ⟨rfl, g2⟩ := homS_sound hk hv
      have : i < ss.length := by omega
      exact ⟨.string ⟨ss[i].toArray⟩, by simp [this], by simp [VR, List.getD_eq_getElem?_getD, this], by simp [AV.nm]⟩
    · simp at h
theorem intsA_sound {k : IntKind} {ns : List Int} : ∀ (m j : Nat), ns.length = j + m → VRL E (intsA k ns j m) ((ns.drop j).map fun n => Value.int k n) ∧ ∀ p, AV.nms p (intsA k ns j m)
  | 0, j, h => by
    rw [List.drop_of_length_le (by omega)]
    simp [intsA, VRL, AV.nms]
  | m + 1, j, h => by
    obtain ⟨g1, g2⟩ := intsA_sound (k := k) (ns := ns) m (j + 1) (by omega)
    have hj : j < ns.length := by omega
    rw [List.drop_eq_getElem_cons hj]
    simp only [intsA, List.map_cons, VRL, AV.nms]
    exact ⟨⟨_, _, rfl, by simp [VR, List.getD_eq_getElem?_getD, hj], g1⟩, fun p => ⟨by simp [AV.nm], g2 p⟩⟩
theorem strsA_sound {ss : List (List UInt8)} : ∀ (m j : Nat), ss.length = j + m → VRL E (strsA ss j m) ((ss.drop j).map fun s => Value.string ⟨s.toArray⟩) ∧ ∀ p, AV.nms p (strsA ss j m)
  | 0, j, h => by
    rw [List.drop_of_length_le (by omega)]
    simp [strsA, VRL, AV.nms]
  | m + 1, j, h => by
    obtain ⟨g1, g2⟩ := strsA_sound (ss := ss) m (j + 1) (by omega)
    have hj : j < ss.length := by omega
    rw [List.drop_eq_getElem_cons hj]
    simp only [strsA, List.map_cons, VRL, AV.nms]
    exact ⟨⟨_, _, rfl, by simp [VR, List.getD_eq_getElem?_getD, hj], g1⟩, fun p => ⟨by simp [AV.nm], g2 p⟩⟩
theorem homW_sound {l l' : List AV} {i m : Nat} {c : AV} {vs : List Value} {z : Value} (h : homW l i m c = some l') (hv : VRL E l vs) (hc : VR E c z) (hm : l.length = m) : VRL E l' (vs.set i z) ∧ ∀ p, AV.nms p l' := by
  unfold homW at h
  split at h
  · rename_i k ns hk
    obtain ⟨rfl, g2⟩ := homI_sound hk hv
    split at h
    · split at h
      · rename_i x hkk
        subst hkk
        simp only [Option.some.injEq] at h
        subst h
        simp only [VR] at hc
        subst hc
        have := intsA_sound (E := E) (k := k) (ns := ns.set i x) m 0 (by simp; omega)
        simpa using this
      · simp at h
    · simp at h
  · split at h
    · rename_i ss hk
      obtain ⟨rfl, g2⟩ := homS_sound hk hv
      split at h
      · simp only [Option.some.injEq] at h
        subst h
        simp only [VR] at hc
        subst hc
        rename_i x
        have := strsA_sound (E := E) (ss := ss.set i x) m 0 (by simp; omega)
        simpa using this
      · simp at h
    · simp at h
theorem opIndex_sound {P : Program} {T : TypeId} {x i r : AV} {v j : Value} {q : List Prop} {cst : Bool} (h : opIndex P T cst x i = some (q, r)) (hq : ∀ p ∈ q, p) (hx : VR E x v) (hi : VR E i j) {us' : Nat → Prop} (hn : x.nm us')
    (w : World) : ∃ z, (Instr.index T v j).run P w = .ok z w ∧ VR E r z ∧ r.nm us' := by
  unfold opIndex at h
  split at h
  · rename_i i k i
    simp only [VR] at hi
    subst hi
    split at h
    · rename_i hT
      split at h
      · rename_i l
        simp only [Option.some.injEq, Prod.mk.injEq] at h
        obtain ⟨rfl, rfl⟩ := h
        simp only [VR] at hx
        subst hx
        have h0 : 0 ≤ i ∧ i < (l.length : Int) := hq _ (List.Mem.head _)
        have hsz : (⟨l.toArray⟩ : ByteArray).size = l.length := by simp [ByteArray.size]
        refine ⟨_, ?_, VR.int, by simp [AV.nm]⟩
        rw [run_index_string w T _ _ _ hT, dif_pos (by rw [hsz]; exact h0)]
        congr 3
        have h1 : i.toNat < l.length := by have := h0.2; omega
        rw [List.getD_eq_getElem?_getD, List.getElem?_eq_getElem h1]
        rfl
      · simp at h
    · rename_i m e hT
      split at h
      · rename_i s hs
        split at h
        · rename_i l
          split at h
          · split at h
            · rename_i y hy
              simp only [Option.some.injEq, Prod.mk.injEq] at h
              obtain ⟨rfl, rfl⟩ := h
              have h0 : 0 ≤ i ∧ i < (m : Int) := hq _ (List.Mem.head _)
              simp only [VR] at hx
              obtain ⟨vs, rfl, hx⟩ := hx
              obtain ⟨z, hz, hv⟩ := part_sound hy hx w
              refine ⟨z, ?_, hv, partA_nm hy hn⟩
              simp [Instr.index, asIntOf, run_underlying hT, h0, run_sizeT w hs, hz]
            · simp at h
          · split at h
            · rename_i hb1 hag hb2
              split at h
              · rename_i y hy
                simp only [Option.some.injEq, Prod.mk.injEq] at h
                obtain ⟨rfl, rfl⟩ := h
                have h0 : 0 ≤ i ∧ i < (m : Int) := hq _ (List.Mem.head _)
                simp only [VR] at hx
                obtain ⟨vs, rfl, hx⟩ := hx
                have hlm := beq_true hb2
                rw [lenA_eq] at hlm
                obtain ⟨z, h1, h2, h3⟩ := homV_sound hy hx (by omega)
                have hs1 := beq_true hb1
                subst hs1
                refine ⟨z, ?_, h2, h3 _⟩
                simp [Instr.index, asIntOf, run_underlying hT, h0, run_sizeT w hs, part, run_isAgg w hag, h1]
              · simp at h
            · simp at h
        · simp at h
      · simp at h
    · simp at h
  · simp at h
theorem opField_sound {P : Program} {T : TypeId} {f : Nat} {g : Field} {l : List AV} {v : Value} {r : AV} (hf : fld P T f = some g) (h : partA P g.type g.offset l = some r) (hx : VR E (.agg l) v)
    {us' : Nat → Prop} (hn : (AV.agg l).nm us') (w : World) : ∃ z, (Instr.field T v f).run P w = .ok z w ∧ VR E r z ∧ r.nm us' := by
  unfold fld at hf
  split at hf
  · rename_i fs hT
    rw [nth_eq] at hf
    simp only [VR] at hx
    obtain ⟨vs, rfl, hx⟩ := hx
    obtain ⟨z, hz, hv⟩ := part_sound h hx w
    refine ⟨z, ?_, hv, partA_nm h hn⟩
    have hf' : fs[f]? = some g := by simpa using hf
    simp [Instr.field, run_underlying hT, hf', asAgg, hz]
  · simp at hf
theorem run_fieldPlace {P : Program} {f : Field} {n : Nat} (w : World) (h : sizeT P f.type = some (n + 1)) (a : Addr) : (fieldPlace a f).run P w = .ok (a.add f.offset) w := by
  simp [fieldPlace, run_sizeT w h]
theorem opFieldAddr_sound {P : Program} (hs : SimE W0 okIn B us tm ob nt E a) {T : TypeId} {f : Nat} {x r : AV} {v : Value} (hl : liveA ob x = true) (h : opFieldAddr P T x f = some r) (hx : VR E x v) {us' : Nat → Prop} (hn : x.nm us')
    (w : World) : ∃ z, (Instr.fieldAt T v f).run P w = .ok z w ∧ VR E r z ∧ r.nm us' := by
  unfold opFieldAddr at h
  split at h
  · rename_i g hf
    split at h
    · rename_i n hn'
      unfold fld at hf
      split at hf
      · rename_i fs hT
        rw [nth_eq] at hf
        have hf' : fs[f]? = some g := by simpa using hf
        have key : ∀ ad : Addr, (Instr.fieldAt T (.pointer (some ad)) f).run P w = .ok (.pointer (some (ad.add g.offset))) w := by
          intro ad
          simp [Instr.fieldAt, run_underlying hT, hf', Instr.sureAddr, run_fieldPlace w hn']
        split at h
        · simp only [Option.some.injEq] at h
          subst h
          simp only [VR] at hx
          obtain ⟨L, hL, _⟩ := live_loc hs hl
          obtain ⟨b, h1, rfl⟩ := hx.2 L hL
          refine ⟨_, key _, ?_, hn⟩
          simp only [VR, leafV, true_and]
          intro L' hL'
          obtain rfl : L = L' := Option.some.inj (hL.symm.trans hL')
          exact ⟨b, h1, by rw [add_mk]⟩
        · simp only [Option.some.injEq] at h
          subst h
          simp only [VR] at hx
          obtain ⟨b, o, cs, rfl, h2⟩ := hx
          refine ⟨_, key _, ?_, by simp [AV.nm]⟩
          simp only [VR]
          exact ⟨b, o, cs, by rw [add_mk, Nat.add_assoc], h2⟩
        · simp only [Option.some.injEq] at h
          subst h
          simp only [VR] at hx
          obtain ⟨L, hL, _⟩ := live_loc hs hl
          obtain ⟨b, h1, rfl⟩ := hx.2 L hL
          refine ⟨_, key _, ?_, hn⟩
          simp only [VR, leafV, true_and]
          intro L' hL'
          obtain rfl : L = L' := Option.some.inj (hL.symm.trans hL')
          exact ⟨b, h1, by rw [add_mk, Nat.add_assoc]⟩
        · simp at h
      · simp at hf
    · simp at h
  · simp at h
theorem LRs.elem {w : World} {ok : Nat → Prop} {e : Sh} {xs : List e.T} {v : Value} (h : LRs w ok (.sl e) xs [v]) {i : Nat} (hi : i < xs.length) :
    ∃ b o cap cs, v = .slice (some ⟨b, o, none⟩) xs.length cap ∧ xs.length ≤ cap ∧ ok b ∧ cs.length = e.size ∧ Row w b (o + i * e.size) cs ∧ LRs w ok e (xs.getD i e.dflt) cs := by
  simp only [LRs] at h
  obtain ⟨base, cap, hv, hc, h⟩ := h
  simp only [List.cons.injEq, and_true] at hv
  rcases h with h | ⟨b, o, rfl, hok, h⟩
  · omega
  · obtain ⟨cs, h1, h2, h3⟩ := h i hi
    refine ⟨b, o, cap, cs, hv, hc, hok, h1, h2, ?_⟩
    rw [List.getD_eq_getElem?_getD, List.getElem?_eq_getElem hi]
    exact h3
theorem opIndexAddr_sound {P : Program} (hs : SimE W0 okIn B us tm ob nt E a) {T : TypeId} {x i r : AV} {v j : Value} {q : List Prop} {cst : Bool} (hl : liveA ob x = true) (h : opIndexAddr P T cst ob x i = some (q, r)) (hq : ∀ p ∈ q, p)
    (hx : VR E x v) (hi : VR E i j) {us' : Nat → Prop} (hn : x.nm us') (w : World) : ∃ z, (Instr.indexAt T v j).run P w = .ok z w ∧ VR E r z ∧ r.nm us' := by
  unfold opIndexAddr at h
  split at h
  · rename_i i k i
    simp only [VR] at hi
    subst hi
    split at h
    · rename_i el hT
      split at h
      · rename_i s hsz
        have key : ∀ (ad : Addr) (len cap : Nat), 0 ≤ i ∧ i < (len : Int) → (Instr.indexAt T (.slice (some ad) len cap) (.int k i)).run P w = .ok (.pointer (some (ad.add (i.toNat * s)))) w := by
          intro ad len cap h0
          simp [Instr.indexAt, asIntOf, run_underlying hT, h0, run_sizeT w hsz]
        split at h
        · rename_i e xs
          split at h
          · rename_i hb
            have hse := beq_true hb
            subst hse
            simp only [Option.some.injEq, Prod.mk.injEq] at h
            obtain ⟨rfl, rfl⟩ := h
            have h0 : 0 ≤ i ∧ i < (xs.length : Int) := hq _ (List.Mem.head _)
            simp only [VR] at hx
            obtain ⟨b, o, cap, cs, rfl, hc, hok, h1, h2, h3⟩ := LRs.elem hx (i := i.toNat) (by omega)
            refine ⟨_, key _ _ _ h0, ?_, by simp [AV.nm]⟩
            simp only [VR]
            exact ⟨b, o + i.toNat * e.size, cs, by rw [add_mk]; simp, hok, h1, h2, h3⟩
          · simp at h
        · rename_i n e off len
          split at h
          · rename_i hb
            have hse := beq_true hb
            subst hse
            simp only [Option.some.injEq, Prod.mk.injEq] at h
            obtain ⟨rfl, rfl⟩ := h
            have h0 : 0 ≤ i ∧ i < (len : Int) := hq _ (List.Mem.head _)
            simp only [VR] at hx
            obtain ⟨L, hL, hLb⟩ := live_loc hs hl
            obtain ⟨base, rfl, h1, h2, h3⟩ := hx.2 L hL
            have hlt : off < L.cap := by omega
            rcases hLb with hLb | ⟨b, hLb⟩
            · omega
            · have hb' := h3 hlt
              rw [hLb] at hb'
              subst hb'
              refine ⟨_, key _ _ _ h0, ?_, hn⟩
              simp only [VR, leafV, true_and]
              intro L' hL'
              obtain rfl : L = L' := Option.some.inj (hL.symm.trans hL')
              exact ⟨b, hLb, by rw [add_mk, add_mk]; congr 3; rw [Nat.zero_add, Nat.add_mul]; omega⟩
          · simp at h
        · rename_i n off len
          simp only [Option.some.injEq, Prod.mk.injEq] at h
          obtain ⟨rfl, rfl⟩ := h
          have h0 : 0 ≤ i ∧ i < (len : Int) := hq _ (List.Mem.head _)
          simp only [VR] at hx
          obtain ⟨L, hL, hLb⟩ := live_loc hs hl
          obtain ⟨b, o, cap, h1, rfl, h2, h3⟩ := hx.2 L hL
          refine ⟨_, key _ _ _ h0, ?_, hn⟩
          simp only [VR, leafV, true_and]
          intro L' hL'
          obtain rfl : L = L' := Option.some.inj (hL.symm.trans hL')
          exact ⟨b, h1, by rw [add_mk, h3 (by omega)]⟩
        · rename_i n e
          split at h
          · rename_i hb
            have hse := beq_true hb
            subst hse
            have fin : ∀ {e' : Sh} {xs : List e'.T}, (ObjR E n (.rows e' xs) ∨ ObjR E n (.frz e' xs)) → some ([0 ≤ i ∧ i < (xs.length : Int)], AV.epr n e i.toNat 0) = some (q, r) →
                ∃ z, (Instr.indexAt T v (.int k i)).run P w = .ok z w ∧ VR E r z ∧ r.nm us' := by
              intro e' xs ho h
              simp only [Option.some.injEq, Prod.mk.injEq] at h
              obtain ⟨rfl, rfl⟩ := h
              have h0 : 0 ≤ i ∧ i < (xs.length : Int) := hq _ (List.Mem.head _)
              obtain ⟨L, hL, rfl, hle, hLb⟩ := own_val ho hx
              rcases hLb with hLb | ⟨b, hLb⟩
              · omega
              · rw [hLb]
                refine ⟨_, key _ _ _ h0, ?_, hn⟩
                simp only [VR, leafV, true_and]
                intro L' hL'
                obtain rfl : L = L' := Option.some.inj (hL.symm.trans hL')
                exact ⟨b, hLb, by rw [add_mk]; simp⟩
            split at h
            · rename_i hob; exact fin (.inl (hs.obj _ _ hob).1) h
            · rename_i hob; exact fin (.inr (hs.obj _ _ hob).1) h
            · simp at h
          · simp at h
        · simp at h
      · simp at h
    · rename_i m el hT
      split at h
      · rename_i s hsz
        have key : ∀ (ad : Addr), 0 ≤ i ∧ i < (m : Int) → (Instr.indexAt T (.pointer (some ad)) (.int k i)).run P w = .ok (.pointer (some (ad.add (i.toNat * s)))) w := by
          intro ad h0
          simp [Instr.indexAt, asIntOf, run_underlying hT, h0, run_sizeT w hsz, Instr.sureAddr]
        split at h
        · rename_i n off
          split at h
          · simp only [Option.some.injEq, Prod.mk.injEq] at h
            obtain ⟨rfl, rfl⟩ := h
            have h0 : 0 ≤ i ∧ i < (m : Int) := hq _ (List.Mem.head _)
            simp only [VR] at hx
            obtain ⟨L, hL, hLb⟩ := live_loc hs hl
            obtain ⟨b, h1, rfl⟩ := hx.2 L hL
            refine ⟨_, key _ h0, ?_, hn⟩
            simp only [VR, leafV, true_and]
            intro L' hL'
            obtain rfl : L = L' := Option.some.inj (hL.symm.trans hL')
            exact ⟨b, h1, by rw [add_mk]⟩
          · split at h
            · rename_i hb1
              have hs1 := beq_true hb1
              subst hs1
              simp only [Option.some.injEq, Prod.mk.injEq] at h
              obtain ⟨rfl, rfl⟩ := h
              have h0 : 0 ≤ i ∧ i < (m : Int) := hq _ (List.Mem.head _)
              simp only [VR] at hx
              obtain ⟨L, hL, hLb⟩ := live_loc hs hl
              obtain ⟨b, h1, rfl⟩ := hx.2 L hL
              refine ⟨_, key _ h0, ?_, hn⟩
              simp only [VR, leafV, true_and]
              refine ⟨by omega, fun L' hL' => ?_⟩
              obtain rfl : L = L' := Option.some.inj (hL.symm.trans hL')
              exact ⟨b, h1, by rw [add_mk, Nat.mul_one]⟩
            · simp at h
        · rename_i e x off
          simp only [Option.some.injEq, Prod.mk.injEq] at h
          obtain ⟨rfl, rfl⟩ := h
          have h0 : 0 ≤ i ∧ i < (m : Int) := hq _ (List.Mem.head _)
          simp only [VR] at hx
          obtain ⟨b, o, cs, rfl, h2⟩ := hx
          refine ⟨_, key _ h0, ?_, by simp [AV.nm]⟩
          simp only [VR]
          exact ⟨b, o, cs, by rw [add_mk, Nat.add_assoc], h2⟩
        · rename_i n e jj off
          simp only [Option.some.injEq, Prod.mk.injEq] at h
          obtain ⟨rfl, rfl⟩ := h
          have h0 : 0 ≤ i ∧ i < (m : Int) := hq _ (List.Mem.head _)
          simp only [VR] at hx
          obtain ⟨L, hL, hLb⟩ := live_loc hs hl
          obtain ⟨b, h1, rfl⟩ := hx.2 L hL
          refine ⟨_, key _ h0, ?_, hn⟩
          simp only [VR, leafV, true_and]
          intro L' hL'
          obtain rfl : L = L' := Option.some.inj (hL.symm.trans hL')
          exact ⟨b, h1, by rw [add_mk, Nat.add_assoc]⟩
        · simp at h
      · simp at h
    · simp at h
  · simp at h
end
end Go.Tr
namespace Go.Tr
open Go
set_option linter.unusedVariables false
set_option linter.unusedSimpArgs false
section
variable {W0 : WX} {okIn B us : Nat → Prop} {tm : Nat → Option AV} {ob : Nat → Option AO} {nt : Nat} {E : Env} {a : Act}
theorem Row.take {w : World} {b o : Nat} {cs : List Value} (h : Row w b o cs) (n : Nat) : Row w b o (cs.take n) := by
  intro j hj
  have := h j (by simp at hj; omega)
  simpa using this
theorem Row.drop {w : World} {b o : Nat} {cs : List Value} (h : Row w b o cs) (n : Nat) : Row w b (o + n) (cs.drop n) := by
  intro j hj
  have := h (n + j) (by simp at hj; omega)
  rw [show o + n + j = o + (n + j) by omega, this]
  simp
theorem run_load_row {P : Program} {w : World} {T : TypeId} {b o off : Nat} {l : List AV} {vs : List Value} {r : AV} (h : partA P T off l = some r) (hl : VRL E l vs) (hr : Row w b o vs) :
    ∃ z, (Instr.loadAt T (.pointer (some ⟨b, o + off, none⟩))).run P w = .ok z w ∧ VR E r z := by
  rcases partA_cases h with ⟨n, h1, h2, h3, rfl⟩ | ⟨h1, h2⟩
  · refine ⟨.agg ((vs.drop off).take n).toArray, ?_, ⟨_, rfl, (hl.drop off).take n⟩⟩
    have hlen : ((vs.drop off).take n).length = n := by simp [hl.length]; omega
    have hrow := (hr.drop off).take n
    have hload := run_loadCells_list (P := P) w ⟨b, o + off, none⟩ ((vs.drop off).take n) (fun j v hv => by
      have hj : j < ((vs.drop off).take n).length := by
        rcases Nat.lt_or_ge j ((vs.drop off).take n).length with hlt | hge
        · exact hlt
        · rw [List.getElem?_eq_none hge] at hv; simp at hv
      rw [List.getElem?_eq_getElem hj] at hv
      rw [add_mk, hrow j hj]
      exact hv)
    rw [hlen] at hload
    simp [Instr.loadAt, Instr.sureAddr, loadVar, run_isAgg w h1, run_sizeT w h2, hload]
  · obtain ⟨x, hx, hv⟩ := hl.nth h2
    refine ⟨x, ?_, hv⟩
    have hlt : off < vs.length := by
      rcases Nat.lt_or_ge off vs.length with hlt | hge
      · exact hlt
      · rw [List.getElem?_eq_none hge] at hx; simp at hx
    have hcell := hr off hlt
    rw [List.getElem?_eq_getElem hlt] at hx
    have hx' := Option.some.inj hx
    simp [Instr.loadAt, Instr.sureAddr, loadVar, run_isAgg w h1, hcell, hx']
theorem enc_sound : ∀ (s : Sh), s.flat = true → ∀ (x : s.T) (vs : List Value), LRs E.w E.ok s x vs → VRL E (enc s x) vs
  | .int k, _, x, vs, h => by simp only [LRs] at h; subst h; simp [enc, VRL, VR]
  | .bool, _, x, vs, h => by simp only [LRs] at h; subst h; simp [enc, VRL, VR]
  | .str, _, x, vs, h => by simp only [LRs] at h; subst h; simp [enc, VRL, VR]
  | .unit, _, x, vs, h => by simp only [LRs] at h; subst h; simp [enc, VRL]
  | .sl e, _, x, vs, h => by
    have h' := h
    simp only [LRs] at h
    obtain ⟨base, cap, rfl, h2⟩ := h
    simp only [enc, VRL, VR]
    exact ⟨_, [], rfl, h', rfl⟩
  | .arr n e, hf, x, vs, h => by simp [Sh.flat] at hf
  | .pair p q, hf, x, vs, h => by
    simp only [LRs] at h
    obtain ⟨v1, v2, rfl, h1, h2⟩ := h
    simp only [Sh.flat] at hf
    split at hf
    · rename_i hp
      simp only [enc, appA_eq]
      exact VRL.append (enc_sound p hp _ _ h1) (enc_sound q hf _ _ h2)
    · simp at hf
  | .err, _, x, vs, h => by
    simp only [LRs] at h
    obtain ⟨v, rfl, h⟩ := h
    simp only [enc, VRL, VR]
    exact ⟨v, [], rfl, h, rfl⟩
theorem enc_nms (p : Nat → Prop) : ∀ (s : Sh) (x : s.T), AV.nms p (enc s x)
  | .int k, x => by simp [enc, AV.nms, AV.nm]
  | .bool, x => by simp [enc, AV.nms, AV.nm]
  | .str, x => by simp [enc, AV.nms, AV.nm]
  | .unit, x => by simp [enc, AV.nms, AV.nm]
  | .sl e, x => by simp [enc, AV.nms, AV.nm]
  | .arr n e, x => by simp [enc, AV.nms, AV.nm]
  | .pair a b, x => by simp only [enc, appA_eq]; exact nms_append (enc_nms p a _) (enc_nms p b _)
  | .err, x => by simp [enc, AV.nms, AV.nm]
theorem getD_eq {α : Type} {xs : List α} {i : Nat} (h : i < xs.length) (d : α) : xs.getD i d = xs[i] := by
  rw [List.getD_eq_getElem?_getD, List.getElem?_eq_getElem h]; rfl
theorem cells_row {w : World} {b : Nat} {cs : Array Value} {T : TypeId} {fr : Nat × Nat} (h : w.heap[b]? = some (.cells cs T fr)) : Row w b 0 cs.toList := by
  intro j hj
  simp [World.cell?, h, hj]
theorem shE_size {P : Program} {t : TypeId} {e : Sh} (h : shE P t = some e) : sizeT P t = some e.size ∧ shT P 16 t = some e := by
  unfold shE at h
  split at h
  · rename_i e' s h1 h2
    split at h
    · rename_i hb
      simp only [Option.some.injEq] at h
      subst h
      rw [h2, beq_true hb]
      exact ⟨rfl, h1⟩
    · simp at h
  · simp at h
theorem headA_is {l : List AV} {v : AV} (h : headA l = some v) : l = [v] := by
  unfold headA at h
  split at h
  · simp only [Option.some.injEq] at h; subst h; rfl
  · simp at h
theorem encV_sound {P : Program} {T : TypeId} {s : Sh} {y : s.T} {r : AV} {cs : List Value} (h : encV P T s y = some r) (hy : LRs E.w E.ok s y cs) :
    (isAggT P T = some true ∧ VR E r (.agg cs.toArray)) ∨ (isAggT P T = some false ∧ ∃ z, cs = [z] ∧ VR E r z) := by
  unfold encV at h
  split at h
  · rename_i ha
    split at h
    · rename_i hf
      simp only [Option.some.injEq] at h
      subst h
      exact .inl ⟨ha, cs, rfl, enc_sound s hf y cs hy⟩
    · simp only [Option.some.injEq] at h
      subst h
      exact .inl ⟨ha, cs, rfl, hy⟩
  · rename_i ha
    split at h
    · rename_i hf
      have h1 := enc_sound s hf y cs hy
      rw [headA_is h] at h1
      simp only [VRL] at h1
      obtain ⟨z, q, rfl, h2, rfl⟩ := h1
      exact .inr ⟨ha, z, rfl, h2⟩
    · simp at h
  · simp at h
theorem encV_nm {P : Program} {T : TypeId} {s : Sh} {y : s.T} {r : AV} (h : encV P T s y = some r) (p : Nat → Prop) : r.nm p := by
  unfold encV at h
  split at h
  · split at h <;> simp only [Option.some.injEq] at h <;> subst h
    · exact enc_nms p s y
    · simp [AV.nm]
  · split at h
    · have := enc_nms p s y
      rw [headA_is h] at this
      exact this.1
    · simp at h
  · simp at h
theorem partS_nm {P : Program} {T : TypeId} {e : Sh} {x : e.T} {off : Nat} {r : AV} (h : partS P T e x off = some r) (p : Nat → Prop) : r.nm p := by
  unfold partS at h
  split at h
  · split at h
    · exact encV_nm h p
    · simp at h
  · simp at h
theorem partS_sound {P : Program} {T : TypeId} {e : Sh} {x : e.T} {off : Nat} {r : AV} {cs : List Value} (h : partS P T e x off = some r) (hx : LRs E.w E.ok e x cs) :
    (∃ n, isAggT P T = some true ∧ sizeT P T = some n ∧ off + n ≤ cs.length ∧ VR E r (.agg ((cs.drop off).take n).toArray)) ∨ (isAggT P T = some false ∧ ∃ z, cs[off]? = some z ∧ VR E r z) := by
  unfold partS at h
  split at h
  · rename_i s hs
    split at h
    · rename_i y hy
      obtain ⟨h1, h2⟩ := shE_size hs
      obtain ⟨g1, g2⟩ := getS_sound e hy hx
      rcases encV_sound h g2 with ⟨k1, k2⟩ | ⟨k1, z, k2, k3⟩
      · exact .inl ⟨_, k1, h1, g1, k2⟩
      · refine .inr ⟨k1, z, ?_, k3⟩
        have : ((cs.drop off).take s.size)[0]? = some z := by rw [k2]; rfl
        rw [List.getElem?_take] at this
        split at this
        · rwa [List.getElem?_drop, Nat.add_zero] at this
        · simp at this
    · simp at h
  · simp at h
theorem partS_load {P : Program} {T : TypeId} {e : Sh} {x : e.T} {off : Nat} {r : AV} {cs : List Value} {b o : Nat} (h : partS P T e x off = some r) (hx : LRs E.w E.ok e x cs) (hr : Row E.w b o cs) :
    ∃ z, (Instr.loadAt T (.pointer (some ⟨b, o + off, none⟩))).run P E.w = .ok z E.w ∧ VR E r z := by
  rcases partS_sound h hx with ⟨n, h1, h2, h3, h4⟩ | ⟨h1, z, hz, hv⟩
  · refine ⟨_, ?_, h4⟩
    have hlen : ((cs.drop off).take n).length = n := by simp; omega
    have hrow := (hr.drop off).take n
    have hload := run_loadCells_list (P := P) E.w ⟨b, o + off, none⟩ ((cs.drop off).take n) (fun j v hv => by
      have hj : j < ((cs.drop off).take n).length := by
        rcases Nat.lt_or_ge j ((cs.drop off).take n).length with hlt | hge
        · exact hlt
        · rw [List.getElem?_eq_none hge] at hv; simp at hv
      rw [List.getElem?_eq_getElem hj] at hv
      rw [add_mk, hrow j hj]
      exact hv)
    rw [hlen] at hload
    simp [Instr.loadAt, Instr.sureAddr, loadVar, run_isAgg E.w h1, run_sizeT E.w h2, hload]
  · refine ⟨z, ?_, hv⟩
    have hlt : off < cs.length := by
      rcases Nat.lt_or_ge off cs.length with hlt | hge
      · exact hlt
      · rw [List.getElem?_eq_none hge] at hz; simp at hz
    have hcell := hr off hlt
    rw [List.getElem?_eq_getElem hlt] at hz
    have hx' := Option.some.inj hz
    simp [Instr.loadAt, Instr.sureAddr, loadVar, run_isAgg E.w h1, hcell, hx']
theorem partS_field {P : Program} {T : TypeId} {f : Nat} {g : Field} {e : Sh} {x : e.T} {v : Value} {r : AV} (hf : fld P T f = some g) (h : partS P g.type e x g.offset = some r) (hx : VR E (.arr e x) v)
    (w : World) : ∃ z, (Instr.field T v f).run P w = .ok z w ∧ VR E r z := by
  unfold fld at hf
  split at hf
  · rename_i fs hT
    rw [nth_eq] at hf
    simp only [VR] at hx
    obtain ⟨vs, rfl, hx⟩ := hx
    have hf' : fs[f]? = some g := by simpa using hf
    rcases partS_sound h hx with ⟨n, h1, h2, h3, h4⟩ | ⟨h1, z, hz, hv⟩
    · exact ⟨_, by simp [Instr.field, run_underlying hT, hf', asAgg, part, run_isAgg w h1, run_sizeT w h2], h4⟩
    · exact ⟨z, by simp [Instr.field, run_underlying hT, hf', asAgg, part, run_isAgg w h1, hz], hv⟩
  · simp at hf
theorem opLoad_sound {P : Program} (hs : SimE W0 okIn B us tm ob nt E a) {T : TypeId} {x r : AV} {v : Value} {q : List Prop} (h : opLoad P T ob x = some (q, r)) (hq : ∀ p ∈ q, p)
    (hx : VR E x v) : ∃ z, (Instr.loadAt T v).run P E.w = .ok z E.w ∧ VR E r z ∧ r.nm us := by
  unfold opLoad at h
  split at h
  · rename_i n off
    split at h
    · rename_i l hob
      split at h
      · rename_i y hy
        simp only [Option.some.injEq, Prod.mk.injEq] at h
        obtain ⟨rfl, rfl⟩ := h
        obtain ⟨h1, h2, h3⟩ := hs.obj n _ hob
        obtain ⟨b, cs, T', fr, g1, g2, g3, g4⟩ := h1
        simp only [VR] at hx
        obtain ⟨b', hb', rfl⟩ := hx.2 _ g1
        simp only [Option.some.injEq, Addr.mk.injEq, and_true] at hb'
        subst hb'
        obtain ⟨z, hz, hv⟩ := run_load_row (P := P) hy g4 (cells_row g2)
        exact ⟨z, by simpa using hz, hv, partA_nm hy h2⟩
      · simp at h
    · rename_i l hob
      split at h
      · rename_i y hy
        simp only [Option.some.injEq, Prod.mk.injEq] at h
        obtain ⟨rfl, rfl⟩ := h
        obtain ⟨h1, h2, h3⟩ := hs.obj n _ hob
        obtain ⟨b, cs, T', fr, g1, g3, g2, g4⟩ := h1
        simp only [VR] at hx
        obtain ⟨b', hb', rfl⟩ := hx.2 _ g1
        simp only [Option.some.injEq, Addr.mk.injEq, and_true] at hb'
        subst hb'
        obtain ⟨z, hz, hv⟩ := run_load_row (P := P) hy g4 (cells_row g2)
        exact ⟨z, by simpa using hz, hv, partA_nm hy h2⟩
      · simp at h
    · simp at h
  · rename_i n off i m
    split at h
    · rename_i l hob hag
      split at h
      · rename_i hb
        split at h
        · rename_i y hy
          simp only [Option.some.injEq, Prod.mk.injEq] at h
          obtain ⟨rfl, rfl⟩ := h
          obtain ⟨h1, h2, h3⟩ := hs.obj n _ hob
          obtain ⟨b, cs, T', fr, g1, g2, g3, g4⟩ := h1
          simp only [VR] at hx
          obtain ⟨him, hlf, hx⟩ := hx
          obtain ⟨b', hb', rfl⟩ := hx _ g1
          simp only [Option.some.injEq, Addr.mk.injEq, and_true] at hb'
          subst hb'
          have hle := Nat.le_of_ble_eq_true hb
          rw [lenA_eq] at hle
          rw [takeA_eq, dropA_eq] at hy
          obtain ⟨z, k1, k2, k3⟩ := homV_sound hy ((g4.drop off).take m) (by simp; omega)
          refine ⟨z, ?_, k2, k3 us⟩
          have hcl := g4.length
          have hlt : off + i < cs.size := by simp at hcl; omega
          have hcell : E.w.cell? ⟨b, off + i, none⟩ = some z := by
            simp only [List.getElem?_take, him, if_true, List.getElem?_drop] at k1
            simpa [World.cell?, g2] using k1
          simp [Instr.loadAt, Instr.sureAddr, loadVar, run_isAgg E.w hag, hcell]
        · simp at h
      · simp at h
    · simp at h
  · rename_i e x off
    split at h
    · rename_i hf
      split at h
      · rename_i y hy
        simp only [Option.some.injEq, Prod.mk.injEq] at h
        obtain ⟨rfl, rfl⟩ := h
        simp only [VR] at hx
        obtain ⟨b, o, cs, rfl, hok, hlen, hrow, hl⟩ := hx
        obtain ⟨z, hz, hv⟩ := run_load_row (P := P) hy (enc_sound e hf x cs hl) hrow
        exact ⟨z, hz, hv, partA_nm hy (enc_nms us e x)⟩
      · simp at h
    · simp at h
  · rename_i n e i off
    split at h
    · rename_i hf
      split at h
      · rename_i e' xs hob
        split at h
        · rename_i he
          subst he
          split at h
          · rename_i y hy
            simp only [Option.some.injEq, Prod.mk.injEq] at h
            obtain ⟨rfl, rfl⟩ := h
            have hi : i < xs.length := hq _ (List.Mem.head _)
            obtain ⟨h1, h2, h3⟩ := hs.obj n _ hob
            obtain ⟨L, g1, _, g2⟩ := h1
            rcases g2 with g2 | ⟨b, cs, T', fr, g3, g4, g5, g6, g7, g8, g9⟩
            · omega
            · simp only [VR] at hx
              obtain ⟨b', hb', rfl⟩ := hx.2 _ g1
              rw [g3] at hb'
              simp only [Option.some.injEq, Addr.mk.injEq, and_true] at hb'
              subst hb'
              have hrow := ((cells_row g5).drop (i * e'.size)).take e'.size
              rw [getD_eq hi] at hy
              obtain ⟨z, hz, hv⟩ := run_load_row (P := P) hy (enc_sound e' hf _ _ (g9 i hi)) hrow
              exact ⟨z, by simpa using hz, hv, partA_nm hy (enc_nms us e' _)⟩
          · simp at h
        · simp at h
      · rename_i e' xs hob
        split at h
        · rename_i he
          subst he
          split at h
          · rename_i y hy
            simp only [Option.some.injEq, Prod.mk.injEq] at h
            obtain ⟨rfl, rfl⟩ := h
            have hi : i < xs.length := hq _ (List.Mem.head _)
            obtain ⟨h1, h2, h3⟩ := hs.obj n _ hob
            obtain ⟨L, g1, _, g2, g3, g4⟩ := h1
            obtain ⟨b, o, cap, cs, hv, hc, hok, hlen, hrow, hl⟩ := LRs.elem g4 hi
            simp only [VR] at hx
            obtain ⟨b', hb', rfl⟩ := hx.2 _ g1
            rw [hb'] at hv
            simp only [Value.slice.injEq, Option.some.injEq, Addr.mk.injEq, and_true] at hv
            obtain ⟨⟨rfl, rfl⟩, _⟩ := hv
            obtain ⟨z, hz, hv⟩ := run_load_row (P := P) hy (enc_sound e' hf _ _ hl) hrow
            exact ⟨z, by simpa using hz, hv, partA_nm hy (enc_nms us e' _)⟩
          · simp at h
        · simp at h
      · simp at h
    · split at h
      · rename_i e' xs hob
        split at h
        · rename_i he
          subst he
          split at h
          · rename_i y hy
            simp only [Option.some.injEq, Prod.mk.injEq] at h
            obtain ⟨rfl, rfl⟩ := h
            have hi : i < xs.length := hq _ (List.Mem.head _)
            obtain ⟨h1, h2, h3⟩ := hs.obj n _ hob
            obtain ⟨L, g1, _, g2⟩ := h1
            rcases g2 with g2 | ⟨b, cs, T', fr, g3, g4, g5, g6, g7, g8, g9⟩
            · omega
            · simp only [VR] at hx
              obtain ⟨b', hb', rfl⟩ := hx.2 _ g1
              rw [g3] at hb'
              simp only [Option.some.injEq, Addr.mk.injEq, and_true] at hb'
              subst hb'
              have hrow := ((cells_row g5).drop (i * e'.size)).take e'.size
              rw [getD_eq hi] at hy
              obtain ⟨z, hz, hv⟩ := partS_load (P := P) hy (g9 i hi) hrow
              exact ⟨z, by simpa using hz, hv, partS_nm hy us⟩
          · simp at h
        · simp at h
      · simp at h
  · simp at h
end
end Go.Tr
namespace Go.Tr
open Go
set_option linter.unusedVariables false
set_option linter.unusedSimpArgs false
section
variable {W0 : WX} {okIn B us : Nat → Prop} {tm : Nat → Option AV} {ob : Nat → Option AO} {nt : Nat} {E : Env} {a : Act}
def setMu (mu : Nat → Option Loc) (nm : Nat) (L : Option Loc) (n : Nat) : Option Loc := if n = nm then L else mu n
theorem setMu_same (mu : Nat → Option Loc) (nm : Nat) (L : Option Loc) : setMu mu nm L nm = L := by simp [setMu]
theorem setMu_ne (mu : Nat → Option Loc) {nm n : Nat} (L : Option Loc) (h : n ≠ nm) : setMu mu nm L n = mu n := by simp [setMu, h]
theorem lkA_one {α : Type} {nm n : Nat} {x : α} : lkA [(nm, x)] n = if n = nm then some x else none := by
  simp only [lkA]
  by_cases h : n = nm
  · subst h; simp [beq_self]
  · simp [beq_ne h, h]
theorem Evo.new (he : EnvOk W0 okIn B E) (hlo : ∀ n, n < 16 → us n) {nm : Nat} (hnm : ¬ us nm) {w' : World} {L : Loc} {o : AO}
    (hext : ∀ b, b < E.w.heap.size → w'.heap[b]? = E.w.heap[b]?) (hsz : E.w.heap.size ≤ w'.heap.size) (hos : w'.os = E.w.os) (htape : w'.tape = E.w.tape) (hout : w'.output = E.w.output)
    (hL : L.own = true → ∃ b, L.base = some ⟨b, 0, none⟩ ∧ E.w.heap.size ≤ b ∧ b < w'.heap.size)
    (ho : ObjR ⟨w', setMu E.mu nm (some L), E.ok⟩ nm o) (hon : o.nm (usn us nm)) :
    Evo W0 okIn B us (usn us nm) E ⟨w', setMu E.mu nm (some L), E.ok⟩ [(nm, some o)] := by
  have hown : ∀ n b, owns ⟨w', setMu E.mu nm (some L), E.ok⟩ n b → (n = nm ∧ E.w.heap.size ≤ b ∧ b < w'.heap.size) ∨ (n ≠ nm ∧ owns E n b) := by
    intro n b hb
    obtain ⟨L', h1, h2, h3⟩ := hb
    by_cases hn : n = nm
    · subst hn
      simp only [setMu_same, Option.some.injEq] at h1
      subst h1
      obtain ⟨b', g1, g2, g3⟩ := hL h2
      rw [h3] at g1
      simp only [Option.some.injEq, Addr.mk.injEq, and_true] at g1
      subst g1
      exact .inl ⟨rfl, g2, g3⟩
    · simp only [setMu_ne _ _ hn] at h1
      exact .inr ⟨hn, L', h1, h2, h3⟩
  refine ⟨fun n h => .inl h, ?_, ?_, ?_, ?_, ?_, fun b h => h, ?_⟩
  · intro n h
    rw [lkA_one] at h
    split at h
    · simp at h
    · rename_i hn; exact setMu_ne _ _ hn
  · intro n hn L' h
    have hne : n ≠ nm := fun hh => hnm (hh ▸ hn)
    simp only [setMu_ne _ _ hne] at h
    exact ⟨L', h, rfl, rfl, rfl⟩
  · intro n h
    rw [lkA_one] at h
    split at h <;> simp at h
  · intro n o' h
    rw [lkA_one] at h
    split at h
    · rename_i hn
      subst hn
      simp only [Option.some.injEq] at h
      subst h
      exact ⟨ho, hon, usn_nm⟩
    · simp at h
  · intro b hb _; exact hext b hb
  · refine ⟨?_, ?_, ?_, he.oki, ?_, ?_, he.new, hos.trans he.os, htape.trans he.tape, hout.trans he.output, ?_⟩
    · intro n m b h1 h2
      rcases hown n b h1 with ⟨rfl, h3, h4⟩ | ⟨h3, h4⟩ <;> rcases hown m b h2 with ⟨rfl, h5, h6⟩ | ⟨h5, h6⟩
      · rfl
      · have := (he.own m b h6).2.1; omega
      · have := (he.own n b h4).2.1; omega
      · exact he.inj n m b h4 h6
    · intro n b h1
      rcases hown n b h1 with ⟨rfl, h3, h4⟩ | ⟨h3, h4⟩
      · refine ⟨he.new b (by have := he.sz; omega), h4, fun hok => ?_⟩
        have := (he.okl b hok).1; omega
      · obtain ⟨g1, g2, g3⟩ := he.own n b h4
        exact ⟨g1, by show b < w'.heap.size; omega, g3⟩
    · intro b hb
      obtain ⟨g1, g2⟩ := he.okl b hb
      exact ⟨by show b < w'.heap.size; omega, g2⟩
    · intro b hb hB
      have := he.sz
      show w'.heap[b]? = _
      rw [hext b (by omega)]
      exact he.fr b hb hB
    · exact Nat.le_trans he.sz hsz
    · intro n L' h hn
      have hne : n ≠ nm := fun hh => hnm (hh ▸ hlo n hn)
      simp only [setMu_ne _ _ hne] at h
      exact he.li n L' h hn
theorem push_ext (w : World) (o : Obj) : ∀ b, b < w.heap.size → ({ w with heap := w.heap.push o } : World).heap[b]? = w.heap[b]? := by
  intro b hb
  show (w.heap.push o)[b]? = _
  rw [Array.getElem?_push, if_neg (by omega)]
theorem push_last (w : World) (o : Obj) : ({ w with heap := w.heap.push o } : World).heap[w.heap.size]? = some o := by
  show (w.heap.push o)[w.heap.size]? = _
  simp
theorem goes_new (he : EnvOk W0 okIn B E) {nm : Nat} (hnm : ¬ us nm) {w' : World} {L : Loc} (hext : ∀ b, b < E.w.heap.size → w'.heap[b]? = E.w.heap[b]?) :
    Goes us E ⟨w', setMu E.mu nm (some L), E.ok⟩ :=
  ⟨fun b hb => hext b (he.okl b hb).1, fun b h => h, fun n hn L' h => by
    have hne : n ≠ nm := fun hh => hnm (hh ▸ hn)
    simp only [setMu_ne _ _ hne] at h
    exact ⟨L', h, rfl, rfl, rfl⟩⟩
theorem evo_cells (he : EnvOk W0 okIn B E) (hlo : ∀ n, n < 16 → us n) {nm : Nat} (hnm : ¬ us nm) {l : List AV} {vs : List Value} (T : TypeId) (hl : VRL E l vs) (hn : AV.nms us l) :
    ∃ E', E'.w = { E.w with heap := E.w.heap.push (.cells vs.toArray T) } ∧ Evo W0 okIn B us (usn us nm) E E' [(nm, some (.cells l))] ∧ VR E' (.ptr nm 0) (.pointer (some ⟨E.w.heap.size, 0, none⟩)) := by
  have hext := push_ext E.w (.cells vs.toArray T)
  refine ⟨⟨_, setMu E.mu nm (some ⟨some ⟨E.w.heap.size, 0, none⟩, 1, true, 0⟩), E.ok⟩, rfl, ?_, ?_⟩
  · refine Evo.new he hlo hnm hext (by simp) rfl rfl rfl (fun _ => ⟨_, rfl, Nat.le_refl _, by simp⟩) ?_ (AV.nms_mono (fun n h => .inl h) l hn)
    exact ⟨E.w.heap.size, vs.toArray, T, (0, 0), setMu_same _ _ _, push_last _ _, fun i _ => by omega, by
      simpa using VRL.mono (goes_new he hnm hext) l vs hn hl⟩
  · simp only [VR, leafV, true_and]
    intro L hL
    simp only [setMu_same, Option.some.injEq] at hL
    subst hL
    exact ⟨_, rfl, rfl⟩
theorem leaf_of {v : AV} {x : Value} (h : leafA v = true) (hx : VR E v x) : leafV x := by
  cases v <;> simp [leafA] at h <;> simp only [VR] at hx
  all_goals first
    | (subst hx; trivial)
    | exact hx
    | exact hx.1
    | exact hx.2.1
    | exact hx.leaf
    | skip
  · obtain ⟨base, cap, hv, _⟩ := hx
    simp only [List.cons.injEq, and_true] at hv
    subst hv; trivial
  · obtain ⟨b, o, cs, rfl, _⟩ := hx; trivial
  · obtain ⟨p, q, rfl, _⟩ := hx; trivial
  · obtain ⟨y, rfl, _⟩ := hx; trivial
theorem leaves_of : ∀ {l : List AV} {vs : List Value}, leavesA l = true → VRL E l vs → ∀ x ∈ vs, leafV x
  | [], vs, _, h, x, hx => by simp [VRL] at h; simp [h] at hx
  | b :: l, vs, hl, h, x, hx => by
    simp only [leavesA] at hl
    split at hl
    · rename_i hb
      simp only [VRL] at h
      obtain ⟨v, r, rfl, h1, h2⟩ := h
      rcases List.mem_cons.1 hx with rfl | hx
      · exact leaf_of hb h1
      · exact leaves_of hl h2 x hx
    · simp at hl
theorem leafV_cells {x : Value} (h : leafV x) : x.cells = #[x] := by
  cases x <;> simp [leafV] at h <;> rfl
theorem cellsA_sound {v : AV} {x : Value} {l : List AV} (h : cellsA v = some l) (hx : VR E v x) : VRL E l x.cells.toList ∧ (∀ y ∈ x.cells.toList, leafV y) ∧ ∀ p, v.nm p → AV.nms p l := by
  unfold cellsA at h
  split at h
  · split at h
    · rename_i hl
      simp only [Option.some.injEq] at h
      subst h
      simp only [VR] at hx
      obtain ⟨vs, rfl, hx⟩ := hx
      exact ⟨by simpa [Value.cells] using hx, by simpa [Value.cells] using leaves_of hl hx, fun p hp => hp⟩
    · simp at h
  · split at h
    · rename_i hl
      simp only [Option.some.injEq] at h
      subst h
      have hlf := leaf_of hl hx
      rw [leafV_cells hlf]
      refine ⟨?_, by simpa using hlf, fun p hp => by simp [AV.nms, hp]⟩
      simp only [VRL]
      exact ⟨x, [], rfl, hx, rfl⟩
    · simp at h
theorem run_newVar {P : Program} (w : World) (T : TypeId) (v : Value) : (newVar T v).run P w = .ok ⟨w.heap.size, 0, none⟩ { w with heap := w.heap.push (.cells v.cells T) } := by
  simp [newVar, newRow]
theorem opBox_sound {P : Program} (hs : SimE W0 okIn B us tm ob nt E a) {nm : Nat} (hnm : ¬ us nm) {T : TypeId} {v : AV} {x : Value} {l : List AV} (h : cellsA v = some l) (hx : VR E v x) (hn : v.nm us) :
    ∃ E' z, (Instr.box T x).run P E.w = .ok z E'.w ∧ Evo W0 okIn B us (usn us nm) E E' [(nm, some (.cells l))] ∧ VR E' (.ptr nm 0) z := by
  obtain ⟨h1, h2, h3⟩ := cellsA_sound h hx
  obtain ⟨E', hE, hv, hp⟩ := evo_cells hs.env hs.lo hnm T h1 (h3 us hn)
  refine ⟨E', _, ?_, hv, hp⟩
  rw [hE]
  simp [Instr.box, run_newVar]
theorem opAlloc_sound {P : Program} (hs : SimE W0 okIn B us tm ob nt E a) {nm : Nat} (hnm : ¬ us nm) {T : TypeId} {l : List AV} (h : zeroT P T = some l) :
    ∃ E' z, (Instr.alloc T true (.tuple #[])).run P E.w = .ok z E'.w ∧ Evo W0 okIn B us (usn us nm) E E' [(nm, some (.cells l))] ∧ VR E' (.ptr nm 0) z := by
  unfold zeroT at h
  split at h
  · rename_i i hi
    split at h
    · rename_i z hz
      simp only [Option.some.injEq] at h
      subst h
      obtain ⟨E', hE, hv, hp⟩ := evo_cells hs.env hs.lo hnm T (cvals_sound E z.cells.toList) (cvals_nm us _)
      refine ⟨E', _, ?_, hv, hp⟩
      rw [hE]
      simp [Instr.alloc, zeroValue, typeInfo, hi, hz, run_newVar]
    · simp at h
  · simp at h
theorem evo_rows (he : EnvOk W0 okIn B E) (hlo : ∀ n, n < 16 → us n) {nm : Nat} (hnm : ¬ us nm) {e : Sh} {xs : List e.T} {cs : Array Value} {T : TypeId} {fr : Nat × Nat} {cap : Nat} {w' : World}
    (hw : ∀ b, b < E.w.heap.size → w'.heap[b]? = E.w.heap[b]?) (hl : w'.heap[E.w.heap.size]? = some (.cells cs T fr)) (hsz : E.w.heap.size < w'.heap.size)
    (hos : w'.os = E.w.os) (htape : w'.tape = E.w.tape) (hout : w'.output = E.w.output) (hfr : unfrozen fr cs.size) (hc : cs.size = cap * e.size) (hle : xs.length ≤ cap)
    (hx : ∀ i (h : i < xs.length), LRs E.w E.ok e (xs[i]'h) ((cs.toList.drop (i * e.size)).take e.size)) :
    ∃ E', E'.w = w' ∧ Evo W0 okIn B us (usn us nm) E E' [(nm, some (.rows e xs))] ∧ VR E' (.own nm e) (.slice (some ⟨E.w.heap.size, 0, none⟩) xs.length cap) := by
  have hok : ∀ b, E.ok b → w'.heap[b]? = E.w.heap[b]? := fun b hb => hw b (he.okl b hb).1
  by_cases h0 : cap = 0
  · refine ⟨⟨w', setMu E.mu nm (some ⟨some ⟨E.w.heap.size, 0, none⟩, cap, false, xs.length⟩), E.ok⟩, rfl, ?_, ?_⟩
    · refine Evo.new he hlo hnm hw (Nat.le_of_lt hsz) hos htape hout (fun h => by simp at h) ?_ (by simp [AO.nm])
      exact ⟨_, setMu_same _ _ _, rfl, .inl ⟨h0, by omega, rfl⟩⟩
    · simp only [VR, leafV, true_and]
      intro L hL
      simp only [setMu_same, Option.some.injEq] at hL
      subst hL
      rfl
  · refine ⟨⟨w', setMu E.mu nm (some ⟨some ⟨E.w.heap.size, 0, none⟩, cap, true, xs.length⟩), E.ok⟩, rfl, ?_, ?_⟩
    · refine Evo.new he hlo hnm hw (Nat.le_of_lt hsz) hos htape hout (fun _ => ⟨_, rfl, Nat.le_refl _, hsz⟩) ?_ (by simp [AO.nm])
      exact ⟨_, setMu_same _ _ _, rfl, .inr ⟨E.w.heap.size, cs, T, fr, rfl, rfl, hl, hc, hle, hfr, fun i hi => LRs.mono hok (fun b h => h) _ _ _ (hx i hi)⟩⟩
    · simp only [VR, leafV, true_and]
      intro L hL
      simp only [setMu_same, Option.some.injEq] at hL
      subst hL
      rfl
theorem evo_one (he : EnvOk W0 okIn B E) (hlo : ∀ n, n < 16 → us n) {nm : Nat} (hnm : ¬ us nm) {e : Sh} {x : e.T} {vs : List Value} (T : TypeId) (hl : vs.length = e.size) (hx : LRs E.w E.ok e x vs) :
    ∃ E', E'.w = { E.w with heap := E.w.heap.push (.cells vs.toArray T) } ∧ Evo W0 okIn B us (usn us nm) E E' [(nm, some (.rows e [x]))] ∧ VR E' (.epr nm e 0 0) (.pointer (some ⟨E.w.heap.size, 0, none⟩)) := by
  have hext := push_ext E.w (.cells vs.toArray T)
  have hok : ∀ b, E.ok b → ({ E.w with heap := E.w.heap.push (.cells vs.toArray T) } : World).heap[b]? = E.w.heap[b]? := fun b hb => hext b (he.okl b hb).1
  refine ⟨⟨_, setMu E.mu nm (some ⟨some ⟨E.w.heap.size, 0, none⟩, 1, true, 1⟩), E.ok⟩, rfl, ?_, ?_⟩
  · refine Evo.new he hlo hnm hext (by simp) rfl rfl rfl (fun _ => ⟨_, rfl, Nat.le_refl _, by simp⟩) ?_ (by simp [AO.nm])
    refine ⟨_, setMu_same _ _ _, rfl, .inr ⟨E.w.heap.size, vs.toArray, T, (0, 0), rfl, rfl, push_last _ _, by simp [hl], by simp, fun i _ => by omega, fun i hi => ?_⟩⟩
    have hi0 : i = 0 := by simpa using hi
    subst hi0
    simp only [Nat.zero_mul, List.drop_zero, List.getElem_cons_zero, List.toList_toArray]
    rw [← hl, List.take_length]
    exact LRs.mono hok (fun b h => h) _ _ _ hx
  · simp only [VR, leafV, true_and]
    intro L hL
    simp only [setMu_same, Option.some.injEq] at hL
    subst hL
    exact ⟨_, rfl, by simp⟩
theorem opBoxS_sound {P : Program} (hs : SimE W0 okIn B us tm ob nt E a) {nm : Nat} (hnm : ¬ us nm) {T : TypeId} {e : Sh} {y : e.T} {x : Value} (hx : VR E (.arr e y) x) :
    ∃ E' z, (Instr.box T x).run P E.w = .ok z E'.w ∧ Evo W0 okIn B us (usn us nm) E E' [(nm, some (.rows e [y]))] ∧ VR E' (.epr nm e 0 0) z := by
  simp only [VR] at hx
  obtain ⟨vs, rfl, hx⟩ := hx
  obtain ⟨E', hE, hv, hp⟩ := evo_one hs.env hs.lo hnm T (LRs.length e _ _ hx) hx
  refine ⟨E', _, ?_, hv, hp⟩
  rw [hE]
  simp [Instr.box, run_newVar, Value.cells]
theorem zeroS_sound : ∀ (e : Sh) {l r : List AV} {vs : List Value}, zeroS e l = some r → VRL E l vs → ∃ v1 v2, vs = v1 ++ v2 ∧ LRs E.w E.ok e e.dflt v1 ∧ VRL E r v2 := by
  intro e
  induction e with
  | int k =>
    intro l r vs h hv
    cases l with
    | nil => simp [zeroS] at h
    | cons v l =>
      simp only [zeroS] at h
      split at h
      · split at h
        · rename_i hc
          obtain ⟨rfl, rfl⟩ := hc
          simp only [Option.some.injEq] at h
          subst h
          simp only [VRL] at hv
          obtain ⟨z, q, rfl, h1, h2⟩ := hv
          simp only [VR] at h1
          subst h1
          exact ⟨[_], q, rfl, rfl, h2⟩
        · simp at h
      · simp at h
  | bool =>
    intro l r vs h hv
    cases l with
    | nil => simp [zeroS] at h
    | cons v l =>
      simp only [zeroS] at h
      split at h
      · split at h
        · simp only [Option.some.injEq] at h
          subst h
          simp only [VRL] at hv
          obtain ⟨z, q, rfl, h1, h2⟩ := hv
          simp only [VR] at h1
          subst h1
          exact ⟨[_], q, rfl, rfl, h2⟩
        · simp at h
      · simp at h
  | str =>
    intro l r vs h hv
    cases l with
    | nil => simp [zeroS] at h
    | cons v l =>
      simp only [zeroS] at h
      split at h
      · split at h
        · simp only [Option.some.injEq] at h
          subst h
          simp only [VRL] at hv
          obtain ⟨z, q, rfl, h1, h2⟩ := hv
          simp only [VR] at h1
          subst h1
          exact ⟨[_], q, rfl, rfl, h2⟩
        · simp at h
      · simp at h
  | sl e ih =>
    intro l r vs h hv
    cases l with
    | nil => simp [zeroS] at h
    | cons v l =>
      simp only [zeroS] at h
      split at h
      · simp only [Option.some.injEq] at h
        subst h
        simp only [VRL] at hv
        obtain ⟨z, q, rfl, h1, h2⟩ := hv
        simp only [VR] at h1
        subst h1
        exact ⟨[_], q, rfl, ⟨none, 0, rfl, Nat.le_refl _, .inl rfl⟩, h2⟩
      · simp at h
  | err =>
    intro l r vs h hv
    cases l with
    | nil => simp [zeroS] at h
    | cons v l =>
      simp only [zeroS] at h
      split at h
      · simp only [Option.some.injEq] at h
        subst h
        simp only [VRL] at hv
        obtain ⟨z, q, rfl, h1, h2⟩ := hv
        simp only [VR] at h1
        subst h1
        exact ⟨[_], q, rfl, ⟨_, rfl, rfl⟩, h2⟩
      · simp at h
  | unit =>
    intro l r vs h hv
    have : some l = some r := by cases l <;> simpa only [zeroS] using h
    simp only [Option.some.injEq] at this
    subst this
    exact ⟨[], vs, rfl, rfl, hv⟩
  | pair a b iha ihb =>
    intro l r vs h hv
    have h' : (match zeroS a l with | some r => zeroS b r | none => none) = some r := by cases l <;> exact h
    split at h'
    · rename_i r1 h1
      obtain ⟨v1, v2, rfl, k1, k2⟩ := iha h1 hv
      obtain ⟨v3, v4, rfl, k3, k4⟩ := ihb h' k2
      exact ⟨v1 ++ v3, v4, by simp, ⟨v1, v3, rfl, k1, k3⟩, k4⟩
    · simp at h'
  | arr n e ih =>
    intro l r vs h hv
    have key : ∀ (n : Nat) (l r : List AV) (vs : List Value), zeroRep (zeroS e) n l = some r → VRL E l vs → ∃ v1 v2, vs = v1 ++ v2 ∧ v1.length = n * e.size ∧ (∀ i, i < n → LRs E.w E.ok e e.dflt ((v1.drop (i * e.size)).take e.size)) ∧ VRL E r v2 := by
      intro n
      induction n with
      | zero =>
        intro l r vs h hv
        have h' : some l = some r := h
        simp only [Option.some.injEq] at h'
        subst h'
        exact ⟨[], vs, rfl, by simp, fun i hi => by omega, hv⟩
      | succ n ihn =>
        intro l r vs h hv
        have h' : (match zeroS e l with
          | some r => zeroRep (zeroS e) n r
          | none => none) = some r := h
        split at h'
        · rename_i r1 h1
          obtain ⟨v1, v2, rfl, k1, k2⟩ := ih h1 hv
          obtain ⟨v3, v4, rfl, k3, k4, k5⟩ := ihn _ _ _ h' k2
          have hl := LRs.length e _ _ k1
          refine ⟨v1 ++ v3, v4, by simp, by simp [hl, k3, Nat.succ_mul]; omega, fun i hi => ?_, k5⟩
          cases i with
          | zero =>
            rw [Nat.zero_mul, List.drop_zero, List.take_append_of_le_length (by omega), ← hl, List.take_length]
            exact k1
          | succ i =>
            have := k4 i (by omega)
            rwa [show (i + 1) * e.size = v1.length + i * e.size by rw [Nat.add_mul, hl]; omega, List.drop_length_add_append]
        · simp at h'
    have h' : zeroRep (zeroS e) n l = some r := by cases l <;> exact h
    obtain ⟨v1, v2, h1, h2, h3, h4⟩ := key n l r vs h' hv
    refine ⟨v1, v2, h1, ?_, h4⟩
    simp only [LRs, Sh.dflt]
    exact ⟨by simp, h2, fun i hi => by simpa using h3 i (by simpa using hi)⟩
end
end Go.Tr
namespace Go.Tr
open Go
set_option linter.unusedVariables false
set_option linter.unusedSimpArgs false
section
variable {W0 : WX} {okIn B us : Nat → Prop} {tm : Nat → Option AV} {ob : Nat → Option AO} {nt : Nat} {E : Env} {a : Act}
theorem errA_sound {v : AV} {t : TErr} {x : Value} (h : errA v = some t) (hv : VR E v x) : ErrR E.w E.ok t x := by
  cases v <;> simp only [errA, reduceCtorEq] at h
  case er t' =>
    simp only [Option.some.injEq] at h
    subst h
    simpa only [VR] using hv
  case nilif =>
    simp only [Option.some.injEq] at h
    subst h
    simpa only [VR, ErrR] using hv
  case ifc T a =>
    cases a <;> simp only [reduceCtorEq] at h
    case int k n =>
      simp only [Option.some.injEq] at h
      subst h
      simp only [VR] at hv
      obtain ⟨y, rfl, rfl⟩ := hv
      simp only [ErrR]
theorem decS_sound : ∀ (s : Sh) {l r : List AV} {t : s.T} {vs : List Value}, decS s l = some (t, r) → VRL E l vs → ∃ v1 v2, vs = v1 ++ v2 ∧ LRs E.w E.ok s t v1 ∧ VRL E r v2
  | .int k, [], r, t, vs, h, hv => by simp [decS] at h
  | .int k, x :: l, r, t, vs, h, hv => by
    simp only [VRL] at hv
    obtain ⟨v, r', rfl, hv1, hr⟩ := hv
    cases x <;> simp only [decS, reduceCtorEq] at h
    split at h
    · rename_i hk
      subst hk
      simp only [Option.some.injEq, Prod.mk.injEq] at h
      obtain ⟨rfl, rfl⟩ := h
      simp only [VR] at hv1
      subst hv1
      exact ⟨[_], r', rfl, by simp [LRs], hr⟩
    · simp at h
  | .bool, [], r, t, vs, h, hv => by simp [decS] at h
  | .bool, x :: l, r, t, vs, h, hv => by
    simp only [VRL] at hv
    obtain ⟨v, r', rfl, hv1, hr⟩ := hv
    cases x <;> simp only [decS, reduceCtorEq] at h
    simp only [Option.some.injEq, Prod.mk.injEq] at h
    obtain ⟨rfl, rfl⟩ := h
    simp only [VR] at hv1
    subst hv1
    exact ⟨[_], r', rfl, by simp [LRs], hr⟩
  | .str, [], r, t, vs, h, hv => by simp [decS] at h
  | .str, x :: l, r, t, vs, h, hv => by
    simp only [VRL] at hv
    obtain ⟨v, r', rfl, hv1, hr⟩ := hv
    cases x <;> simp only [decS, reduceCtorEq] at h
    simp only [Option.some.injEq, Prod.mk.injEq] at h
    obtain ⟨rfl, rfl⟩ := h
    simp only [VR] at hv1
    subst hv1
    exact ⟨[_], r', rfl, by simp [LRs], hr⟩
  | .unit, l, r, t, vs, h, hv => by
    have h' : l = r := by
      have : decS Sh.unit l = some ((), l) := by simp [decS]
      rw [this] at h
      exact (Prod.mk.inj (Option.some.inj h)).2
    subst h'
    exact ⟨[], vs, rfl, by simp [LRs], hv⟩
  | .sl e, [], r, t, vs, h, hv => by simp [decS] at h
  | .sl e, x :: l, r, t, vs, h, hv => by
    simp only [VRL] at hv
    obtain ⟨v, r', rfl, hv1, hr⟩ := hv
    cases x <;> simp only [decS, reduceCtorEq] at h
    case nilsl =>
      simp only [Option.some.injEq, Prod.mk.injEq] at h
      obtain ⟨rfl, rfl⟩ := h
      simp only [VR] at hv1
      subst hv1
      exact ⟨[_], r', rfl, ⟨none, 0, rfl, Nat.le_refl _, .inl rfl⟩, hr⟩
    case fsl e' xs =>
      split at h
      · rename_i he
        subst he
        simp only [Option.some.injEq, Prod.mk.injEq] at h
        obtain ⟨rfl, rfl⟩ := h
        simp only [VR] at hv1
        exact ⟨[_], r', rfl, hv1, hr⟩
      · simp at h
  | .arr n e, l, r, t, vs, h, hv => by cases l <;> simp [decS] at h
  | .pair p q, l, r, t, vs, h, hv => by
    have h' : (match decS p l with
      | some (x, r) => match decS q r with
        | some (y, r') => some (((x, y) : p.T × q.T), r')
        | none => none
      | none => none) = some (t, r) := by
      rw [← h]; cases l <;> simp only [decS] <;> rfl
    split at h'
    · rename_i x1 r1 h1
      split at h'
      · rename_i y1 r2 h2
        simp only [Option.some.injEq, Prod.mk.injEq] at h'
        obtain ⟨rfl, rfl⟩ := h'
        obtain ⟨v1, v2, rfl, g1, g2⟩ := decS_sound p h1 hv
        obtain ⟨v3, v4, rfl, g3, g4⟩ := decS_sound q h2 g2
        exact ⟨v1 ++ v3, v4, by simp, ⟨v1, v3, rfl, g1, g3⟩, g4⟩
      · simp at h'
    · simp at h'
  | .err, [], r, t, vs, h, hv => by simp [decS] at h
  | .err, x :: l, r, t, vs, h, hv => by
    simp only [VRL] at hv
    obtain ⟨v, r', rfl, hv1, hr⟩ := hv
    simp only [decS] at h
    split at h
    · rename_i t' ht
      simp only [Option.some.injEq, Prod.mk.injEq] at h
      obtain ⟨rfl, rfl⟩ := h
      exact ⟨[_], r', rfl, by simp only [LRs]; exact ⟨v, rfl, errA_sound ht hv1⟩, hr⟩
    · simp at h
theorem decS_all {s : Sh} {l : List AV} {t : s.T} {vs : List Value} (h : decS s l = some (t, [])) (hv : VRL E l vs) : LRs E.w E.ok s t vs := by
  obtain ⟨v1, v2, rfl, h1, h2⟩ := decS_sound s h hv
  simp only [VRL] at h2
  subst h2
  simpa using h1
theorem zeroE_sound {e : Sh} {z : List AV} {t : e.T} {vs : List Value} (h : zeroE e z = some t) (hv : VRL E z vs) : LRs E.w E.ok e t vs := by
  unfold zeroE at h
  split at h
  · split at h
    · rename_i t' hd
      simp only [Option.some.injEq] at h
      subst h
      exact decS_all hd hv
    · simp at h
  · split at h
    · rename_i hz
      simp only [Option.some.injEq] at h
      subst h
      obtain ⟨v1, v2, rfl, h1, h2⟩ := zeroS_sound e hz hv
      simp only [VRL] at h2
      subst h2
      simpa using h1
    · simp at h
theorem opAllocS_sound {P : Program} (hs : SimE W0 okIn B us tm ob nt E a) {nm : Nat} (hnm : ¬ us nm) {T : TypeId} {l : List AV} {e : Sh} {x : e.T} (h : zeroT P T = some l) (hz : zeroE e l = some x) :
    ∃ E' z, (Instr.alloc T true (.tuple #[])).run P E.w = .ok z E'.w ∧ Evo W0 okIn B us (usn us nm) E E' [(nm, some (.rows e [x]))] ∧ VR E' (.epr nm e 0 0) z := by
  unfold zeroT at h
  split at h
  · rename_i i hi
    split at h
    · rename_i z hz'
      simp only [Option.some.injEq] at h
      subst h
      have hx := zeroE_sound (E := E) hz (cvals_sound E z.cells.toList)
      obtain ⟨E', hE, hv, hp⟩ := evo_one hs.env hs.lo hnm T (LRs.length e _ _ hx) hx
      refine ⟨E', _, ?_, hv, hp⟩
      rw [hE]
      simp [Instr.alloc, zeroValue, typeInfo, hi, hz', run_newVar]
    · simp at h
  · simp at h
theorem foldl_set (off : Nat) : ∀ (vs : List Value) (k : Nat) (cs : Array Value), off + k + vs.length ≤ cs.size →
    ((vs.zipIdx k).foldl (fun cs (p : Value × Nat) => cs.setIfInBounds (off + p.2) p.1) cs).toList = cs.toList.take (off + k) ++ vs ++ cs.toList.drop (off + k + vs.length)
  | [], k, cs, h => by simp
  | v :: r, k, cs, h => by
    simp only [List.length_cons] at h
    have ih := foldl_set off r (k + 1) (cs.setIfInBounds (off + k) v) (by simp; omega)
    simp only [List.zipIdx_cons, List.foldl_cons, ih, Array.toList_setIfInBounds, List.length_cons]
    have e := list_seg_step cs.toList (off + k) v r (by simp; omega)
    simpa [Nat.add_assoc, Nat.add_comm, Nat.add_left_comm] using e
theorem laid_eq (off : Nat) (x : Value) (cs : Array Value) (h : off + x.cells.size ≤ cs.size) :
    (x.cells.zipIdx.foldl (fun cs (p : Value × Nat) => cs.setIfInBounds (off + p.2) p.1) cs).toList = cs.toList.take off ++ x.cells.toList ++ cs.toList.drop (off + x.cells.size) := by
  have := foldl_set off x.cells.toList 0 cs (by simpa using h)
  simp only [Nat.add_zero, Array.length_toList] at this
  rw [← this]
  congr 1
  rw [← Array.foldl_toList, Array.toList_zipIdx]
theorem setAtA_eq {off : Nat} {vs cells l : List AV} (h : setAtA off vs cells = some l) : off + vs.length ≤ cells.length ∧ l = cells.take off ++ vs ++ cells.drop (off + vs.length) := by
  unfold setAtA at h
  split at h
  · rename_i hb
    simp only [lenA_eq] at hb
    simp only [Option.some.injEq, appA_eq, takeA_eq, dropA_eq, lenA_eq] at h
    exact ⟨Nat.le_of_ble_eq_true hb, by rw [← h]; simp⟩
  · simp at h
theorem setAtA_sound {off : Nat} {vs cells l : List AV} (h : setAtA off vs cells = some l) {xs cs : List Value} (hv : VRL E vs xs) (hc : VRL E cells cs) :
    VRL E l (cs.take off ++ xs ++ cs.drop (off + xs.length)) := by
  obtain ⟨h1, rfl⟩ := setAtA_eq h
  rw [hv.length]
  exact ((hc.take off).append hv).append (hc.drop _)
theorem setAtA_nms {off : Nat} {vs cells l : List AV} (h : setAtA off vs cells = some l) {p : Nat → Prop} (hv : AV.nms p vs) (hc : AV.nms p cells) : AV.nms p l := by
  obtain ⟨h1, rfl⟩ := setAtA_eq h
  exact nms_append (nms_append (nms_take _ hc) hv) (nms_drop _ hc)
def VRP (E : Env) : List (Nat × AV) → List (Nat × Value) → Prop
  | [], vs => vs = []
  | (i, a) :: l, vs => ∃ v r, vs = (i, v) :: r ∧ VR E a v ∧ VRP E l r
def nmp (p : Nat → Prop) : List (Nat × AV) → Prop
  | [] => True
  | (_, a) :: l => a.nm p ∧ nmp p l
theorem fep_sound {α : Type} (hs : SimE W0 okIn B us tm ob nt E a) : ∀ {xs : List (Nat × Operand)} {k : List Prop → List (Nat × AV) → Option α} {r : α}, fep tm xs k = some r →
    ∃ p vs, k p vs = some r ∧ ((∀ q ∈ p, q) → VRP E vs (xs.map fun x => (x.1, a.eval x.2))) ∧ ((∀ q ∈ p, q) → nmp us vs)
  | [], k, r, h => ⟨[], [], h, fun _ => by simp [VRP], fun _ => by simp [nmp]⟩
  | (i, x) :: xs, k, r, h => by
    simp only [fep] at h
    obtain ⟨p, v, h1, h2, h3⟩ := fe_sound hs h
    obtain ⟨q, vs, g1, g2, g3⟩ := fep_sound hs h1
    refine ⟨p ++ q, (i, v) :: vs, g1, fun hq => ?_, fun hq => ⟨h3 fun r hr => hq r (by simp [hr]), g3 fun r hr => hq r (by simp [hr])⟩⟩
    simp only [List.map_cons, VRP]
    exact ⟨_, _, rfl, h2 fun r hr => hq r (by simp [hr]), g2 fun r hr => hq r (by simp [hr])⟩
theorem fillA_sound {place placeM : Nat → Option (Nat × Nat)} (hp : ∀ i x, place i = some x → placeM i = some x) : ∀ {l : List (Nat × AV)} {vs : List (Nat × Value)} {cells l' : List AV} {cs : Array Value},
    fillA place cells l = some l' → VRP E l vs → VRL E cells cs.toList → ∃ cs', Instr.fill placeM cs vs = some cs' ∧ VRL E l' cs'.toList
  | [], vs, cells, l', cs, h, hv, hc => by
    simp only [VRP] at hv
    simp only [fillA, Option.some.injEq] at h
    subst hv; subst h
    exact ⟨cs, by simp [Instr.fill], hc⟩
  | (i, x) :: l, vs, cells, l', cs, h, hv, hc => by
    simp only [VRP] at hv
    obtain ⟨v, r, rfl, hv1, hr⟩ := hv
    unfold fillA at h
    split at h
    · rename_i off size cs1 hpl hcs1
      split at h
      · rename_i cells' hb hset
        obtain ⟨g1, g2, g3⟩ := cellsA_sound hcs1 hv1
        have hlen := g1.length
        have hsz : v.cells.size = size := by
          have := beq_true hb
          rw [lenA_eq] at this
          simp at hlen
          omega
        have hle := (setAtA_eq hset).1
        have hcl := hc.length
        have hsound := setAtA_sound hset g1 hc
        have hbound : off + v.cells.size ≤ cs.size := by simp at hcl hlen; omega
        have heq := laid_eq off v cs hbound
        obtain ⟨cs', hf, hres⟩ := fillA_sound hp (cs := v.cells.zipIdx.foldl (fun cs (p : Value × Nat) => cs.setIfInBounds (off + p.2) p.1) cs) h hr (by rw [heq]; simpa using hsound)
        refine ⟨cs', ?_, hres⟩
        simp only [Instr.fill, hp _ _ hpl]
        rw [if_neg (by simp [hsz]; omega)]
        exact hf
      · simp at h
    · simp at h
theorem fillA_nms {place : Nat → Option (Nat × Nat)} {p : Nat → Prop} (hcl : ∀ (v : AV) (cs : List AV), cellsA v = some cs → v.nm p → AV.nms p cs) : ∀ {l : List (Nat × AV)} {cells l' : List AV}, fillA place cells l = some l' → nmp p l → AV.nms p cells → AV.nms p l'
  | [], cells, l', h, _, hc => by simp only [fillA, Option.some.injEq] at h; exact h ▸ hc
  | (i, x) :: l, cells, l', h, hn, hc => by
    unfold fillA at h
    split at h
    · rename_i off size cs1 hpl hcs1
      split at h
      · rename_i cells' hb hset
        simp only [nmp] at hn
        exact fillA_nms hcl h hn.2 (setAtA_nms hset (hcl _ _ hcs1 hn.1) hc)
      · simp at h
    · simp at h
theorem cellsA_nms {v : AV} {cs : List AV} {p : Nat → Prop} (h : cellsA v = some cs) (hn : v.nm p) : AV.nms p cs := by
  unfold cellsA at h
  split at h
  · split at h
    · simp only [Option.some.injEq] at h; subst h; exact hn
    · simp at h
  · split at h
    · simp only [Option.some.injEq] at h; subst h; exact ⟨hn, trivial⟩
    · simp at h
end
end Go.Tr
namespace Go.Tr
open Go
set_option linter.unusedVariables false
set_option linter.unusedSimpArgs false
section
variable {W0 : WX} {okIn B us : Nat → Prop} {tm : Nat → Option AV} {ob : Nat → Option AO} {nt : Nat} {E : Env} {a : Act}
theorem zeroT_run {P : Program} {T : TypeId} {l : List AV} (h : zeroT P T = some l) (w : World) : ∃ z, (zeroValue T).run P w = .ok z w ∧ l = cvals z.cells.toList := by
  unfold zeroT at h
  split at h
  · rename_i i hi
    split at h
    · rename_i z hz
      simp only [Option.some.injEq] at h
      exact ⟨z, by simp [zeroValue, typeInfo, hi, hz], h.symm⟩
    · simp at h
  · simp at h
theorem run_places {P : Program} (w : World) : ∀ (fs : List Field) (q : List (Nat × Nat)), fldPl P fs = some q →
    (fs.mapM (fun f : Field => (do pure (f.offset, ← sizeOf f.type) : Sem (Nat × Nat)))).run P w = .ok q w
  | [], q, h => by simp only [fldPl, Option.some.injEq] at h; subst h; simp
  | f :: r, q, h => by
    unfold fldPl at h
    split at h
    · rename_i s hs
      split at h
      · rename_i q' hq'
        simp only [Option.some.injEq] at h
        subst h
        have ih := run_places w r q' hq'
        simp only [List.mapM_cons, Sem.run_bind, run_sizeT w hs, Result.andThen_ok, Sem.run_pure, ih]
      · simp at h
    · simp at h
theorem opBuild_sound {P : Program} {T : TypeId} {z l' : List AV} {pl : Nat → Option (Nat × Nat)} {l : List (Nat × AV)} {vs : List (Nat × Value)} (hz : zeroT P T = some z) (hpl : placeT P T = some pl) (h : fillA pl z l = some l')
    (hv : VRP E l vs) (hn : nmp us l) (w : World) : ∃ y, (Instr.build T vs.toArray).run P w = .ok y w ∧ VR E (.agg l') y ∧ (AV.agg l').nm us := by
  obtain ⟨zv, hzr, rfl⟩ := zeroT_run hz w
  have hcv := cvals_sound E zv.cells.toList
  have hnm : AV.nms us l' := fillA_nms (fun v cs => cellsA_nms) h hn (cvals_nm us _)
  unfold placeT at hpl
  split at hpl
  · rename_i fs hT
    split at hpl
    · rename_i q hq
      simp only [Option.some.injEq] at hpl
      subst hpl
      obtain ⟨cs', hf, hr⟩ := fillA_sound (placeM := fun i => q.toArray[i]?) (fun i x hx => by rw [nth_eq] at hx; simpa using hx) h hv hcv
      refine ⟨.agg cs', ?_, ⟨cs'.toList, rfl, hr⟩, hnm⟩
      have hmap : (fs.mapM (fun f : Field => (do pure (f.offset, ← sizeOf f.type) : Sem (Nat × Nat)))).run P w = .ok q.toArray w := by
        rw [Array.mapM_eq_mapM_toList, Sem.run_map, run_places w _ _ hq]
        rfl
      simp only [Instr.build, Sem.run_bind, hzr, Result.andThen_ok, run_underlying hT, hmap, hf, Sem.run_pure]
    · simp at hpl
  · rename_i n e hT
    split at hpl
    · rename_i s hs
      simp only [Option.some.injEq] at hpl
      subst hpl
      obtain ⟨cs', hf, hr⟩ := fillA_sound (placeM := fun i => some (i * s, s)) (fun i x hx => hx) h hv hcv
      refine ⟨.agg cs', ?_, ⟨cs'.toList, rfl, hr⟩, hnm⟩
      simp only [Instr.build, Sem.run_bind, hzr, Result.andThen_ok, run_underlying hT, run_sizeT w hs, hf, Sem.run_pure]
    · simp at hpl
  · simp at hpl
theorem chunk_keep {l v : List Value} {i s j : Nat} (hv : v.length = s) (hle : i * s + s ≤ l.length) (hj : j < i) :
    ((l.take (i * s) ++ v ++ l.drop (i * s + s)).drop (j * s)).take s = (l.drop (j * s)).take s := by
  have h1 : j * s + s ≤ i * s := by
    have := Nat.mul_le_mul_right s (show j + 1 ≤ i by omega)
    rw [Nat.add_mul] at this; omega
  rw [List.append_assoc, List.drop_append_of_le_length (by simp; omega), List.take_append_of_le_length (by simp; omega)]
  rw [List.drop_take, List.take_take]
  congr 1
  omega
theorem chunk_at {l v : List Value} {i s : Nat} (hv : v.length = s) (hle : i * s + s ≤ l.length) :
    ((l.take (i * s) ++ v ++ l.drop (i * s + s)).drop (i * s)).take s = v := by
  have h1 : (l.take (i * s)).length = i * s := by simp; omega
  rw [List.append_assoc, List.drop_append_of_le_length (by omega)]
  have h2 : (l.take (i * s)).drop (i * s) = [] := List.drop_eq_nil_of_le (by omega)
  rw [h2, List.nil_append, List.take_append_of_le_length (by omega)]
  rw [← hv, List.take_length]
theorem litRows_sound {e : Sh} : ∀ {l : List (Nat × AV)} {vs : List (Nat × Value)} {i : Nat} {ts : List e.T} {cs : Array Value}, litRows e i l = some ts → VRP E l vs →
    (i + l.length) * e.size ≤ cs.size → ∃ cs', Instr.fill (fun i => some (i * e.size, e.size)) cs vs = some cs' ∧ cs'.size = cs.size ∧
      (∀ j, j < i → (cs'.toList.drop (j * e.size)).take e.size = (cs.toList.drop (j * e.size)).take e.size) ∧
      ts.length = l.length ∧ ∀ j (h : j < ts.length), LRs E.w E.ok e (ts[j]'h) ((cs'.toList.drop ((i + j) * e.size)).take e.size)
  | [], vs, i, ts, cs, h, hv, hle => by
    simp only [VRP] at hv
    simp only [litRows, Option.some.injEq] at h
    subst hv; subst h
    exact ⟨cs, by simp [Instr.fill], rfl, fun _ _ => rfl, rfl, fun j hj => by simp at hj⟩
  | (k, x) :: l, vs, i, ts, cs, h, hv, hle => by
    simp only [VRP] at hv
    obtain ⟨v, r, rfl, hv1, hr⟩ := hv
    unfold litRows at h
    split at h
    · rename_i cs1 hb hcs1
      have hik := beq_true hb
      subst hik
      split at h
      · rename_i t hdec
        split at h
        · rename_i ts' hts
          simp only [Option.some.injEq] at h
          subst h
          obtain ⟨g1, g2, g3⟩ := cellsA_sound hcs1 hv1
          have hl := decS_all hdec g1
          have hsz : v.cells.size = e.size := by have := LRs.length e _ _ hl; simpa using this
          simp only [List.length_cons] at hle
          have hle1 : i * e.size + e.size ≤ cs.size := by
            have := Nat.mul_le_mul_right e.size (show i + 1 ≤ i + (l.length + 1) by omega)
            rw [Nat.add_mul i 1] at this; omega
          have heq := laid_eq (i * e.size) v cs (by rw [hsz]; exact hle1)
          rw [hsz] at heq
          have hsz1 : (v.cells.zipIdx.foldl (fun cs (p : Value × Nat) => cs.setIfInBounds (i * e.size + p.2) p.1) cs).size = cs.size := by
            rw [← Array.length_toList, heq]
            simp [hsz]
            omega
          obtain ⟨cs', f1, f2, f3, f4, f5⟩ := litRows_sound (i := i + 1) (cs := v.cells.zipIdx.foldl (fun cs (p : Value × Nat) => cs.setIfInBounds (i * e.size + p.2) p.1) cs) hts hr
            (by rw [hsz1, show i + 1 + l.length = i + (l.length + 1) by omega]; exact hle)
          have hvl : v.cells.toList.length = e.size := by simpa using hsz
          refine ⟨cs', ?_, f2.trans hsz1, ?_, by simp [f4], ?_⟩
          · simp only [Instr.fill]
            rw [if_neg (by simp [hsz]; omega)]
            exact f1
          · intro j hj
            rw [f3 j (by omega), heq]
            exact chunk_keep hvl (by simpa using hle1) hj
          · intro j hj
            cases j with
            | zero =>
              simp only [Nat.add_zero, List.getElem_cons_zero]
              rw [f3 i (by omega), heq, chunk_at hvl (by simpa using hle1)]
              exact hl
            | succ j =>
              simp only [List.getElem_cons_succ]
              have := f5 j (by simpa using hj)
              rwa [show i + 1 + j = i + (j + 1) by omega] at this
        · simp at h
      · simp at h
    · simp at h
theorem opBuildSlice_sound {P : Program} (hs : SimE W0 okIn B us tm ob nt E a) {nm : Nat} (hnm : ¬ us nm) {T el : TypeId} {e : Sh} {n : Nat} {l : List (Nat × AV)} {vs : List (Nat × Value)} {ts : List e.T} {z : List AV}
    (hT : P.underlying T = some (.slice el)) (he : shE P el = some e) (hz : zeroT P el = some z) (hn : l.length = n) (hc : n * e.size ≤ 16777216) (h : litRows e 0 l = some ts) (hv : VRP E l vs) :
    ∃ E' y, (Instr.buildSlice T n vs.toArray).run P E.w = .ok y E'.w ∧ Evo W0 okIn B us (usn us nm) E E' [(nm, some (.rows e ts))] ∧ VR E' (.own nm e) y := by
  obtain ⟨zv, hzr, _⟩ := zeroT_run hz E.w
  have hsz := run_sizeT E.w (shE_size he).1
  obtain ⟨zero, hzero⟩ : ∃ zero : Array Value, zero = if n * e.size = 0 then #[] else zv.cells := ⟨_, rfl⟩
  obtain ⟨cs', f1, f2, f3, f4, f5⟩ := litRows_sound (cs := (Array.range (n * e.size)).map (zero[· % zero.size]!)) h hv (by simp [hn])
  have hcs : cs'.size = n * e.size := by simp [f2]
  obtain ⟨E', hE, hev, hvr⟩ := evo_rows hs.env hs.lo hnm (xs := ts) (T := el) (fr := (0, 0)) (cap := n) (push_ext E.w (.cells cs' el)) (push_last _ _) (by simp) rfl rfl rfl (fun i _ => by omega) hcs (by omega)
    (fun j hj => by simpa using f5 j hj)
  refine ⟨E', _, ?_, hev, by rw [f4, hn] at hvr; exact hvr⟩
  rw [hE]
  simp only [Instr.buildSlice, Sem.run_bind, run_underlying hT, Result.andThen_ok, hsz]
  rw [if_neg (by omega)]
  by_cases h0 : n * e.size = 0
  · rw [if_pos h0] at hzero
    subst hzero
    rw [if_pos h0]
    simp only [Sem.run_bind, Sem.run_pure, Result.andThen_ok, f1, newRow, run_newObj]
  · rw [if_neg h0] at hzero
    subst hzero
    rw [if_neg h0]
    simp only [Sem.run_bind, hzr, Sem.run_pure, Result.andThen_ok, f1, newRow, run_newObj]
end
end Go.Tr
