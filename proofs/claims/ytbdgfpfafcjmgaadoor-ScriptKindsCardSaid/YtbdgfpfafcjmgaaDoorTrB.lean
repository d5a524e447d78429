/- The evaluator: what the code of a function comes to over abstract values, as a proposition.
   Conditions: none; definitions. -/
import Derived.Test.YtbdgfpfafcjmgaaDoorTrA
namespace Go.Tr
open Go
set_option linter.unusedVariables false
universe u

/-! ### Forcing: identities that lay a value open. -/

noncomputable def fv0 {α : Sort u} (v : AV) (k : AV → α) : α :=
  match v with
  | .unk => k .unk
  | .junk => k .junk
  | .int a b => k (.int a b)
  | .bool a => k (.bool a)
  | .str a => k (.str a)
  | .nilp => k .nilp
  | .nilsl => k .nilsl
  | .nilif => k .nilif
  | .nilf => k .nilf
  | .fsl a b => k (.fsl a b)
  | .fpt a b c => k (.fpt a b c)
  | .ptr a b => k (.ptr a b)
  | .rsl a b c d => k (.rsl a b c d)
  | .epr a b c d => k (.epr a b c d)
  | .csl a b c => k (.csl a b c)
  | .own a b => k (.own a b)
  | .cpr a b c d => k (.cpr a b c d)
  | .fn a b c => k (.fn a b c)
  | .ifc a b => k (.ifc a b)
  | .agg a => k (.agg a)
  | .arr a b => k (.arr a b)
  | .tup a => k (.tup a)
  | .when a b => k (.when a b)
  | .ite a b c => k (.ite a b c)

noncomputable def fvl {α : Sort u} (l : List AV) : (List AV → α) → α :=
  List.rec (motive := fun _ => (List AV → α) → α) (fun k => k []) (fun a _ ih k => fv0 a fun a' => ih fun r' => k (a' :: r')) l
theorem fvl_nil {α : Sort u} (k : List AV → α) : fvl [] k = k [] := rfl
theorem fvl_cons {α : Sort u} (a : AV) (r : List AV) (k : List AV → α) : fvl (a :: r) k = fv0 a fun a' => fvl r fun r' => k (a' :: r') := rfl

noncomputable def fv {α : Sort u} (v : AV) (k : AV → α) : α :=
  match v with
  | .agg l => fvl l fun l' => k (.agg l')
  | .tup l => fvl l fun l' => k (.tup l')
  | v => fv0 v k

noncomputable def fvls {α : Sort u} (l : List AV) : (List AV → α) → α :=
  List.rec (motive := fun _ => (List AV → α) → α) (fun k => k []) (fun a _ ih k => fv a fun a' => ih fun r' => k (a' :: r')) l
theorem fvls_cons {α : Sort u} (a : AV) (r : List AV) (k : List AV → α) : fvls (a :: r) k = fv a fun a' => fvls r fun r' => k (a' :: r') := rfl

noncomputable def fvd {α : Sort u} (v : AV) (k : AV → α) : α :=
  match v with
  | .tup l => fvls l fun l' => k (.tup l')
  | v => fv v k

/-! ### Look-up. -/

def lkA {α : Type} : List (Nat × α) → Nat → Option α
  | [], _ => none
  | (m, x) :: r, n => match Nat.beq n m with
    | true => some x
    | false => lkA r n

/-- The objects: the newest row of a name counts. -/
def lkO (l : List (Nat × Option AO)) (n : Nat) : Option AO :=
  match lkA l n with
  | some r => r
  | none => none

def nth {α : Type} : List α → Nat → Option α
  | [], _ => none
  | x :: r, n => match n with
    | 0 => some x
    | n + 1 => nth r n

/-- The abstract value of a constant. -/
def cval : Value → AV
  | .int k n => .int k n
  | .bool b => .bool b
  | .string s => .str s.data.toList
  | .pointer none => .nilp
  | .slice none 0 0 => .nilsl
  | .nilIface => .nilif
  | .nilFunc => .nilf
  | _ => .unk

def cvals : List Value → List AV
  | [] => []
  | v :: r => cval v :: cvals r

def opv (tm : Nat → Option AV) : Operand → AV
  | .tmp t => match tm t with
    | some v => v
    | none => .unk
  | .const v => cval v
  | .func f => .fn f [] []
  | .global _ => .unk

abbrev Upd := List (Nat × Option AO)
structure OpR where
  obs : List Prop
  v : AV
  u : Upd

/-- An operand: what is bound to a guard holds only under it. -/
noncomputable def fe {α : Type} (tm : Nat → Option AV) (x : Operand) (k : List Prop → AV → Option α) : Option α :=
  match opv tm x with
  | .when g v => fv v fun v' => k [g = true] v'
  | v => fv v (k [])

noncomputable def fel {α : Type} (tm : Nat → Option AV) (xs : List Operand) (k : List Prop → List AV → Option α) : Option α :=
  match xs with
  | [] => k [] []
  | x :: r => fe tm x fun p v => fel tm r fun q vs => k (p ++ q) (v :: vs)

abbrev Ctx := FuncId → List AV → (Nat → Option AO) → Nat → Option (Prop × AV × Upd)

def leafA : AV → Bool
  | .unk | .agg _ | .arr _ _ | .tup _ | .when _ _ | .ite _ _ _ => false
  | _ => true

def leavesA : List AV → Bool
  | [] => true
  | a :: l => match leafA a with
    | true => leavesA l
    | false => false

/-- The cells of a value. -/
def cellsA (v : AV) : Option (List AV) :=
  match v with
  | .agg l => match leavesA l with
    | true => some l
    | false => none
  | v => match leafA v with
    | true => some [v]
    | false => none

def takeA {α : Type} : Nat → List α → List α
  | 0, _ => []
  | _ + 1, [] => []
  | n + 1, x :: r => x :: takeA n r
def dropA {α : Type} : Nat → List α → List α
  | 0, l => l
  | _ + 1, [] => []
  | n + 1, _ :: r => dropA n r
def lenA {α : Type} : List α → Nat
  | [] => 0
  | _ :: r => lenA r + 1
def appA {α : Type} : List α → List α → List α
  | [], m => m
  | x :: r, m => x :: appA r m

/-- Cells laid over others from an offset on. -/
def setAtA (off : Nat) (vs cells : List AV) : Option (List AV) :=
  match Nat.ble (off + lenA vs) (lenA cells) with
  | true => some (appA (takeA off cells) (appA vs (dropA (off + lenA vs) cells)))
  | false => none

def isAggT (P : Program) (t : TypeId) : Option Bool :=
  match P.underlying t with
  | some (.struct _) => some true
  | some (.array _ _) => some true
  | some _ => some false
  | none => none

def sizeT (P : Program) (t : TypeId) : Option Nat :=
  match P.info? t with
  | some i => some i.size
  | none => none

/-- A part of cells at a type, from an offset on. -/
noncomputable def partA (P : Program) (t : TypeId) (off : Nat) (cells : List AV) : Option AV :=
  match isAggT P t, sizeT P t with
  | some true, some n => match Nat.ble (off + n) (lenA cells) with
    | true => some (.agg (takeA n (dropA off cells)))
    | false => none
  | some false, _ => nth cells off
  | _, _ => none

def enc : (s : Sh) → s.T → List AV
  | .int k, n => [.int k n]
  | .bool, x => [.bool x]
  | .str, x => [.str x]
  | .sl e, xs => [.fsl e xs]
  | .arr _ _, _ => []
  | .unit, _ => []
  | .pair a b, x => appA (enc a (Prod.fst x)) (enc b (Prod.snd x))

/-- Is a shape without arrays in it (so that 'enc' shows all)? -/
def Sh.flat : Sh → Bool
  | .arr _ _ => false
  | .pair a b => match a.flat with
    | true => b.flat
    | false => false
  | _ => true

/-- The closed datum of cells. -/
def decS : (s : Sh) → List AV → Option (s.T × List AV)
  | .int k, .int k' n :: r => if k = k' then some (n, r) else none
  | .bool, .bool x :: r => some (x, r)
  | .str, .str x :: r => some (x, r)
  | .sl _, .nilsl :: r => some (([] : List _), r)
  | .sl e, .fsl e' xs :: r => if h : e' = e then some ((h ▸ xs : List e.T), r) else none
  | .unit, r => some ((), r)
  | .pair a b, l => match decS a l with
    | some (x, r) => match decS b r with
      | some (y, r') => some (((x, y) : a.T × b.T), r')
      | none => none
    | none => none
  | _, _ => none

/-- The shape of a type. -/
def shT (P : Program) : Nat → TypeId → Option Sh
  | 0, _ => none
  | d + 1, t => match P.underlying t with
    | some (.int k) => some (.int k)
    | some .bool => some .bool
    | some .string => some .str
    | some (.slice e) => match shT P d e with
      | some s => some (.sl s)
      | none => none
    | some (.array n e) => match shT P d e with
      | some s => match Nat.ble n 16 with
        | true => arrSh s n
        | false => some (.arr n s)
      | none => none
    | some (.struct fs) => fldSh (shT P d) fs.toList
    | _ => none
 where
  arrSh (s : Sh) : Nat → Option Sh
    | 0 => none
    | 1 => some s
    | n + 1 => match arrSh s n with
      | some r => some (.pair s r)
      | none => none
  fldSh (sh : TypeId → Option Sh) : List Field → Option Sh
    | [] => none
    | [f] => sh f.type
    | f :: r => match sh f.type with
      | some s => match fldSh sh r with
        | some q => some (.pair s q)
        | none => none
      | none => none

def elemT (P : Program) (t : TypeId) : Option TypeId :=
  match P.underlying t with
  | some (.slice e) => some e
  | some (.array _ e) => some e
  | _ => none

def zeroT (P : Program) (t : TypeId) : Option (List AV) :=
  match P.info? t with
  | some i => match i.zero with
    | some z => some (cvals z.cells.toList)
    | none => none
  | none => none

def fld (P : Program) (t : TypeId) (f : Nat) : Option Field :=
  match P.underlying t with
  | some (.struct fs) => nth fs.toList f
  | _ => none

/-! ### Operations. -/

def bandI (k : IntKind) (a b : Int) : Int := (BitVec.ofInt k.bits a &&& BitVec.ofInt k.bits b).toNat
def borI (k : IntKind) (a b : Int) : Int := (BitVec.ofInt k.bits a ||| BitVec.ofInt k.bits b).toNat
def bxorI (k : IntKind) (a b : Int) : Int := (BitVec.ofInt k.bits a ^^^ BitVec.ofInt k.bits b).toNat
def bandnI (k : IntKind) (a b : Int) : Int := (BitVec.ofInt k.bits a &&& ~~~ BitVec.ofInt k.bits b).toNat
def shlI (k : IntKind) (a b : Int) : Int := k.wrap (a * 2 ^ (min b.toNat k.bits))
def shrI (k : IntKind) (a b : Int) : Int := a.fdiv (2 ^ (min b.toNat k.bits))

def binI (op : BinOp) (k : IntKind) (a b : Int) : Option (List Prop × AV) :=
  match op with
  | .add => some ([], .int k (k.wrap (a + b)))
  | .sub => some ([], .int k (k.wrap (a - b)))
  | .mul => some ([], .int k (k.wrap (a * b)))
  | .quo => some ([¬ b = 0], .int k (k.wrap (a.tdiv b)))
  | .rem => some ([¬ b = 0], .int k (a.tmod b))
  | .and => some ([], .int k (k.wrap (bandI k a b)))
  | .or => some ([], .int k (k.wrap (borI k a b)))
  | .xor => some ([], .int k (k.wrap (bxorI k a b)))
  | .andNot => some ([], .int k (k.wrap (bandnI k a b)))
  | .eql => some ([], .bool (a == b))
  | .neq => some ([], .bool (a != b))
  | .lss => some ([], .bool (decide (a < b)))
  | .leq => some ([], .bool (decide (a ≤ b)))
  | .gtr => some ([], .bool (decide (a > b)))
  | .geq => some ([], .bool (decide (a ≥ b)))
  | _ => none

def binS (op : BinOp) (a b : List UInt8) : Option (List Prop × AV) :=
  match op with
  | .add => some ([((a.length + b.length : Nat) : Int) ≤ 9223372036854775807], .str (a ++ b))
  | .eql => some ([], .bool (a == b))
  | .neq => some ([], .bool (!(a == b)))
  | .lss => some ([], .bool (Op.bytesLess a b))
  | .leq => some ([], .bool (Op.bytesLess a b || (a == b)))
  | .gtr => some ([], .bool (!(Op.bytesLess a b || (a == b))))
  | .geq => some ([], .bool (!(Op.bytesLess a b)))
  | _ => none

/-- The shape of an element's type, if it has as many cells as the type. -/
def shE (P : Program) (t : TypeId) : Option Sh :=
  match shT P 16 t, sizeT P t with
  | some e, some s => match Nat.beq s e.size with
    | true => some e
    | false => none
  | _, _ => none

/-- The same, where the type's zero value is known, and has as many cells. -/
def shZ (P : Program) (t : TypeId) : Option Sh :=
  match shE P t, zeroT P t with
  | some e, some z => match Nat.beq (lenA z) e.size with
    | true => some e
    | false => none
  | _, _ => none

/-- Equality of values of a type of plain leaves. -/
noncomputable def eqFieldsA (P : Program) (f : TypeId → AV → AV → Option Bool) (xs ys : List AV) : List Field → Option Bool
  | [] => some true
  | g :: r => match g.name == "_" with
    | true => none
    | false => match partA P g.type g.offset xs, partA P g.type g.offset ys with
      | some x, some y => match f g.type x y with
        | some p => match r with
          | [] => some p
          | _ => match eqFieldsA P f xs ys r with
            | some q => some (p && q)
            | none => none
        | none => none
      | _, _ => none
noncomputable def eqItemsA (P : Program) (f : AV → AV → Option Bool) (e : TypeId) (s : Nat) (xs ys : List AV) : List Nat → Option Bool
  | [] => some true
  | i :: r => match partA P e (i * s) xs, partA P e (i * s) ys with
    | some x, some y => match f x y with
      | some p => match r with
        | [] => some p
        | _ => match eqItemsA P f e s xs ys r with
          | some q => some (p && q)
          | none => none
      | none => none
    | _, _ => none
noncomputable def eqA (P : Program) : Nat → TypeId → AV → AV → Option Bool
  | 0, _, _, _ => none
  | d + 1, t, x, y => match P.underlying t with
    | some (.int _) => match x, y with
      | .int k a, .int k' b => if k = k' then some (a == b) else none
      | _, _ => none
    | some .bool => match x, y with
      | .bool a, .bool b => some (a == b)
      | _, _ => none
    | some .string => match x, y with
      | .str a, .str b => some (a == b)
      | _, _ => none
    | some (.array n e) => match x, y, sizeT P e with
      | .agg xs, .agg ys, some s => eqItemsA P (eqA P d e) e s xs ys (List.range n)
      | _, _, _ => none
    | some (.struct fs) => match x, y, P.stoodInHeld t with
      | .agg xs, .agg ys, false => eqFieldsA P (eqA P d) xs ys fs.toList
      | _, _, _ => none
    | _ => none

def notIf (op : BinOp) (b : Bool) : Option AV :=
  match op with
  | .eql => some (.bool b)
  | .neq => some (.bool (!b))
  | _ => none

noncomputable def opBin (P : Program) (op : BinOp) (T : TypeId) (x y : AV) : Option (List Prop × AV) :=
  match x, y with
  | .int k a, .int k' b => match op with
    | .shl => some ([0 ≤ b], .int k (shlI k a b))
    | .shr => some ([0 ≤ b], .int k (shrI k a b))
    | op => if k = k' then binI op k a b else none
  | .str a, .str b => binS op a b
  | .bool a, .bool b => match P.underlying T, notIf op (a == b) with
    | some .bool, some v => some ([], v)
    | _, _ => none
  | .agg a, .agg b => match P.eqGuardType P.depth T, eqA P 8 T (.agg a) (.agg b) with
    | false, some q => match notIf op q with
      | some v => some ([], v)
      | none => none
    | _, _ => none
  | x, y => match P.underlying T with
    | some (.pointer _) => match x, y with
      | .nilp, .nilp => (notIf op true).map fun v => ([], v)
      | .nilp, .fpt _ _ _ => (notIf op false).map fun v => ([], v)
      | .fpt _ _ _, .nilp => (notIf op false).map fun v => ([], v)
      | _, _ => none
    | some (.interface _) => match x, y with
      | .ifc _ _, .nilif => (notIf op false).map fun v => ([], v)
      | .nilif, .ifc _ _ => (notIf op false).map fun v => ([], v)
      | _, _ => none
    | _ => none

def sliceA (lo hi : Nat) {α : Type} (l : List α) : List α := (l.drop lo).take (hi - lo)

/-- Is a name's object there? -/
def lvA (ob : Nat → Option AO) (n : Nat) : Bool :=
  match ob n with
  | some _ => true
  | none => false

/-- Is what an address or a slice leads to there? -/
def liveA (ob : Nat → Option AO) (x : AV) : Bool :=
  match x with
  | .ptr n _ => lvA ob n
  | .rsl n _ _ _ => lvA ob n
  | .epr n _ _ _ => lvA ob n
  | .csl n _ _ => lvA ob n
  | .own n _ => lvA ob n
  | .cpr n _ _ _ => lvA ob n
  | _ => true

def opIndexAddr (P : Program) (T : TypeId) (cst : Bool) (ob : Nat → Option AO) (x i : AV) : Option (List Prop × AV) :=
  match i with
  | .int _ i => match P.underlying T with
    | some (.slice el) => match sizeT P el with
      | some s => match x with
        | .fsl e xs => match Nat.beq s e.size with
          | true => some ([0 ≤ i ∧ i < (xs.length : Int)], .fpt e (xs.getD i.toNat e.dflt) 0)
          | false => none
        | .rsl n e off len => match Nat.beq s e.size with
          | true => some ([0 ≤ i ∧ i < (len : Int)], .epr n e (off + i.toNat) 0)
          | false => none
        | .csl n off len => some ([0 ≤ i ∧ i < (len : Int)], .ptr n (off + i.toNat * s))
        | .own n e => match Nat.beq s e.size with
          | true => match ob n with
            | some (.rows e' xs) => some ([0 ≤ i ∧ i < (xs.length : Int)], .epr n e i.toNat 0)
            | some (.frz e' xs) => some ([0 ≤ i ∧ i < (xs.length : Int)], .epr n e i.toNat 0)
            | _ => none
          | false => none
        | _ => none
      | none => none
    | some (.array m el) => match sizeT P el with
      | some s => match x with
        | .ptr n off => match cst with
          | true => some ([0 ≤ i ∧ i < (m : Int)], .ptr n (off + i.toNat * s))
          | false => match Nat.beq s 1 with
            | true => some ([0 ≤ i ∧ i < (m : Int)], .cpr n off i.toNat m)
            | false => none
        | .fpt e x off => some ([0 ≤ i ∧ i < (m : Int)], .fpt e x (off + i.toNat * s))
        | .epr n e j off => some ([0 ≤ i ∧ i < (m : Int)], .epr n e j (off + i.toNat * s))
        | _ => none
      | none => none
    | _ => none
  | _ => none

/-- Cells of one kind. -/
def homI : List AV → Option (IntKind × List Int)
  | [] => none
  | a :: r => match a with
    | .int k n => match r with
      | [] => some (k, [n])
      | _ :: _ => match homI r with
        | some (k', ns) => if k = k' then some (k, n :: ns) else none
        | none => none
    | _ => none
def homS : List AV → Option (List (List UInt8))
  | [] => some []
  | a :: r => match a with
    | .str s => match homS r with
      | some ss => some (s :: ss)
      | none => none
    | _ => none
/-- One of them, by a number that need not be known. -/
def homV (l : List AV) (i : Nat) : Option AV :=
  match homI l with
  | some (k, ns) => some (.int k (ns.getD i 0))
  | none => match homS l with
    | some ss => some (.str (ss.getD i []))
    | none => none
def intsA (k : IntKind) (ns : List Int) : Nat → Nat → List AV
  | _, 0 => []
  | j, m + 1 => .int k (ns.getD j 0) :: intsA k ns (j + 1) m
def strsA (ss : List (List UInt8)) : Nat → Nat → List AV
  | _, 0 => []
  | j, m + 1 => .str (ss.getD j []) :: strsA ss (j + 1) m
/-- Cells of one kind with one of them turned. -/
def homW (l : List AV) (i m : Nat) (v : AV) : Option (List AV) :=
  match homI l with
  | some (k, ns) => match v with
    | .int k' x => if k = k' then some (intsA k (ns.set i x) 0 m) else none
    | _ => none
  | none => match homS l with
    | some ss => match v with
      | .str x => some (strsA (ss.set i x) 0 m)
      | _ => none
    | none => none

def isCst (o : Operand) : Bool :=
  match o with
  | .const _ => true
  | _ => false

noncomputable def opIndex (P : Program) (T : TypeId) (cst : Bool) (x i : AV) : Option (List Prop × AV) :=
  match i with
  | .int _ i => match P.underlying T with
    | some .string => match x with
      | .str l => some ([0 ≤ i ∧ i < (l.length : Int)], .int .u8 ((l.getD i.toNat 0).toNat : Int))
      | _ => none
    | some (.array m e) => match sizeT P e with
      | some s => match x with
        | .agg l => match cst with
          | true => match partA P e (i.toNat * s) l with
            | some v => some ([0 ≤ i ∧ i < (m : Int)], v)
            | none => none
          | false => match Nat.beq s 1, isAggT P e, Nat.beq (lenA l) m with
            | true, some false, true => match homV l i.toNat with
              | some v => some ([0 ≤ i ∧ i < (m : Int)], v)
              | none => none
            | _, _, _ => none
        | _ => none
      | none => none
    | _ => none
  | _ => none

def opFieldAddr (P : Program) (T : TypeId) (x : AV) (f : Nat) : Option AV :=
  match fld P T f with
  | some f => match sizeT P f.type with
    | some (_ + 1) => match x with
      | .ptr n off => some (.ptr n (off + f.offset))
      | .fpt e x off => some (.fpt e x (off + f.offset))
      | .epr n e i off => some (.epr n e i (off + f.offset))
      | _ => none
    | _ => none
  | none => none

/-- What is loaded. -/
noncomputable def opLoad (P : Program) (T : TypeId) (ob : Nat → Option AO) (x : AV) : Option (List Prop × AV) :=
  match x with
  | .ptr n off => match ob n with
    | some (.cells l) => match partA P T off l with
      | some v => some ([], v)
      | none => none
    | some (.fcl l) => match partA P T off l with
      | some v => some ([], v)
      | none => none
    | _ => none
  | .cpr n off i m => match ob n, isAggT P T with
    | some (.cells l), some false => match Nat.ble (off + m) (lenA l) with
      | true => match homV (takeA m (dropA off l)) i with
        | some v => some ([], v)
        | none => none
      | false => none
    | _, _ => none
  | .fpt e x off => match e.flat with
    | true => match partA P T off (enc e x) with
      | some v => some ([], v)
      | none => none
    | false => none
  | .epr n e i off => match e.flat with
    | true => match ob n with
      | some (.rows e' xs) => if h : e' = e then
          match partA P T off (enc e' (xs.getD i e'.dflt)) with
          | some v => some ([i < xs.length], v)
          | none => none
        else none
      | some (.frz e' xs) => if h : e' = e then
          match partA P T off (enc e' (xs.getD i e'.dflt)) with
          | some v => some ([i < xs.length], v)
          | none => none
        else none
      | _ => none
    | false => none
  | _ => none

/-- What is stored. -/
noncomputable def opStore (P : Program) (T : TypeId) (ob : Nat → Option AO) (x v : AV) : Option (List Prop × Upd) :=
  match cellsA v, sizeT P T with
  | some cs, some sz => match Nat.beq (lenA cs) sz with
    | true => match x with
      | .ptr n off => match ob n with
        | some (.cells l) => match setAtA off cs l with
          | some l' => fvl l' fun l' => some ([], [(n, some (.cells l'))])
          | none => none
        | _ => none
      | .cpr n off i m => match ob n, cs with
        | some (.cells l), [c] => match Nat.ble (off + m) (lenA l) with
          | true => match homW (takeA m (dropA off l)) i m c with
            | some l' => match setAtA off l' l with
              | some l'' => fvl l'' fun l'' => some ([], [(n, some (.cells l''))])
              | none => none
            | none => none
          | false => none
        | _, _ => none
      | .epr n e i off => match e.flat with
        | true => match ob n with
          | some (.rows e' xs) => if e' = e then
              match setAtA off cs (enc e' (xs.getD i e'.dflt)) with
              | some l' => match decS e' l' with
                | some (t, []) => some ([i < xs.length], [(n, some (.rows e' (xs.set i t)))])
                | _ => none
              | none => none
            else none
          | _ => none
        | false => none
      | _ => none
    | false => none
  | _, _ => none

/-- The rows of a literal: each part at its place. -/
def litRows (e : Sh) (i : Nat) : List (Nat × AV) → Option (List e.T)
  | [] => some []
  | (j, v) :: r => match Nat.beq i j, cellsA v with
    | true, some cs => match decS e cs with
      | some (t, []) => match litRows e (i + 1) r with
        | some ts => some (t :: ts)
        | none => none
      | _ => none
    | _, _ => none

/-- Cells filled at places. -/
noncomputable def fillA (place : Nat → Option (Nat × Nat)) (cells : List AV) : List (Nat × AV) → Option (List AV)
  | [] => some cells
  | (i, v) :: r => match place i, cellsA v with
    | some (off, size), some cs => match Nat.beq (lenA cs) size, setAtA off cs cells with
      | true, some cells' => fillA place cells' r
      | _, _ => none
    | _, _ => none

def fldPl (P : Program) : List Field → Option (List (Nat × Nat))
  | [] => some []
  | f :: r => match sizeT P f.type with
    | some s => match fldPl P r with
      | some q => some ((f.offset, s) :: q)
      | none => none
    | none => none

def placeT (P : Program) (t : TypeId) : Option (Nat → Option (Nat × Nat)) :=
  match P.underlying t with
  | some (.struct fs) => match fldPl P fs.toList with
    | some q => some (nth q)
    | none => none
  | some (.array _ e) => match sizeT P e with
    | some s => some fun i => some (i * s, s)
    | none => none
  | _ => none

noncomputable def fep {α : Type} (tm : Nat → Option AV) (xs : List (Nat × Operand)) (k : List Prop → List (Nat × AV) → Option α) : Option α :=
  match xs with
  | [] => k [] []
  | (i, x) :: r => fe tm x fun p v => fep tm r fun q vs => k (p ++ q) ((i, v) :: vs)

/-- Bytes of numbers. -/
def toBytes (xs : List Int) : List UInt8 := xs.map fun z => UInt8.ofNat z.toNat
def ofBytes (l : List UInt8) : List Int := l.map fun b => (b.toNat : Int)

def idxA (i : Nat) : List AV → List (Nat × AV)
  | [] => []
  | v :: r => (i, v) :: idxA (i + 1) r

/-- What a slice reads as, at an element's shape. -/
def readA (ob : Nat → Option AO) (e : Sh) (x : AV) : Option (List e.T × List Prop) :=
  match x with
  | .fsl e' xs => if h : e' = e then some (h ▸ xs, []) else none
  | .nilsl => some ([], [])
  | .rsl n e' off len => match ob n with
    | some (.rows e'' xs) => if h : e'' = e then if e' = e then some (sliceA off (off + len) (h ▸ xs), [off + len ≤ xs.length]) else none else none
    | some (.frz e'' xs) => if h : e'' = e then if e' = e then some (sliceA off (off + len) (h ▸ xs), [off + len ≤ xs.length]) else none else none
    | _ => none
  | .own n e' => match ob n with
    | some (.rows e'' xs) => if h : e'' = e then if e' = e then some (h ▸ xs, []) else none else none
    | some (.frz e'' xs) => if h : e'' = e then if e' = e then some (h ▸ xs, []) else none else none
    | _ => none
  | .csl n off len => match ob n with
    | some (.cells l) => match Nat.ble (off + len) (lenA l), leavesA (takeA len (dropA off l)), litRows e 0 (idxA 0 (takeA len (dropA off l))) with
      | true, true, some ts => some (ts, [])
      | _, _, _ => none
    | some (.fcl l) => match Nat.ble (off + len) (lenA l), leavesA (takeA len (dropA off l)), litRows e 0 (idxA 0 (takeA len (dropA off l))) with
      | true, true, some ts => some (ts, [])
      | _, _, _ => none
    | _ => none
  | _ => none

noncomputable def opConvert (P : Program) (src dst : TypeId) (ob : Nat → Option AO) (nm : Nat) (x : AV) : Option (List Prop × AV × Upd) :=
  match P.underlying src, P.underlying dst with
  | some (.int _), some (.int k) => match x with
    | .int _ n => some ([], .int k (k.wrap n), [])
    | _ => none
  | some .string, some .string => match x with
    | .str l => some ([], .str l, [])
    | _ => none
  | some .string, some (.slice e) => match P.underlying e, x with
    | some (.int .u8), .str l => some ([], .own nm (.int .u8), [(nm, some (.rows (.int .u8) (ofBytes l)))])
    | _, _ => none
  | some (.slice e), some .string => match P.underlying e with
    | some (.int .u8) => match readA ob (.int .u8) x with
      | some (xs, obs) => some (obs, .str (toBytes xs), [])
      | none => none
    | _ => none
  | _, _ => none

noncomputable def optI {α : Type} (tm : Nat → Option AV) (x : Option Operand) (d : Int) (k : List Prop → Int → Option α) : Option α :=
  match x with
  | none => k [] d
  | some x => fe tm x fun p v => match v with
    | .int _ n => k p n
    | _ => none

noncomputable def opSlice (P : Program) (T : TypeId) (tm : Nat → Option AV) (ob : Nat → Option AO) (x : AV) (lo hi mx : Option Operand) (nm : Nat) : Option (List Prop × AV × Upd) :=
  match mx with
  | some m => match hi with
    | some h => match P.underlying T with
      | some (.slice el) => match x, sizeT P el with
        | .fsl e xs, some _ => optI tm lo 0 fun p a => optI tm (some h) 0 fun q b => optI tm (some m) 0 fun r c =>
            some (appA p (appA q (appA r [a = 0 ∧ b = 0 ∧ c = 0])), .own nm e, [(nm, some (.rows e []))])
        | _, _ => none
      | _ => none
    | none => none
  | none => match P.underlying T with
    | some .string => match x with
      | .str l => optI tm lo 0 fun p a => optI tm hi l.length fun q b =>
          some (appA p (appA q [0 ≤ a ∧ a ≤ b ∧ b ≤ (l.length : Int)]), .str (sliceA a.toNat b.toNat l), [])
      | _ => none
    | some (.slice el) => match sizeT P el with
      | some s => match x with
        | .fsl e xs => match Nat.beq s e.size with
          | true => optI tm lo 0 fun p a => optI tm hi xs.length fun q b =>
            some (appA p (appA q [0 ≤ a ∧ a ≤ b ∧ b ≤ (xs.length : Int)]), .fsl e (sliceA a.toNat b.toNat xs), [])
          | false => none
        | .nilsl => optI tm lo 0 fun p a => optI tm hi 0 fun q b =>
            some (appA p (appA q [a = 0 ∧ b = 0]), .nilsl, [])
        | .rsl n e off len => match Nat.beq s e.size with
          | true => optI tm lo 0 fun p a => optI tm hi len fun q b =>
            some (appA p (appA q [0 ≤ a ∧ a ≤ b ∧ b ≤ (len : Int)]), .rsl n e (off + a.toNat) (b.toNat - a.toNat), [])
          | false => none
        | .own n e => match Nat.beq s e.size with
          | true => match ob n with
            | some (.rows e' xs) => optI tm lo 0 fun p a => optI tm hi xs.length fun q b =>
              some (appA p (appA q [0 ≤ a ∧ a ≤ b ∧ b ≤ (xs.length : Int)]), .rsl n e a.toNat (b.toNat - a.toNat), [])
            | some (.frz e' xs) => optI tm lo 0 fun p a => optI tm hi xs.length fun q b =>
              some (appA p (appA q [0 ≤ a ∧ a ≤ b ∧ b ≤ (xs.length : Int)]), .rsl n e a.toNat (b.toNat - a.toNat), [])
            | _ => none
          | false => none
        | .csl n off len => optI tm lo 0 fun p a => optI tm hi len fun q b =>
            some (appA p (appA q [0 ≤ a ∧ a ≤ b ∧ b ≤ (len : Int)]), .csl n (off + a.toNat * s) (b.toNat - a.toNat), [])
        | _ => none
      | none => none
    | some (.array m el) => match sizeT P el with
      | some s => match x with
        | .ptr n off => optI tm lo 0 fun p a => optI tm hi m fun q b =>
            some (appA p (appA q [0 ≤ a ∧ a ≤ b ∧ b ≤ (m : Int)]), .csl n (off + a.toNat * s) (b.toNat - a.toNat), [])
        | _ => none
      | none => none
    | _ => none

/-- So many elements of so many bytes lie in memory. -/
def room (b n : Nat) : Prop :=
  match b with
  | 0 => n ≤ 140737488355328
  | b + 1 => n * Nat.succ b ≤ 140737488355328
/-- How many bytes may lie in a row that grows. -/
def roomy (P : Program) (e : TypeId) (n : Nat) : Prop :=
  match P.info? e with
  | some i => room i.bytes n
  | none => False

/-- What is appended. -/
def apSrc (P : Program) (T : TypeId) (ob : Nat → Option AO) (e : Sh) (y : AV) : Option (List e.T × List Prop) :=
  match P.underlying T with
  | some .string => match y, e with
    | .str l, .int .u8 => some (ofBytes l, [])
    | _, _ => none
  | some (.slice _) => readA ob e y
  | _ => none

/-- A slice to which is appended: its object, or none; its rows. -/
def opAppend (P : Program) (T T' : TypeId) (ob : Nat → Option AO) (nm : Nat) (x y : AV) : Option (List Prop × AV × Upd) :=
  match P.underlying T with
  | some (.slice el) => match shZ P el with
    | none => none
    | some e => match apSrc P T' ob e y with
      | none => none
      | some (ys, obs) => match x with
        | .nilsl => some (appA obs [roomy P el ys.length], .own nm e, [(nm, some (.rows e ys))])
        | .own n e' => match ob n with
          | some (.rows e'' xs) => if h : e'' = e then
              some (appA obs [roomy P el (xs.length + ys.length)], .own nm e,
                [(n, none), (nm, some (.rows e ((h ▸ xs : List e.T) ++ ys)))])
            else none
          | _ => none
        | .rsl n e' off len => match ob n with
          | some (.rows e'' xs) => if h : e'' = e then
              some (appA obs [off = 0 ∧ len = xs.length ∧ roomy P el (xs.length + ys.length)], .own nm e,
                [(n, none), (nm, some (.rows e ((h ▸ xs : List e.T) ++ ys)))])
            else none
          | _ => none
        | _ => none
  | _ => none

def opLen (P : Program) (T : TypeId) (ob : Nat → Option AO) (x : AV) : Option AV :=
  match P.underlying T with
  | some .string => match x with
    | .str l => some (.int .i64 (l.length : Int))
    | _ => none
  | some (.array n _) => some (.int .i64 (n : Int))
  | some (.slice _) => match x with
    | .fsl _ xs => some (.int .i64 (xs.length : Int))
    | .nilsl => some (.int .i64 0)
    | .rsl _ _ _ len => some (.int .i64 (len : Int))
    | .csl _ _ len => some (.int .i64 (len : Int))
    | .own n _ => match ob n with
      | some (.rows _ xs) => some (.int .i64 (xs.length : Int))
      | some (.frz _ xs) => some (.int .i64 (xs.length : Int))
      | _ => none
    | _ => none
  | _ => none

def minmaxA (mx : Bool) : AV → List AV → Option AV
  | v, [] => some v
  | .int k a, .int _ b :: r => minmaxA mx (.int k (match mx with | true => if b > a then b else a | false => if b < a then b else a)) r
  | _, _ => none

/-- An array's closed datum out of the first rows. -/
def arrV (e : Sh) (xs : List e.T) : (n : Nat) → (i : Nat) → (s : Sh) → Option s.T
  | 0, _, _ => none
  | 1, i, s => if h : e = s then some (h ▸ xs.getD i e.dflt) else none
  | n + 1, i, .pair a b => if h : e = a then match arrV e xs n (i + 1) b with
      | some r => some ((h ▸ xs.getD i e.dflt, r) : a.T × b.T)
      | none => none
    else none
  | _, _, _ => none

def pickA (ca cb : Operand) (t : Bool) (a b : AV) : Option (List Prop × AV) :=
  let (pa, a) := strip t true a
  let (pb, b) := strip t false b
  match a, b with
  | .bool x, .bool y => match ca, cb with
    | .const _, _ => match x with
      | true => some (pb, .bool (t || y))
      | false => some (pb, .bool (!t && y))
    | _, .const _ => match y with
      | false => some (pa, .bool (t && x))
      | true => some (pa, .bool (!t || x))
    | _, _ => some (appA pa pb, .bool (cond t x y))
  | _, _ => none
 where
  strip (t want : Bool) (v : AV) : List Prop × AV := match v with
    | .when g v => ([t = want → g = true], v)
    | v => ([], v)

/-- An operation: what has to hold, what it yields, what turns. -/
noncomputable def opA (P : Program) (C : Ctx) (tm : Nat → Option AV) (ob : Nat → Option AO) (nm : Nat) (o : Oper) : Option OpR :=
  match o.op with
  | .move x => fe tm x fun p v => some ⟨p, v, []⟩
  | .assign x => fe tm x fun p v => some ⟨p, v, []⟩
  | .pick c a b => fe tm c fun p c => match c with
    | .bool t => match pickA a b t (opv tm a) (opv tm b) with
      | some (q, v) => some ⟨appA p q, v, []⟩
      | none => none
    | _ => none
  | .alloc T => match zeroT P T with
    | some l => match leavesA l with
      | true => fvl l fun l => some ⟨[], .ptr nm 0, [(nm, some (.cells l))]⟩
      | false => none
    | none => none
  | .box T x => fe tm x fun p v => match cellsA v with
    | some l => some ⟨p, .ptr nm 0, [(nm, some (.cells l))]⟩
    | none => none
  | .build T parts => match zeroT P T, placeT P T with
    | some z, some pl => fep tm parts.toList fun p l => match fillA pl z l with
      | some l' => fvl l' fun l' => some ⟨p, .agg l', []⟩
      | none => none
    | _, _ => none
  | .buildSlice T n parts => match P.underlying T with
    | some (.slice el) => match shE P el with
      | some e => fep tm parts.toList fun p l => match Nat.beq (lenA l) n, Nat.ble (n * e.size) 16777216, litRows e 0 l with
        | true, true, some ts => match zeroT P el with
          | some _ => some ⟨p, .own nm e, [(nm, some (.rows e ts))]⟩
          | none => none
        | _, _, _ => none
      | none => none
    | _ => none
  | .load T x => fe tm x fun p v => match opLoad P T ob v with
    | some (q, v) => fv v fun v => some ⟨appA p q, v, []⟩
    | none => none
  | .store T x y => fe tm x fun p v => fe tm y fun p' v' => match opStore P T ob v v' with
    | some (q, u) => some ⟨appA p (appA p' q), .unk, u⟩
    | none => none
  | .nilCheck x => fe tm x fun p v => match liveA ob v with
    | true => match v with
      | .ptr _ _ => some ⟨p, v, []⟩
      | .fpt _ _ _ => some ⟨p, v, []⟩
      | .epr _ _ _ _ => some ⟨p, v, []⟩
      | .fn _ _ _ => some ⟨p, v, []⟩
      | _ => none
    | false => none
  | .binOp op T x y _ => fe tm x fun p v => fe tm y fun p' v' => match opBin P op T v v' with
    | some (q, w) => some ⟨appA p (appA p' q), w, []⟩
    | none => none
  | .unOp op _ x => fe tm x fun p v => match op, v with
    | .not, .bool b => some ⟨p, .bool (!b), []⟩
    | .neg, .int k n => some ⟨p, .int k (k.wrap (0 - n)), []⟩
    | .xor, .int k n => some ⟨p, .int k (k.wrap (bxorI k (if k.signed then -1 else k.max) n)), []⟩
    | _, _ => none
  | .convert src dst x => fe tm x fun p v => match opConvert P src dst ob nm v with
    | some (q, w, u) => some ⟨appA p q, w, u⟩
    | none => none
  | .sliceToArrayPointer arr x => fe tm x fun p v => match v, P.underlying arr, shT P 16 arr with
    | .fsl e xs, some (.array n _), some s => match arrV e xs n 0 s with
      | some t => some ⟨appA p [n ≤ xs.length], .fpt s t 0, []⟩
      | none => none
    | _, _, _ => none
  | .makeInterface T x => fe tm x fun p v => match P.underlying T with
    | some (.interface _) => none
    | some _ => some ⟨p, .ifc T v, []⟩
    | none => none
  | .makeFunc fn first cap => match fn with
    | .func f => fel tm first.toList fun p x => fel tm cap.toList fun q y => some ⟨appA p q, .fn f x y, []⟩
    | _ => none
  | .makeSlice T l c => fe tm l fun p a => fe tm c fun q b => match a, b, P.underlying T with
    | .int _ n, .int _ m, some (.slice el) => match shE P el, zeroT P el with
      | some e, some z => match decS e z with
        | some (t, []) => some ⟨appA p (appA q [0 ≤ n ∧ n ≤ m ∧ m < 9223372036854775808 ∧ roomy P el m.toNat]), .own nm e, [(nm, some (.rows e (List.replicate n.toNat t)))]⟩
        | _ => none
      | _, _ => none
    | _, _, _ => none
  | .slice T x lo hi mx => fe tm x fun p v => match liveA ob v, opSlice P T tm ob v lo hi mx nm with
    | true, some (q, w, u) => some ⟨appA p q, w, u⟩
    | _, _ => none
  | .fieldAddr T x f => fe tm x fun p v => match liveA ob v, opFieldAddr P T v f with
    | true, some w => some ⟨p, w, []⟩
    | _, _ => none
  | .field T x f => fe tm x fun p v => match v, fld P T f with
    | .agg l, some f => match partA P f.type f.offset l with
      | some w => fv w fun w => some ⟨p, w, []⟩
      | none => none
    | _, _ => none
  | .indexAddr T x i => fe tm x fun p v => fe tm i fun q j => match liveA ob v, opIndexAddr P T (isCst i) ob v j with
    | true, some (r, w) => some ⟨appA p (appA q r), w, []⟩
    | _, _ => none
  | .index T x i => fe tm x fun p v => fe tm i fun q j => match opIndex P T (isCst i) v j with
    | some (r, w) => fv w fun w => some ⟨appA p (appA q r), w, []⟩
    | none => none
  | .extract x i => fe tm x fun p v => match v with
    | .tup l => match nth l i with
      | some w => fv w fun w => some ⟨p, w, []⟩
      | none => none
    | _ => none
  | .call c => match c.callee with
    | .value f => fe tm f fun p fv' => fel tm c.args.toList fun q args => match fv' with
      | .fn F first cap => match C F (appA first (appA args cap)) ob nm with
        | some (r, v, u) => fv v fun v => some ⟨appA p (appA q [r]), v, u⟩
        | none => none
      | _ => none
    | .builtin .len => match c.args.toList, c.argTypes.toList with
      | [x], [T] => fe tm x fun p v => match liveA ob v, opLen P T ob v with
        | true, some w => some ⟨p, w, []⟩
        | _, _ => none
      | _, _ => none
    | .builtin .append => match c.args.toList, c.argTypes.toList with
      | [x, y], [T, T'] => fe tm x fun p v => fe tm y fun p' v' => match opAppend P T T' ob nm v v' with
        | some (q, w, u) => some ⟨appA p (appA p' q), w, u⟩
        | none => none
      | _, _ => none
    | .builtin .max => fel tm c.args.toList fun p l => match l with
      | v :: r => match minmaxA true v r with
        | some w => some ⟨p, w, []⟩
        | none => none
      | [] => none
    | .builtin .min => fel tm c.args.toList fun p l => match l with
      | v :: r => match minmaxA false v r with
        | some w => some ⟨p, w, []⟩
        | none => none
      | [] => none
    | _ => none
  | _ => none

/-! ### Regions and code. -/

structure Ga where
  tmps : List (Nat × AV)
  objs : Upd
  next : Nat
  nt : Nat

/-- A number laid open. -/
def frcN {α : Sort u} (n : Nat) (k : Nat → α) : α :=
  match n with
  | 0 => k 0
  | n + 1 => k (Nat.succ n)

noncomputable def appK {α : Sort u} (l m : Upd) : (Upd → α) → α :=
  List.rec (motive := fun _ => (Upd → α) → α) (fun k => k m) (fun x _ ih k => ih fun q => k (x :: q)) l
theorem appK_nil {α : Sort u} (m : Upd) (k : Upd → α) : appK [] m k = k m := rfl
theorem appK_cons {α : Sort u} (x : Nat × Option AO) (r m : Upd) (k : Upd → α) : appK (x :: r) m k = appK r m fun q => k (x :: q) := rfl

/-- A state behind an operation, laid open. -/
noncomputable def Ga.app {α : Sort u} (g : Ga) (d : Option Nat) (v : AV) (u : Upd) (k : Ga → α) : α :=
  match g with
  | ⟨tm, ob, nx, nt⟩ => appK u ob fun ob' => match d with
    | some d => k ⟨(d, v) :: tm, ob', nx, nt⟩
    | none => k ⟨tm, ob', nx, nt⟩

/-- The rows that count, laid open; 's' has those that are there already. -/
noncomputable def frcT {α : Sort u} (s : Nat) (l : List (Nat × AV)) : (List (Nat × AV) → α) → α :=
  List.rec (motive := fun _ => Nat → (List (Nat × AV) → α) → α) (fun _ k => k [])
    (fun x _ ih s k => match x with
      | (n, v) => match Nat.beq (Nat.land (Nat.shiftRight s n) 1) 1 with
        | true => ih s k
        | false => fv v fun v' => ih (Nat.lor s (Nat.shiftLeft 1 n)) fun q => k ((n, v') :: q)) l s
theorem frcT_cons {α : Sort u} (s n : Nat) (v : AV) (r : List (Nat × AV)) (k : List (Nat × AV) → α) : frcT s ((n, v) :: r) k =
    match Nat.beq (Nat.land (Nat.shiftRight s n) 1) 1 with
    | true => frcT s r k
    | false => fv v fun v' => frcT (Nat.lor s (Nat.shiftLeft 1 n)) r fun q => k ((n, v') :: q) := rfl

noncomputable def frcO {α : Sort u} (o : AO) (k : AO → α) : α :=
  match o with
  | .cells l => fvl l fun l' => k (.cells l')
  | .rows e xs => k (.rows e xs)
  | .frz e xs => k (.frz e xs)
  | .fcl l => fvl l fun l' => k (.fcl l')

noncomputable def frcU {α : Sort u} (s : Nat) (l : Upd) : (Upd → α) → α :=
  List.rec (motive := fun _ => Nat → (Upd → α) → α) (fun _ k => k [])
    (fun x _ ih s k => match x with
      | (n, o) => match Nat.beq (Nat.land (Nat.shiftRight s n) 1) 1 with
        | true => ih s k
        | false => frcN n fun n' => match o with
          | none => ih (Nat.lor s (Nat.shiftLeft 1 n')) k
          | some o => frcO o fun o' => ih (Nat.lor s (Nat.shiftLeft 1 n')) fun q => k ((n', some o') :: q)) l s
theorem frcU_cons {α : Sort u} (s n : Nat) (o : Option AO) (r : Upd) (k : Upd → α) : frcU s ((n, o) :: r) k =
    match Nat.beq (Nat.land (Nat.shiftRight s n) 1) 1 with
    | true => frcU s r k
    | false => frcN n fun n' => match o with
      | none => frcU (Nat.lor s (Nat.shiftLeft 1 n')) r k
      | some o => frcO o fun o' => frcU (Nat.lor s (Nat.shiftLeft 1 n')) r fun q => k ((n', some o') :: q) := rfl

/-- A state laid open, without rows that do not count. -/
noncomputable def Ga.frc {α : Sort u} (g : Ga) (k : Ga → α) : α :=
  match g with
  | ⟨tm, ob, nx, nt⟩ => frcT 0 tm fun tm' => frcU 0 ob fun ob' => frcN nx fun nx' => k ⟨tm', ob', nx', nt⟩

/-- What is left to be shown. -/
structure Ob (p : Prop) : Prop where
  out : p

/-- The same, at the end. -/
structure Obe (p : Prop) : Prop where
  out : p

/-- The same, of a loop's round. -/
structure Obl (p : Prop) : Prop where
  out : p

noncomputable def evObs (l : List Prop) : Prop → Prop :=
  List.rec (motive := fun _ => Prop → Prop) (fun q => q) (fun p _ ih q => Ob p ∧ ih q) l
theorem evObs_nil (q : Prop) : evObs [] q = q := rfl
theorem evObs_cons (p : Prop) (r : List Prop) (q : Prop) : evObs (p :: r) q = (Ob p ∧ evObs r q) := rfl
noncomputable def evObsC (c : Bool) (l : List Prop) : Prop → Prop :=
  List.rec (motive := fun _ => Prop → Prop) (fun q => q) (fun p _ ih q => (c = true → Ob p) ∧ ih q) l
theorem evObsC_nil (c : Bool) (q : Prop) : evObsC c [] q = q := rfl
theorem evObsC_cons (c : Bool) (p : Prop) (r : List Prop) (q : Prop) : evObsC c (p :: r) q = ((c = true → Ob p) ∧ evObsC c r q) := rfl

/-- An operation's guard: none; or the condition under which it is carried out. -/
def gcA (ops : List Oper) (tm : Nat → Option AV) (o : Oper) : Option (Option Bool) :=
  match o.guard with
  | none => some none
  | some (j, want) => match nth ops j with
    | some oj => match oj.dst with
      | some t => match tm t with
        | some (.bool b) => match want with
          | true => some (some b)
          | false => some (some (!b))
        | some (.when g (.bool b)) => match want with
          | true => some (some (g && b))
          | false => some (some (g && !b))
        | _ => none
      | none => none
    | none => none

/-- A call's answer that hangs on a condition parts the way. -/
noncomputable def splA (v : AV) (k : AV → Prop) : Prop :=
  match v with
  | .ite c a b => (c = true → fv a k) ∧ (c = false → fv b k)
  | v => k v

def dstOk (nt : Nat) : Option Nat → Bool
  | some d => Nat.blt d nt
  | none => true

/-- One operation of a region, as it was met: what it yielded, what turned, its operands' values. -/
structure Tr where
  o : Oper
  v : AV
  u : Upd
  a : List AV

def opvs (tm : Nat → Option AV) : List Operand → List AV
  | [] => []
  | x :: r => opv tm x :: opvs tm r

/-- One operation of a region; 'ih' is what comes behind. -/
noncomputable def evOp (P : Program) (C : Ctx) (all : List Oper) (o : Oper) (ih : Nat → Ga → (List Tr → Ga → Prop) → Prop) (i : Nat) (g : Ga) (k : List Tr → Ga → Prop) : Prop :=
  match g with
  | ⟨tm, ob, nx, nt⟩ => match dstOk nt o.dst with
    | false => False
    | true => match gcA all (lkA tm) o with
      | none => False
      | some none => frcN (nx + i) fun nm => match opA P C (lkA tm) (lkO ob) nm o with
        | none => False
        | some ⟨obs, v, u⟩ => evObs obs (splA v fun v' => Ga.app ⟨tm, ob, nx, nt⟩ o.dst v' u fun g1 => ih (i + 1) g1 fun tr g' => k (⟨o, v', u, opvs (lkA tm) o.op.operands.toList⟩ :: tr) g')
      | some (some c) => frcN (nx + i) fun nm => match opA P C (lkA tm) (lkO ob) nm o with
        | some ⟨obs, v, []⟩ => evObsC c obs (Ga.app ⟨tm, ob, nx, nt⟩ o.dst (.when c v) [] fun g1 => ih (i + 1) g1 fun tr g' => k (⟨o, .when c v, [], opvs (lkA tm) o.op.operands.toList⟩ :: tr) g')
        | _ => False

noncomputable def evOps (P : Program) (C : Ctx) (all : List Oper) (i : Nat) (ops : List Oper) : Ga → (List Tr → Ga → Prop) → Prop :=
  List.rec (motive := fun _ => Nat → Ga → (List Tr → Ga → Prop) → Prop)
    (fun i g k => match g with
      | ⟨tm, ob, nx, nt⟩ => k [] ⟨tm, ob, nx + i, nt⟩)
    (fun o _ ih i g k => evOp P C all o ih i g k) ops i
theorem evOps_cons (P : Program) (C : Ctx) (all : List Oper) (i : Nat) (o : Oper) (r : List Oper) (g : Ga) (k : List Tr → Ga → Prop) :
    evOps P C all i (o :: r) g k = evOp P C all o (fun i => evOps P C all i r) i g k := rfl

/-! ### A region whose order is open: what was traced does not hang on the order. -/

def nthN : List Nat → Nat → Nat
  | [], _ => 0
  | x :: r, n => match n with
    | 0 => x
    | n + 1 => nthN r n

/-- Which operations come ahead of one, by its edges: bits. -/
def maskA (acc : List Nat) : List Edge → Nat → Nat
  | [], m => m
  | e :: r, m => match Region.binds .any e with
    | true => maskA acc r (Nat.lor (Nat.lor m (Nat.shiftLeft 1 e.on)) (nthN acc e.on))
    | false => maskA acc r m

def masksA : List Oper → List Nat → List Nat
  | [], acc => acc
  | o :: r, acc => masksA r (appA acc [maskA acc o.after.toList 0])

/-- Do all edges lead back? -/
def backA (i : Nat) : List Edge → Bool
  | [] => true
  | e :: r => match Region.binds .any e, Nat.blt e.on i with
    | true, false => false
    | _, _ => backA i r

def memN (n : Nat) : List Nat → Bool
  | [] => false
  | m :: r => match Nat.beq n m with
    | true => true
    | false => memN n r

def tmpsOf : List Operand → List Nat
  | [] => []
  | .tmp t :: r => t :: tmpsOf r
  | _ :: r => tmpsOf r

/-- The slots at which an operation looks. -/
def looksA (all : List Oper) (o : Oper) : List Nat :=
  match o.guard with
  | none => tmpsOf o.op.operands.toList
  | some (j, _) => match nth all j with
    | some oj => match oj.dst with
      | some t => t :: tmpsOf o.op.operands.toList
      | none => tmpsOf o.op.operands.toList
    | none => tmpsOf o.op.operands.toList

mutual
/-- Is a name in an abstract value? -/
def AV.has (n : Nat) : AV → Bool
  | .ptr m _ => Nat.beq n m
  | .rsl m _ _ _ => Nat.beq n m
  | .epr m _ _ _ => Nat.beq n m
  | .csl m _ _ => Nat.beq n m
  | .own m _ => Nat.beq n m
  | .cpr m _ _ _ => Nat.beq n m
  | .fn _ x y => AV.hass n x || AV.hass n y
  | .ifc _ a => AV.has n a
  | .agg l => AV.hass n l
  | .tup l => AV.hass n l
  | .when _ a => AV.has n a
  | .ite _ a b => AV.has n a || AV.has n b
  | _ => false
def AV.hass (n : Nat) : List AV → Bool
  | [] => false
  | a :: l => AV.has n a || AV.hass n l
end

def touchA (u : Upd) (n : Nat) : Bool :=
  match lkA u n with
  | some _ => true
  | none => false

def anyU (u : Upd) (p : Nat → Bool) : Bool :=
  match u with
  | [] => false
  | (n, _) :: r => p n || anyU r p

/-- Does what y lays meet what x looks at, or lays? -/
def confA (all : List Oper) (x y : Tr) : Bool :=
  (match y.o.dst with
    | some d => memN d (looksA all x.o) || (match x.o.dst with
      | some d' => Nat.beq d d'
      | none => false)
    | none => false) ||
  anyU y.u fun n => AV.hass n x.a || touchA x.u n

/-- Row j of the check: all ahead of it are before it by its edges, or have nothing to do with it. -/
def chkRow (all : List Oper) (m : Nat) (y : Tr) : Nat → List Tr → Bool
  | _, [] => true
  | i, x :: r => (Nat.testBit m i || !(confA all x y || confA all y x)) && chkRow all m y (i + 1) r

def chkRows (all : List Oper) : List Nat → List Tr → List Tr → Nat → Bool
  | m :: ms, y :: ys, seen, j => backA j y.o.after.toList && chkRow all m y 0 seen && chkRows all ms ys (appA seen [y]) (j + 1)
  | _, [], _, _ => true
  | [], _ :: _, _, _ => false

def chkA (ops : List Oper) (tr : List Tr) : Bool := chkRows ops (masksA ops []) tr [] 0

end Go.Tr
