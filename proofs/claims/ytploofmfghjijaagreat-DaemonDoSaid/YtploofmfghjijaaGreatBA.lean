/- Abstract values for the model's values: closed data by shapes, objects by names; what an abstract value says of a value in a world. The evaluator: what the code of a function comes to over abstract values, as a proposition. What abstract values and objects say stays true where the world, and what the names mean, go on. Operations that turn nothing: what the evaluator says of them is what the model does. More operations that turn nothing: addresses, slices, parts, loads. Loads. Operations that make objects, and stores. Literals of arrays, structs and slices; made slices; texts as bytes. Structs, arrays and slices as literals; made slices; conversions. Conditions: none but those that each theorem states. -/
import Derived.Orders
import Derived.Laws.Sem
import Derived.Laws.Entries
import Derived.ChangeKeysEq
import Derived.Laws.Cells
import Derived.Laws.CopyRow
namespace Go.Tr
open Go
set_option linter.unusedVariables false
inductive kc where
 | nil | num (t:TypeId) (k:IntKind) (n:Int) | at' (t:TypeId) (n:Int) (e:kc) | xW (t:TypeId) (s:List UInt8) (e:kc) | any (t:TypeId)
inductive Sh where
 | int (k:IntKind) | bool | str | sl (e:Sh) | arr (n:Nat) (e:Sh) | unit | pair (x y:Sh) | err | pt (e:Sh)
 deriving DecidableEq
@[reducible] def Sh.T:Sh->Type
 | .int _=>Int
 | .bool=>Bool
 | .str=>List UInt8
 | .sl e=>List (Sh.T e)
 | .arr _ e=>List (Sh.T e)
 | .unit=>Unit
 | .pair a b=>Sh.T a×Sh.T b
 | .err=>kc
 | .pt e=>Sh.T e
def Sh.size:Sh->Nat
 | .int _ | .bool | .str | .sl _ | .err | .pt _=>1
 | .arr n e=>n*e.size
 | .unit=>0
 | .pair a b=>a.size+b.size
def Sh.ft:(s:Sh)->s.T
 | .int _=>(0:Int)
 | .bool=>false
 | .str=>([]:List UInt8)
 | .sl _=>([]:List _)
 | .arr n e=>List.replicate n e.ft
 | .unit=>()
 | .pair a b=>(a.ft,b.ft)
 | .err=>kc.nil
 | .pt e=>e.ft
inductive AV where
 | mG | pQ
 | int (k:IntKind) (n:Int)
 | bool (b:Bool)
 | str (l:List UInt8)
 | jS | nilsl | nilif | nV
 | fsl (e:Sh) (xs:List e.T)
 | dq (e:Sh) (x:e.T) (off:Nat)
 | ptr (n off:Nat)
 | rsl (n:Nat) (e:Sh) (off len:Nat)
 | epr (n:Nat) (e:Sh) (i off:Nat)
 | csl (n off len:Nat)
 | own (n:Nat) (e:Sh)
 | cpr (n off i m:Nat)
 | fn (f:FuncId) (first cap:List AV)
 | ifc (t:TypeId) (v:AV)
 | agg (l:List AV)
 | arr (e:Sh) (x:e.T)
 | wsl (n:Nat) (e:Sh) (i at' m:Nat) (s:Sh) (off len:Nat)
 | mpr (n:Nat)
 | fG (l:List AV)
 | when (g:Bool) (v:AV)
 | ite (c:Bool) (x y:AV)
 | er (t:kc)
inductive AO where
 | cells (l:List AV)
 | rows (e:Sh) (xs:List e.T)
 | gR (e:Sh) (xs:List e.T)
 | hM (l:List AV)
 | mp (k:IntKind) (e:Sh) (l:List (Int×e.T))
structure Loc where
 base:Option Addr
 cap:Nat
 own:Bool
 len:Nat
structure WX extends World where
 m0:Nat->Option Loc
structure Env where
 w:World
 mu:Nat->Option Loc
 ok:Nat->Prop
def eL:Value->Prop
 | .agg _ | .tuple _=>False
 | _=>True
def Row(w:World)(b o:Nat)(cs:List Value):Prop:=∀ j (h:j<cs.length),w.cell? ⟨b,o+j,none⟩=some cs[j]
def eT(w:World)(ok:Nat->Prop):kc->Value->Prop
 | .nil,v=>v=.nilIface
 | .num t k n,v=>v=.iface t (.int k n)
 | .at' t n e,v=>∃ b x,v=.iface t (.pointer (some ⟨b,0,none⟩))/\ok b/\Row w b 0 [.int .i64 n,x]/\eT w ok e x
 | .xW t s e,v=>∃ b x,v=.iface t (.pointer (some ⟨b,0,none⟩))/\ok b/\Row w b 0 [.string ⟨s.toArray⟩,x]/\eT w ok e x
 | .any t,v=>∃ x,v=.iface t x
def aN(w:World)(ok:Nat->Prop):(s:Sh)->s.T->List Value->Prop
 | .int k,n,vs=>vs=[.int k n]
 | .bool,b,vs=>vs=[.bool b]
 | .str,l,vs=>vs=[.string ⟨l.toArray⟩]
 | .sl e,xs,vs=>∃ base cap,vs=[.slice base (List.length xs) cap]/\List.length xs<=cap/\
   (List.length xs=0\/∃ b o,base=some ⟨b,o,none⟩/\ok b/\∀ i (h:i<List.length xs),∃ cs,cs.length=e.size/\Row w b (o+i*e.size) cs/\aN w ok e (xs[i]'h) cs)
 | .arr n e,xs,vs=>List.length xs=n/\vs.length=n*e.size/\∀ i (h:i<List.length xs),aN w ok e (xs[i]'h) ((vs.drop (i*e.size)).take e.size)
 | .unit,_,vs=>vs=[]
 | .pair a b,x,vs=>∃ v1 v2,vs=v1++v2/\aN w ok a (Prod.fst x) v1/\aN w ok b (Prod.snd x) v2
 | .err,t,vs=>∃ v,vs=[v]/\eT w ok t v
 | .pt e,x,vs=>∃ b o cs,vs=[.pointer (some ⟨b,o,none⟩)]/\ok b/\cs.length=e.size/\Row w b o cs/\aN w ok e x cs
mutual
def VR(E:Env):AV->Value->Prop
 | .mG,_=>True
 | .pQ,v=>eL v
 | .int k n,v=>v=.int k n
 | .bool b,v=>v=.bool b
 | .str l,v=>v=.string ⟨l.toArray⟩
 | .jS,v=>v=.pointer none
 | .nilsl,v=>v=.slice none 0 0
 | .nilif,v=>v=.nilIface
 | .nV,v=>v=.nilFunc
 | .fsl e xs,v=>aN E.w E.ok (.sl e) xs [v]
 | .dq e x off,v=>∃ b o cs,v=.pointer (some ⟨b,o+off,none⟩)/\E.ok b/\cs.length=e.size/\Row E.w b o cs/\aN E.w E.ok e x cs
 | .ptr n off,v=>eL v/\∀ L,E.mu n=some L->∃ b,L.base=some ⟨b,0,none⟩/\v=.pointer (some ⟨b,off,none⟩)
 | .rsl n e off len,v=>eL v/\∀ L,E.mu n=some L->∃ base,v=.slice base len (L.cap-off)/\off+len<=L.cap/\
   (off=0->base=L.base)/\(off<L.cap->base=L.base.map (·.add (off*e.size)))
 | .epr n e i off,v=>eL v/\∀ L,E.mu n=some L->∃ b,L.base=some ⟨b,0,none⟩/\v=.pointer (some ⟨b,i*e.size+off,none⟩)
 | .csl n off len,v=>eL v/\∀ L,E.mu n=some L->∃ b o cap,L.base=some ⟨b,0,none⟩/\v=.slice (some ⟨b,o,none⟩) len cap/\len<=cap/\(0<len->o=off)
 | .own n e,v=>eL v/\∀ L,E.mu n=some L->v=.slice L.base L.len L.cap
 | .cpr n off i m,v=>i<m/\eL v/\∀ L,E.mu n=some L->∃ b,L.base=some ⟨b,0,none⟩/\v=.pointer (some ⟨b,off+i,none⟩)
 | .fn f x y,v=>∃ p q:List Value,v=.func (.func f) p.toArray q.toArray/\aR E x p/\aR E y q
 | .ifc t a,v=>∃ x,v=.iface t x/\VR E a x
 | .agg l,v=>∃ x:List Value,v=.agg x.toArray/\aR E l x
 | .arr e y,v=>∃ x:List Value,v=.agg x.toArray/\aN E.w E.ok e y x
 | .wsl n e i at' m s off len,v=>eL v/\∀ L,E.mu n=some L->∃ b o,L.base=some ⟨b,0,none⟩/\v=.slice (some ⟨b,o,none⟩) len (m-off)/\off+len<=m/\(0<len->o=i*e.size+at'+off*s.size)
 | .mpr n,v=>eL v/\∀ L,E.mu n=some L->∃ b,L.base=some ⟨b,0,none⟩/\v=.map (some b)
 | .fG l,v=>∃ x:List Value,v=.tuple x.toArray/\aR E l x
 | .when g a,v=>(g=true->VR E a v)/\(g=false->v=undef)
 | .ite c a b,v=>(c=true->VR E a v)/\(c=false->VR E b v)
 | .er t,v=>eT E.w E.ok t v
def aR(E:Env):List AV->List Value->Prop
 | [],vs=>vs=[]
 | a::l,vs=>∃ v r,vs=v::r/\VR E a v/\aR E l r
end
mutual
/-- The names in an abstract value are zFU zFV. -/
def AV.nm(p:Nat->Prop):AV->Prop
 | .ptr n _ | .rsl n _ _ _ | .epr n _ _ _ | .csl n _ _ | .own n _ | .cpr n _ _ _ | .wsl n _ _ _ _ _ _ _ | .mpr n=>p n
 | .fn _ x y=>AV.cI p x/\AV.cI p y
 | .ifc _ a=>AV.nm p a
 | .agg l | .fG l=>AV.cI p l
 | .when g a=>g=true->AV.nm p a
 | .ite _ a b=>AV.nm p a/\AV.nm p b
 | _=>True
def AV.cI(p:Nat->Prop):List AV->Prop
 | []=>True
 | a::l=>AV.nm p a/\AV.cI p l
end
def AO.nm(p:Nat->Prop):AO->Prop
 | .cells l=>AV.cI p l
 | .hM l=>AV.cI p l
 | _=>True
def cV(E:Env)(n b:Nat):Prop:=∃ L,E.mu n=some L/\L.own=true/\L.base=some ⟨b,0,none⟩
def G1(fr:Nat×Nat)(n:Nat):Prop:=∀ i,i<n->¬ (fr.1<=i/\i<fr.2)
def lq(w:World)(ok:Nat->Prop)(k:IntKind)(e:Sh):List (Int×e.T)->List MapEntry->Prop
 | [],ms=>ms=[]
 | p::l,ms=>∃ m r,ms=m::r/\m.key=.int k p.1/\aN w ok e p.2 [m.val]/\lq w ok k e l r
def eO(E:Env)(n:Nat):AO->Prop
 | .cells l=>∃ b cs T fr,E.mu n=some ⟨some ⟨b,0,none⟩,1,true,0⟩/\E.w.heap[b]? =some (.cells cs T fr)/\G1 fr cs.size/\aR E l cs.toList
 | .rows e xs=>∃ L,E.mu n=some L/\L.len=xs.length/\
   ((L.cap=0/\xs.length=0/\L.own=false)\/
    ∃ b cs T fr,L.base=some ⟨b,0,none⟩/\L.own=true/\E.w.heap[b]? =some (.cells cs T fr)/\cs.size=L.cap*e.size/\xs.length<=L.cap/\G1 fr cs.size/\
     ∀ i (h:i<xs.length),aN E.w E.ok e (xs[i]'h) ((cs.toList.drop (i*e.size)).take e.size))
 | .gR e xs=>∃ L,E.mu n=some L/\L.len=xs.length/\L.own=false/\(L.cap=0\/∃ b,L.base=some ⟨b,0,none⟩)/\aN E.w E.ok (.sl e) xs [.slice L.base xs.length L.cap]
 | .hM l=>∃ b cs T fr,E.mu n=some ⟨some ⟨b,0,none⟩,1,false,0⟩/\E.ok b/\E.w.heap[b]? =some (.cells cs T fr)/\aR E l cs.toList
 | .mp k e l=>∃ b es c,E.mu n=some ⟨some ⟨b,0,none⟩,1,true,0⟩/\E.w.heap[b]? =some (.map es c)/\lq E.w E.ok k e l es.toList
universe u
noncomputable def Ml{α:Sort u}(v:AV)(k:AV->α):α:=
 match v with
 | .mG=>k .mG
 | .pQ=>k .pQ
 | .int a b=>k (.int a b)
 | .bool a=>k (.bool a)
 | .str a=>k (.str a)
 | .jS=>k .jS
 | .nilsl=>k .nilsl
 | .nilif=>k .nilif
 | .nV=>k .nV
 | .fsl a b=>k (.fsl a b)
 | .dq a b c=>k (.dq a b c)
 | .ptr a b=>k (.ptr a b)
 | .rsl a b c d=>k (.rsl a b c d)
 | .epr a b c d=>k (.epr a b c d)
 | .csl a b c=>k (.csl a b c)
 | .own a b=>k (.own a b)
 | .cpr a b c d=>k (.cpr a b c d)
 | .fn a b c=>k (.fn a b c)
 | .ifc a b=>k (.ifc a b)
 | .agg a=>k (.agg a)
 | .arr a b=>k (.arr a b)
 | .wsl a b c d e f g h=>k (.wsl a b c d e f g h)
 | .mpr a=>k (.mpr a)
 | .fG a=>k (.fG a)
 | .when a b=>k (.when a b)
 | .ite a b c=>k (.ite a b c)
 | .er a=>k (.er a)
noncomputable def tB{α:Sort u}(l:List AV):(List AV->α)->α:=
 List.rec (motive:=fun _=>(List AV->α)->α) (fun k=>k []) (fun a _ ih k=>Ml a fun a'=>ih fun r'=>k (a'::r')) l
theorem zl5{α:Sort u}(a:AV)(r:List AV)(k:List AV->α):tB (a::r) k=Ml a fun a'=>tB r fun r'=>k (a'::r'):=rfl
noncomputable def fv{α:Sort u}(v:AV)(k:AV->α):α:=
 match v with
 | .agg l=>tB l fun l'=>k (.agg l')
 | .fG l=>tB l fun l'=>k (.fG l')
 | v=>Ml v k
def aQ{α:Type}:List (Nat×α)->Nat->Option α
 | [],_=>none
 | (m,x)::r,n=>match Nat.beq n m with
  | true=>some x
  | false=>aQ r n
def dP(l:List (Nat×Option AO))(n:Nat):Option AO:=
 match aQ l n with
 | some r=>r
 | none=>none
def nth{α:Type}:List α->Nat->Option α
 | [],_=>none
 | x::r,n=>match n with
  | 0=>some x
  | n+1=>nth r n
def vZ:Value->AV
 | .int k n=>.int k n
 | .bool b=>.bool b
 | .string s=>.str s.data.toList
 | .pointer none=>.jS
 | .slice none 0 0=>.nilsl
 | .nilIface=>.nilif
 | .nilFunc=>.nV
 | _=>.mG
def xX:List Value->List AV
 | []=>[]
 | v::r=>vZ v::xX r
def pR(v:Value):AV:=
 match v with
 | .agg xs=>.agg (xX xs.toList)
 | v=>vZ v
def tC:List Value->List AV
 | []=>[]
 | v::r=>pR v::tC r
def fc(tm:Nat->Option AV):Operand->AV
 | .tmp t=>match tm t with
  | some v=>v
  | none=>.mG
 | .const v=>pR v
 | .func f=>.fn f [] []
 | .global _=>.mG
abbrev cx:=List (Nat×Option AO)
structure Ya where
 eU:List Prop
 v:AV
 u:cx
noncomputable def fe{α:Type}(tm:Nat->Option AV)(x:Operand)(k:List Prop->AV->Option α):Option α:=
 match fc tm x with
 | .when g v=>fv v fun v'=>k [g=true] v'
 | v=>fv v (k [])
noncomputable def pS{α:Type}(tm:Nat->Option AV)(xs:List Operand)(k:List Prop->List AV->Option α):Option α:=
 match xs with
 | []=>k [] []
 | x::r=>fe tm x fun p v=>pS tm r fun q vs=>k (p++q) (v::vs)
abbrev Ctx:=FuncId->List AV->(Nat->Option AO)->Nat->Option (Prop×AV×cx)
def G2:AV->Bool
 | .mG | .agg _ | .arr _ _ | .fG _ | .when _ _ | .ite _ _ _=>false
 | _=>true
def xY:List AV->Bool
 | []=>true
 | a::l=>match G2 a with
  | true=>xY l
  | false=>false
def uN(v:AV):Option (List AV):=
 match v with
 | .agg l=>match xY l with
  | true=>some l
  | false=>none
 | v=>match G2 v with
  | true=>some [v]
  | false=>none
def qF{α:Type}:Nat->List α->List α
 | 0,_=>[]
 | _+1,[]=>[]
 | n+1,x::r=>x::qF n r
def qG{α:Type}:Nat->List α->List α
 | 0,l=>l
 | _+1,[]=>[]
 | n+1,_::r=>qG n r
def iP{α:Type}:List α->Nat
 | []=>0
 | _::r=>iP r+1
def bQ{α:Type}:List α->List α->List α
 | [],m=>m
 | x::r,m=>x::bQ r m
def xZ(off:Nat)(vs cells:List AV):Option (List AV):=
 match Nat.ble (off+iP vs) (iP cells) with
 | true=>some (bQ (qF off cells) (bQ vs (qG (off+iP vs) cells)))
 | false=>none
def nk(P:Program)(t:TypeId):Option Bool:=
 match P.underlying t with
 | some (.struct _)=>some true
 | some (.array _ _)=>some true
 | some _=>some false
 | none=>none
def iA(P:Program)(t:TypeId):Option Nat:=
 match P.info? t with
 | some i=>some i.size
 | none=>none
noncomputable def kG(P:Program)(t:TypeId)(off:Nat)(cells:List AV):Option AV:=
 match nk P t,iA P t with
 | some true,some n=>match Nat.ble (off+n) (iP cells) with
  | true=>some (.agg (qF n (qG off cells)))
  | false=>none
 | some false,_=>nth cells off
 | _,_=>none
def enc:(s:Sh)->s.T->List AV
 | .int k,n=>[.int k n]
 | .bool,x=>[.bool x]
 | .str,x=>[.str x]
 | .sl e,xs=>[.fsl e xs]
 | .arr _ _,_=>[]
 | .unit,_=>[]
 | .pair a b,x=>bQ (enc a (Prod.fst x)) (enc b (Prod.snd x))
 | .err,x=>[.er x]
 | .pt e,x=>[.dq e x 0]
def Sh.flat:Sh->Bool
 | .arr _ _=>false
 | .pair a b=>match a.flat with
  | true=>b.flat
  | false=>false
 | _=>true
def Ah(v:AV):Option kc:=
 match v with
 | .er t=>some t
 | .nilif=>some .nil
 | .ifc T a=>match a with
  | .int k n=>some (.num T k n)
  | _=>none
 | _=>none
def QJ(t:kc):Bool:=
 match t with
 | .nil=>true
 | _=>false
def iB:(s:Sh)->List AV->Option (s.T×List AV)
 | .int k,.int k' n::r=>if k=k' then some (n,r) else none
 | .bool,.bool x::r=>some (x,r)
 | .str,.str x::r=>some (x,r)
 | .sl _,.nilsl::r=>some (([]:List _),r)
 | .sl e,.fsl e' xs::r=>if h:e'=e then some ((h▸xs:List e.T),r) else none
 | .unit,r=>some ((),r)
 | .pair a b,l=>match iB a l with
  | some (x,r)=>match iB b r with
   | some (y,r')=>some (((x,y):a.T×b.T),r')
   | none=>none
  | none=>none
 | .err,v::r=>match Ah v with
  | some t=>some (t,r)
  | none=>none
 | .pt e,v::r=>match v with
  | .dq e' x off=>match off with
   | 0=>if h:e'=e then some ((h▸x:e.T),r) else none
   | _+1=>none
  | _=>none
 | _,_=>none
def Ai(P:Program):Nat->TypeId->Option Sh
 | 0,_=>none
 | d+1,t=>match P.underlying t with
  | some (.int k)=>some (.int k)
  | some .bool=>some .bool
  | some .string=>some .str
  | some (.slice e)=>match Ai P d e with
   | some s=>some (.sl s)
   | none=>none
  | some (.array n e)=>match Ai P d e with
   | some s=>match Nat.ble n 16 with
    | true=>Yb s n
    | false=>some (.arr n s)
   | none=>none
  | some (.struct fs)=>Yc (Ai P d) fs.toList
  | _=>none
 where
 Yb (s:Sh):Nat->Option Sh
  | 0=>none
  | 1=>some s
  | n+1=>match Yb s n with
   | some r=>some (.pair s r)
   | none=>none
 Yc (sh:TypeId->Option Sh):List Field->Option Sh
  | []=>none
  | [f]=>sh f.type
  | f::r=>match sh f.type with
   | some s=>match Yc sh r with
    | some q=>some (.pair s q)
    | none=>none
   | none=>none
def lR(P:Program)(t:TypeId):Option (List AV):=
 match P.info? t with
 | some i=>match i.zero with
  | some z=>some (tC z.cells.toList)
  | none=>none
 | none=>none
def Aj(P:Program)(t:TypeId)(f:Nat):Option Field:=
 match P.underlying t with
 | some (.struct fs)=>nth fs.toList f
 | _=>none
def Dh(s e:Sh)(x:e.T)(off:Nat):Option s.T:=
 match off with
 | 0=>if h:e=s then some (h▸x) else none
 | _+1=>none
def rX(s:Sh):(e:Sh)->e.T->Nat->Option s.T
 | .pair a b,x,off=>match Dh s (.pair a b) x off with
  | some y=>some y
  | none=>match Nat.blt off a.size with
   | true=>rX s a (Prod.fst x) off
   | false=>rX s b (Prod.snd x) (off-a.size)
 | .arr n a,x,off=>match Dh s (.arr n a) x off with
  | some y=>some y
  | none=>match Nat.blt off (n*a.size) with
   | true=>rX s a (List.getD x (off / a.size) a.ft) (off % a.size)
   | false=>none
 | e,x,off=>Dh s e x off
def Di(s e:Sh)(y:s.T)(off:Nat):Option e.T:=
 match off with
 | 0=>if h:s=e then some (h▸y) else none
 | _+1=>none
def rY(s:Sh)(y:s.T):(e:Sh)->e.T->Nat->Option e.T
 | .pair a b,x,off=>match Di s (.pair a b) y off with
  | some z=>some z
  | none=>match Nat.blt off a.size with
   | true=>match rY s y a (Prod.fst x) off with
    | some z=>some (z,Prod.snd x)
    | none=>none
   | false=>match rY s y b (Prod.snd x) (off-a.size) with
    | some z=>some (Prod.fst x,z)
    | none=>none
 | .arr n a,x,off=>match Di s (.arr n a) y off with
  | some z=>some z
  | none=>match Nat.blt off (n*a.size) with
   | true=>match rY s y a (List.getD x (off / a.size) a.ft) (off % a.size) with
    | some z=>some (List.set x (off / a.size) z)
    | none=>none
   | false=>none
 | e,_,off=>Di s e y off
def G3(f:List AV->Option (List AV)):Nat->List AV->Option (List AV)
 | 0,r=>some r
 | n+1,r=>match f r with
  | some r=>G3 f n r
  | none=>none
def jT:Sh->List AV->Option (List AV)
 | .int k,v::r=>match v with
  | .int k' n=>if k'=k/\n=0 then some r else none
  | _=>none
 | .bool,v::r=>match v with
  | .bool b=>match b with
   | false=>some r
   | true=>none
  | _=>none
 | .str,v::r=>match v with
  | .str l=>match l with
   | []=>some r
   | _::_=>none
  | _=>none
 | .sl _,v::r=>match v with
  | .nilsl=>some r
  | _=>none
 | .err,v::r=>match v with
  | .nilif=>some r
  | _=>none
 | .pt _,_::_=>none
 | .unit,r=>some r
 | .pair a b,r=>match jT a r with
  | some r=>jT b r
  | none=>none
 | .arr n e,r=>G3 (jT e) n r
 | _,[]=>none
def wa(e:Sh)(z:List AV):Option e.T:=
 match e.flat with
 | true=>match iB e z with
  | some (t,[])=>some t
  | _=>none
 | false=>match jT e z with
  | some []=>some e.ft
  | _=>none
def G4(l:List AV):Option AV:=
 match l with
 | [v]=>some v
 | _=>none
def lr(k:IntKind)(a b:Int):Int:=(BitVec.ofInt k.bits a &&& BitVec.ofInt k.bits b).toNat
def wb(k:IntKind)(a b:Int):Int:=(BitVec.ofInt k.bits a ||| BitVec.ofInt k.bits b).toNat
def uP(k:IntKind)(a b:Int):Int:=(BitVec.ofInt k.bits a ^^^ BitVec.ofInt k.bits b).toNat
def Mm(k:IntKind)(a b:Int):Int:=(BitVec.ofInt k.bits a &&& ~~~ BitVec.ofInt k.bits b).toNat
def we(k:IntKind)(a b:Int):Int:=k.wrap (a*2 ^ (min b.toNat k.bits))
def rZ(k:IntKind)(a b:Int):Int:=a.fdiv (2 ^ (min b.toNat k.bits))
def QK(op:BinOp)(k:IntKind)(a b:Int):Option (List Prop×AV):=
 match op with
 | .add=>some ([],.int k (k.wrap (a+b)))
 | .sub=>some ([],.int k (k.wrap (a-b)))
 | .mul=>some ([],.int k (k.wrap (a*b)))
 | .quo=>some ([¬ b=0],.int k (k.wrap (a.tdiv b)))
 | .rem=>some ([¬ b=0],.int k (a.tmod b))
 | .and=>some ([],.int k (k.wrap (lr k a b)))
 | .or=>some ([],.int k (k.wrap (wb k a b)))
 | .xor=>some ([],.int k (k.wrap (uP k a b)))
 | .andNot=>some ([],.int k (k.wrap (Mm k a b)))
 | .eql=>some ([],.bool (a==b))
 | .neq=>some ([],.bool (a != b))
 | .lss=>some ([],.bool (decide (a<b)))
 | .leq=>some ([],.bool (decide (a<=b)))
 | .gtr=>some ([],.bool (decide (a>b)))
 | .geq=>some ([],.bool (decide (a>=b)))
 | _=>none
def QL(op:BinOp)(a b:List UInt8):Option (List Prop×AV):=
 match op with
 | .add=>some ([((a.length+b.length:Nat):Int)<=9223372036854775807],.str (a++b))
 | .eql=>some ([],.bool (a==b))
 | .neq=>some ([],.bool (!(a==b)))
 | .lss=>some ([],.bool (Op.bytesLess a b))
 | .leq=>some ([],.bool (Op.bytesLess a b||(a==b)))
 | .gtr=>some ([],.bool (!(Op.bytesLess a b||(a==b))))
 | .geq=>some ([],.bool (!(Op.bytesLess a b)))
 | _=>none
def oU(P:Program)(t:TypeId):Option Sh:=
 match Ai P 16 t,iA P t with
 | some e,some s=>match Nat.beq s e.size with
  | true=>some e
  | false=>none
 | _,_=>none
def G5(P:Program)(t:TypeId):Option Sh:=
 match oU P t,lR P t with
 | some e,some z=>match Nat.beq (iP z) e.size with
  | true=>some e
  | false=>none
 | _,_=>none
def G6(P:Program)(T:TypeId)(s:Sh)(y:s.T):Option AV:=
 match nk P T with
 | some true=>match s.flat with
  | true=>some (.agg (enc s y))
  | false=>some (.arr s y)
 | some false=>match s.flat with
  | true=>G4 (enc s y)
  | false=>none
 | none=>none
def uQ(s:Sh)(v:AV):Option s.T:=
 match v with
 | .arr s' y=>if h:s'=s then some (h▸y) else none
 | v=>match uN v with
  | some cs=>wa s cs
  | none=>none
def wg(P:Program)(T:TypeId)(e:Sh)(x:e.T)(off:Nat):Option AV:=
 match oU P T with
 | some s=>match rX s e x off with
  | some y=>G6 P T s y
  | none=>none
 | none=>none
def G7(P:Program)(fs:List Field)(e:Sh)(x:e.T):List (Nat×AV)->Option e.T
 | []=>some x
 | (i,v)::r=>match nth fs i with
  | some f=>match oU P f.type with
   | some s=>match uQ s v with
    | some y=>match rY s y e x f.offset with
     | some x'=>G7 P fs e x' r
     | none=>none
    | none=>none
   | none=>none
  | none=>none
def Mn(e:Sh)(x:e.T):Option (Nat×IntKind×List Int):=
 match e,x with
 | .arr n s,x=>match s,x with
  | .int k,x=>some (n,k,x)
  | _,_=>none
 | _,_=>none
noncomputable def Mo(P:Program)(f:TypeId->AV->AV->Option Bool)(xs ys:List AV):List Field->Option Bool
 | []=>some true
 | g :: r => match g.name == "_" with
  | true=>none
  | false=>match kG P g.type g.offset xs,kG P g.type g.offset ys with
   | some x,some y=>match f g.type x y with
    | some p=>match r with
     | []=>some p
     | _=>match Mo P f xs ys r with
      | some q=>some (p&&q)
      | none=>none
    | none=>none
   | _,_=>none
noncomputable def x5(P:Program)(f:AV->AV->Option Bool)(e:TypeId)(s:Nat)(xs ys:List AV):List Nat->Option Bool
 | []=>some true
 | i::r=>match kG P e (i*s) xs,kG P e (i*s) ys with
  | some x,some y=>match f x y with
   | some p=>match r with
    | []=>some p
    | _=>match x5 P f e s xs ys r with
     | some q=>some (p&&q)
     | none=>none
   | none=>none
  | _,_=>none
noncomputable def qH(P:Program):Nat->TypeId->AV->AV->Option Bool
 | 0,_,_,_=>none
 | d+1,t,x,y=>match P.underlying t with
  | some (.int _)=>match x,y with
   | .int k a,.int k' b=>if k=k' then some (a==b) else none
   | _,_=>none
  | some .bool=>match x,y with
   | .bool a,.bool b=>some (a==b)
   | _,_=>none
  | some .string=>match x,y with
   | .str a,.str b=>some (a==b)
   | _,_=>none
  | some (.array n e)=>match x,y,iA P e with
   | .agg xs,.agg ys,some s=>x5 P (qH P d e) e s xs ys (List.range n)
   | _,_,_=>none
  | some (.struct fs)=>match x,y,P.stoodInHeld t with
   | .agg xs,.agg ys,false=>Mo P (qH P d) xs ys fs.toList
   | _,_,_=>none
  | _=>none
def qI(op:BinOp)(b:Bool):Option AV:=
 match op with
 | .eql=>some (.bool b)
 | .neq=>some (.bool (!b))
 | _=>none
noncomputable def QM(P:Program)(op:BinOp)(T:TypeId)(x y:AV):Option (List Prop×AV):=
 match x,y with
 | .int k a,.int k' b=>match op with
  | .shl=>some ([0<=b],.int k (we k a b))
  | .shr=>some ([0<=b],.int k (rZ k a b))
  | op=>if k=k' then QK op k a b else none
 | .str a,.str b=>QL op a b
 | .bool a,.bool b=>match P.underlying T,qI op (a==b) with
  | some .bool,some v=>some ([],v)
  | _,_=>none
 | .arr e a,.arr e' b=>match Mn e a,Mn e' b with
  | some (n,k,a),some (m,k',b)=>match P.underlying T with
   | some (.array l t)=>match P.underlying t,iA P t with
    | some (.int _),some sz=>match P.eqGuardType P.depth T,qI op (a==b) with
     | false,some v=>if n=l/\m=l/\k=k'/\sz=1 then some ([],v) else none
     | _,_=>none
    | _,_=>none
   | _=>none
  | _,_=>none
 | .agg a,.agg b=>match P.eqGuardType P.depth T,qH P 8 T (.agg a) (.agg b) with
  | false,some q=>match qI op q with
   | some v=>some ([],v)
   | none=>none
  | _,_=>none
 | x,y=>match P.underlying T with
  | some (.pointer _)=>match x,y with
   | .jS,.jS=>(qI op true).map fun v=>([],v)
   | .jS,.dq _ _ _=>(qI op false).map fun v=>([],v)
   | .dq _ _ _,.jS=>(qI op false).map fun v=>([],v)
   | _,_=>none
  | some (.interface _)=>match x,y with
   | .ifc _ _,.nilif=>(qI op false).map fun v=>([],v)
   | .nilif,.ifc _ _=>(qI op false).map fun v=>([],v)
   | _,_=>none
  | _=>none
def cE(lo hi:Nat){α:Type}(l:List α):List α:=(l.drop lo).take (hi-lo)
def np(ob:Nat->Option AO)(n:Nat):Bool:=
 match ob n with
 | some _=>true
 | none=>false
def pT(ob:Nat->Option AO)(x:AV):Bool:=
 match x with
 | .ptr n _=>np ob n
 | .rsl n _ _ _=>np ob n
 | .epr n _ _ _=>np ob n
 | .csl n _ _=>np ob n
 | .own n _=>np ob n
 | .cpr n _ _ _=>np ob n
 | .wsl n _ _ _ _ _ _ _=>np ob n
 | .mpr n=>np ob n
 | _=>true
def Dj(P:Program)(T:TypeId)(uS:Bool)(ob:Nat->Option AO)(x i:AV):Option (List Prop×AV):=
 match i with
 | .int _ i=>match P.underlying T with
  | some (.slice el)=>match iA P el with
   | some s=>match x with
    | .fsl e xs=>match Nat.beq s e.size with
     | true=>some ([0<=i/\i<(xs.length:Int)],.dq e (xs.getD i.toNat e.ft) 0)
     | false=>none
    | .rsl n e off len=>match Nat.beq s e.size with
     | true=>some ([0<=i/\i<(len:Int)],.epr n e (off+i.toNat) 0)
     | false=>none
    | .csl n off len=>some ([0<=i/\i<(len:Int)],.ptr n (off+i.toNat*s))
    | .own n e=>match Nat.beq s e.size with
     | true=>match ob n with
      | some (.rows e' xs)=>some ([0<=i/\i<(xs.length:Int)],.epr n e i.toNat 0)
      | some (.gR e' xs)=>some ([0<=i/\i<(xs.length:Int)],.epr n e i.toNat 0)
      | _=>none
     | false=>none
    | _=>none
   | none=>none
  | some (.array m el)=>match iA P el with
   | some s=>match x with
    | .ptr n off=>match uS with
     | true=>some ([0<=i/\i<(m:Int)],.ptr n (off+i.toNat*s))
     | false=>match Nat.beq s 1 with
      | true=>some ([0<=i/\i<(m:Int)],.cpr n off i.toNat m)
      | false=>none
    | .dq e x off=>some ([0<=i/\i<(m:Int)],.dq e x (off+i.toNat*s))
    | .epr n e j off=>some ([0<=i/\i<(m:Int)],.epr n e j (off+i.toNat*s))
    | _=>none
   | none=>none
  | _=>none
 | _=>none
def Dl:List AV->Option (IntKind×List Int)
 | []=>none
 | a::r=>match a with
  | .int k n=>match r with
   | []=>some (k,[n])
   | _::_=>match Dl r with
    | some (k',ns)=>if k=k' then some (k,n::ns) else none
    | none=>none
  | _=>none
def Dn:List AV->Option (List (List UInt8))
 | []=>some []
 | a::r=>match a with
  | .str s=>match Dn r with
   | some ss=>some (s::ss)
   | none=>none
  | _=>none
def Mp(l:List AV)(i:Nat):Option AV:=
 match Dl l with
 | some (k,ns)=>some (.int k (ns.getD i 0))
 | none=>match Dn l with
  | some ss=>some (.str (ss.getD i []))
  | none=>none
def Dp(k:IntKind)(ns:List Int):Nat->Nat->List AV
 | _,0=>[]
 | j,m+1=>.int k (ns.getD j 0)::Dp k ns (j+1) m
def Dq(ss:List (List UInt8)):Nat->Nat->List AV
 | _,0=>[]
 | j,m+1=>.str (ss.getD j [])::Dq ss (j+1) m
def QN(l:List AV)(i m:Nat)(v:AV):Option (List AV):=
 match Dl l with
 | some (k,ns)=>match v with
  | .int k' x=>if k=k' then some (Dp k (ns.set i x) 0 m) else none
  | _=>none
 | none=>match Dn l with
  | some ss=>match v with
   | .str x=>some (Dq (ss.set i x) 0 m)
   | _=>none
  | none=>none
def Yd(o:Operand):Bool:=
 match o with
 | .const _=>true
 | _=>false
noncomputable def QO(P:Program)(T:TypeId)(uS:Bool)(x i:AV):Option (List Prop×AV):=
 match i with
 | .int _ i=>match P.underlying T with
  | some .string=>match x with
   | .str l=>some ([0<=i/\i<(l.length:Int)],.int .u8 ((l.getD i.toNat 0).toNat:Int))
   | _=>none
  | some (.array m e)=>match iA P e with
   | some s=>match x with
    | .agg l=>match uS with
     | true=>match kG P e (i.toNat*s) l with
      | some v=>some ([0<=i/\i<(m:Int)],v)
      | none=>none
     | false=>match Nat.beq s 1,nk P e,Nat.beq (iP l) m with
      | true,some false,true=>match Mp l i.toNat with
       | some v=>some ([0<=i/\i<(m:Int)],v)
       | none=>none
      | _,_,_=>none
    | _=>none
   | none=>none
  | _=>none
 | _=>none
def QP(P:Program)(T:TypeId)(x:AV)(f:Nat):Option AV:=
 match Aj P T f with
 | some f=>match iA P f.type with
  | some (_+1)=>match x with
   | .ptr n off=>some (.ptr n (off+f.offset))
   | .dq e x off=>some (.dq e x (off+f.offset))
   | .epr n e i off=>some (.epr n e i (off+f.offset))
   | _=>none
  | _=>none
 | none=>none
noncomputable def Ak(P:Program)(T:TypeId)(ob:Nat->Option AO)(x:AV):Option (List Prop×AV):=
 match x with
 | .ptr n off=>match ob n with
  | some (.cells l)=>match kG P T off l with
   | some v=>some ([],v)
   | none=>none
  | some (.hM l)=>match kG P T off l with
   | some v=>some ([],v)
   | none=>none
  | _=>none
 | .cpr n off i m=>match ob n,nk P T with
  | some (.cells l),some false=>match Nat.ble (off+m) (iP l) with
   | true=>match Mp (qF m (qG off l)) i with
    | some v=>some ([],v)
    | none=>none
   | false=>none
  | _,_=>none
 | .dq e x off=>match e.flat with
  | true=>match kG P T off (enc e x) with
   | some v=>some ([],v)
   | none=>none
  | false=>match wg P T e x off with
   | some v=>some ([],v)
   | none=>none
 | .epr n e i off=>match e.flat with
  | true=>match ob n with
   | some (.rows e' xs)=>if h:e'=e then
     match kG P T off (enc e' (xs.getD i e'.ft)) with
     | some v=>some ([i<xs.length],v)
     | none=>none
    else none
   | some (.gR e' xs)=>if h:e'=e then
     match kG P T off (enc e' (xs.getD i e'.ft)) with
     | some v=>some ([i<xs.length],v)
     | none=>none
    else none
   | _=>none
  | false=>match ob n with
   | some (.rows e' xs)=>if e'=e then
     match wg P T e' (xs.getD i e'.ft) off with
     | some v=>some ([i<xs.length],v)
     | none=>none
    else none
   | _=>none
 | _=>none
def Dr(P:Program)(T:TypeId)(ob:Nat->Option AO)(x v:AV):Option (List Prop×cx):=
 match x with
 | .epr n e i off=>match e.flat with
  | true=>none
  | false=>match ob n with
   | some (.rows e' xs)=>if e'=e then
     match oU P T with
     | some s=>match uQ s v with
      | some y=>match rY s y e' (xs.getD i e'.ft) off with
       | some t=>some ([i<xs.length],[(n,some (.rows e' (xs.set i t)))])
       | none=>none
      | none=>none
     | none=>none
    else none
   | _=>none
 | _=>none
noncomputable def Al(P:Program)(T:TypeId)(ob:Nat->Option AO)(x v:AV):Option (List Prop×cx):=
 match uN v,iA P T with
 | some cs,some sz=>match Nat.beq (iP cs) sz with
  | true=>match x with
   | .ptr n off=>match ob n with
    | some (.cells l)=>match xZ off cs l with
     | some l'=>tB l' fun l'=>some ([],[(n,some (.cells l'))])
     | none=>none
    | _=>none
   | .cpr n off i m=>match ob n,cs with
    | some (.cells l),[c]=>match Nat.ble (off+m) (iP l) with
     | true=>match QN (qF m (qG off l)) i m c with
      | some l'=>match xZ off l' l with
       | some QQ=>tB QQ fun QQ=>some ([],[(n,some (.cells QQ))])
       | none=>none
      | none=>none
     | false=>none
    | _,_=>none
   | .epr n e i off=>match e.flat with
    | true=>match ob n with
     | some (.rows e' xs)=>if e'=e then
       match xZ off cs (enc e' (xs.getD i e'.ft)) with
       | some l'=>match iB e' l' with
        | some (t,[])=>some ([i<xs.length],[(n,some (.rows e' (xs.set i t)))])
        | _=>none
       | none=>none
      else none
     | _=>none
    | false=>none
   | _=>none
  | false=>none
 | _,_=>none
def sc(e:Sh)(i:Nat):List (Nat×AV)->Option (List e.T)
 | []=>some []
 | (j,v)::r=>match Nat.beq i j,uQ e v with
  | true,some t=>match sc e (i+1) r with
   | some ts=>some (t::ts)
   | none=>none
  | _,_=>none
noncomputable def wj(place:Nat->Option (Nat×Nat))(cells:List AV):List (Nat×AV)->Option (List AV)
 | []=>some cells
 | (i,v)::r=>match place i,uN v with
  | some (off,size),some cs=>match Nat.beq (iP cs) size,xZ off cs cells with
   | true,some QR=>wj place QR r
   | _,_=>none
  | _,_=>none
def wk(P:Program):List Field->Option (List (Nat×Nat))
 | []=>some []
 | f::r=>match iA P f.type with
  | some s=>match wk P r with
   | some q=>some ((f.offset,s)::q)
   | none=>none
  | none=>none
def QS(P:Program)(T:TypeId)(l:List (Nat×AV)):Option AV:=
 match P.underlying T with
 | some (.struct fs)=>match oU P T,lR P T with
  | some e,some z=>match e.flat with
   | true=>none
   | false=>match wa e z with
    | some x=>match wk P fs.toList,G7 P fs.toList e x l with
     | some _,some x=>some (.arr e x)
     | _,_=>none
    | none=>none
  | _,_=>none
 | some (.array _ t)=>match l,oU P T,lR P T,iA P t with
  | [],some e,some z,some _=>match wa e z with
   | some x=>some (.arr e x)
   | none=>none
  | _,_,_,_=>none
 | _=>none
def QT(P:Program)(t:TypeId):Option (Nat->Option (Nat×Nat)):=
 match P.underlying t with
 | some (.struct fs)=>match wk P fs.toList with
  | some q=>some (nth q)
  | none=>none
 | some (.array _ e)=>match iA P e with
  | some s=>some fun i=>some (i*s,s)
  | none=>none
 | _=>none
noncomputable def sd{α:Type}(tm:Nat->Option AV)(xs:List (Nat×Operand))(k:List Prop->List (Nat×AV)->Option α):Option α:=
 match xs with
 | []=>k [] []
 | (i,x)::r=>fe tm x fun p v=>sd tm r fun q vs=>k (p++q) ((i,v)::vs)
def pU(xs:List Int):List UInt8:=xs.map fun z=>UInt8.ofNat z.toNat
def ofBytes(l:List UInt8):List Int:=l.map fun b=>(b.toNat:Int)
def Ds(i:Nat):List AV->List (Nat×AV)
 | []=>[]
 | v::r=>(i,v)::Ds (i+1) r
def uT(ob:Nat->Option AO)(e:Sh)(x:AV):Option (List e.T×List Prop):=
 match x with
 | .fsl e' xs=>if h:e'=e then some (h▸xs,[]) else none
 | .nilsl=>some ([],[])
 | .rsl n e' off len=>match ob n with
  | some (.rows nq xs)=>if h:nq=e then if e'=e then some (cE off (off+len) (h▸xs),[off+len<=xs.length]) else none else none
  | some (.gR nq xs)=>if h:nq=e then if e'=e then some (cE off (off+len) (h▸xs),[off+len<=xs.length]) else none else none
  | _=>none
 | .own n e'=>match ob n with
  | some (.rows nq xs)=>if h:nq=e then if e'=e then some (h▸xs,[]) else none else none
  | some (.gR nq xs)=>if h:nq=e then if e'=e then some (h▸xs,[]) else none else none
  | _=>none
 | .csl n off len=>match ob n with
  | some (.cells l)=>match Nat.ble (off+len) (iP l),xY (qF len (qG off l)),sc e 0 (Ds 0 (qF len (qG off l))) with
   | true,true,some ts=>some (ts,[])
   | _,_,_=>none
  | some (.hM l)=>match Nat.ble (off+len) (iP l),xY (qF len (qG off l)),sc e 0 (Ds 0 (qF len (qG off l))) with
   | true,true,some ts=>some (ts,[])
   | _,_,_=>none
  | _=>none
 | .wsl n e' i at' m s off len=>match ob n with
  | some (.rows nq xs)=>if nq=e' then if h:s=e then match rX (.arr m s) nq (xs.getD i nq.ft) at' with
    | some t=>some (cE off (off+len) (h▸t),[i<xs.length])
    | none=>none
   else none else none
  | _=>none
 | _=>none
noncomputable def Dt(P:Program)(src dst:TypeId)(ob:Nat->Option AO)(nm:Nat)(x:AV):Option (List Prop×AV×cx):=
 match P.underlying src,P.underlying dst with
 | some (.int _),some (.int k)=>match x with
  | .int _ n=>some ([],.int k (k.wrap n),[])
  | _=>none
 | some .string,some .string=>match x with
  | .str l=>some ([],.str l,[])
  | _=>none
 | some .string,some (.slice e)=>match P.underlying e,x with
  | some (.int .u8),.str l=>some ([],.own nm (.int .u8),[(nm,some (.rows (.int .u8) (ofBytes l)))])
  | _,_=>none
 | some (.slice e),some .string=>match P.underlying e with
  | some (.int .u8)=>match uT ob (.int .u8) x with
   | some (xs,eU)=>some (eU,.str (pU xs),[])
   | none=>none
  | _=>none
 | _,_=>none
noncomputable def gn{α:Type}(tm:Nat->Option AV)(x:Option Operand)(d:Int)(k:List Prop->Int->Option α):Option α:=
 match x with
 | none=>k [] d
 | some x=>fe tm x fun p v=>match v with
  | .int _ n=>k p n
  | _=>none
noncomputable def Du(P:Program)(T:TypeId)(tm:Nat->Option AV)(ob:Nat->Option AO)(x:AV)(lo hi mx:Option Operand)(nm:Nat):Option (List Prop×AV×cx):=
 match mx with
 | some m=>match hi with
  | some h=>match P.underlying T with
   | some (.slice el)=>match x,iA P el with
    | .fsl e xs,some _=>gn tm lo 0 fun p a=>gn tm (some h) 0 fun q b=>gn tm (some m) 0 fun r c=>
      some (bQ p (bQ q (bQ r [a=0/\b=0/\c=0])),.own nm e,[(nm,some (.rows e []))])
    | _,_=>none
   | _=>none
  | none=>none
 | none=>match P.underlying T with
  | some .string=>match x with
   | .str l=>gn tm lo 0 fun p a=>gn tm hi l.length fun q b=>
     some (bQ p (bQ q [0<=a/\a<=b/\b<=(l.length:Int)]),.str (cE a.toNat b.toNat l),[])
   | _=>none
  | some (.slice el)=>match iA P el with
   | some s=>match x with
    | .fsl e xs=>match Nat.beq s e.size with
     | true=>gn tm lo 0 fun p a=>gn tm hi xs.length fun q b=>
      some (bQ p (bQ q [0<=a/\a<=b/\b<=(xs.length:Int)]),.fsl e (cE a.toNat b.toNat xs),[])
     | false=>none
    | .nilsl=>gn tm lo 0 fun p a=>gn tm hi 0 fun q b=>
      some (bQ p (bQ q [a=0/\b=0]),.nilsl,[])
    | .rsl n e off len=>match Nat.beq s e.size with
     | true=>gn tm lo 0 fun p a=>gn tm hi len fun q b=>
      some (bQ p (bQ q [0<=a/\a<=b/\b<=(len:Int)]),.rsl n e (off+a.toNat) (b.toNat-a.toNat),[])
     | false=>none
    | .own n e=>match Nat.beq s e.size with
     | true=>match ob n with
      | some (.rows e' xs)=>gn tm lo 0 fun p a=>gn tm hi xs.length fun q b=>
       some (bQ p (bQ q [0<=a/\a<=b/\b<=(xs.length:Int)]),.rsl n e a.toNat (b.toNat-a.toNat),[])
      | some (.gR e' xs)=>gn tm lo 0 fun p a=>gn tm hi xs.length fun q b=>
       some (bQ p (bQ q [0<=a/\a<=b/\b<=(xs.length:Int)]),.rsl n e a.toNat (b.toNat-a.toNat),[])
      | _=>none
     | false=>none
    | .csl n off len=>gn tm lo 0 fun p a=>gn tm hi len fun q b=>
      some (bQ p (bQ q [0<=a/\a<=b/\b<=(len:Int)]),.csl n (off+a.toNat*s) (b.toNat-a.toNat),[])
    | _=>none
   | none=>none
  | some (.array m el)=>match iA P el with
   | some s=>match x with
    | .ptr n off=>gn tm lo 0 fun p a=>gn tm hi m fun q b=>
      some (bQ p (bQ q [0<=a/\a<=b/\b<=(m:Int)]),.csl n (off+a.toNat*s) (b.toNat-a.toNat),[])
    | .epr n e i off=>match oU P el with
     | some se=>gn tm lo 0 fun p a=>gn tm hi m fun q b=>
      some (bQ p (bQ q [0<=a/\a<=b/\b<=(m:Int)]),.wsl n e i off m se a.toNat (b.toNat-a.toNat),[])
     | none=>none
    | _=>none
   | none=>none
  | _=>none
def room(b n:Nat):Prop:=
 match b with
 | 0=>n<=140737488355328
 | b+1=>n*Nat.succ b<=140737488355328
def roomy(P:Program)(e:TypeId)(n:Nat):Prop:=
 match P.info? e with
 | some i=>room i.bytes n
 | none=>False
def Dv(P:Program)(T:TypeId)(ob:Nat->Option AO)(e:Sh)(y:AV):Option (List e.T×List Prop):=
 match P.underlying T with
 | some .string=>match y,e with
  | .str l,.int .u8=>some (ofBytes l,[])
  | _,_=>none
 | some (.slice _)=>uT ob e y
 | _=>none
def Dw(P:Program)(T T':TypeId)(ob:Nat->Option AO)(nm:Nat)(x y:AV):Option (List Prop×AV×cx):=
 match P.underlying T with
 | some (.slice el)=>match G5 P el with
  | none=>none
  | some e=>match Dv P T' ob e y with
   | none=>none
   | some (ys,eU)=>match x with
    | .nilsl=>some (bQ eU [roomy P el ys.length],.own nm e,[(nm,some (.rows e ys))])
    | .own n e'=>match ob n with
     | some (.rows nq xs)=>if h:nq=e then
       some (bQ eU [roomy P el (xs.length+ys.length)],.own nm e,
        [(n,none),(nm,some (.rows e ((h▸xs:List e.T)++ys)))])
      else none
     | _=>none
    | .rsl n e' off len=>match ob n with
     | some (.rows nq xs)=>if h:nq=e then
       some (bQ eU [off=0/\len=xs.length/\roomy P el (xs.length+ys.length)],.own nm e,
        [(n,none),(nm,some (.rows e ((h▸xs:List e.T)++ys)))])
      else none
     | _=>none
    | _=>none
 | _=>none
def bH{α:Type}(off len:Nat)(ys xs:List α):List α:=xs.take off++(ys.take len++xs.drop (off+min len ys.length))
def Dx(P:Program)(T:TypeId)(ob:Nat->Option AO)(x y:AV):Option (List Prop×AV×cx):=
 match P.underlying T with
 | some (.slice el)=>match iA P el with
  | some s=>match x with
   | .rsl n e off len=>match Nat.beq s e.size with
    | true=>match ob n with
     | some (.rows e' xs)=>match uT ob e' y with
      | some (ys,eU)=>if e'=e then some (bQ eU [off+len<=xs.length],.int .i64 ((min len ys.length:Nat):Int),[(n,some (.rows e' (bH off len ys xs)))]) else none
      | none=>none
     | _=>none
    | false=>none
   | .wsl n e i at' m se off len=>match Nat.beq s se.size with
    | true=>match ob n with
     | some (.rows e' xs)=>match uT ob se y with
      | some (ys,eU)=>if e'=e then match rX (.arr m se) e' (xs.getD i e'.ft) at' with
        | some t=>match rY (.arr m se) (bH off len ys t) e' (xs.getD i e'.ft) at' with
         | some z=>some (bQ eU [i<xs.length],.int .i64 ((min len ys.length:Nat):Int),[(n,some (.rows e' (xs.set i z)))])
         | none=>none
        | none=>none
       else none
      | none=>none
     | _=>none
    | false=>none
   | _=>none
  | none=>none
 | _=>none
def Dy(P:Program)(T:TypeId)(ob:Nat->Option AO)(x:AV):Option AV:=
 match P.underlying T with
 | some .string=>match x with
  | .str l=>some (.int .i64 (l.length:Int))
  | _=>none
 | some (.array n _)=>some (.int .i64 (n:Int))
 | some (.slice _)=>match x with
  | .fsl _ xs=>some (.int .i64 (xs.length:Int))
  | .nilsl=>some (.int .i64 0)
  | .rsl _ _ _ len=>some (.int .i64 (len:Int))
  | .csl _ _ len=>some (.int .i64 (len:Int))
  | .wsl _ _ _ _ _ _ _ len=>some (.int .i64 (len:Int))
  | .own n _=>match ob n with
   | some (.rows _ xs)=>some (.int .i64 (xs.length:Int))
   | some (.gR _ xs)=>some (.int .i64 (xs.length:Int))
   | _=>none
  | _=>none
 | _=>none
def oV(mx:Bool):AV->List AV->Option AV
 | v,[]=>some v
 | .int k a,.int _ b::r=>oV mx (.int k (match mx with | true=>if b>a then b else a | false=>if b<a then b else a)) r
 | _,_=>none
def x6(e:Sh)(xs:List e.T):(n:Nat)->(i:Nat)->(s:Sh)->Option s.T
 | 0,_,_=>none
 | 1,i,s=>if h:e=s then some (h▸xs.getD i e.ft) else none
 | n+1,i,.pair a b=>if h:e=a then match x6 e xs n (i+1) b with
   | some r=>some ((h▸xs.getD i e.ft,r):a.T×b.T)
   | none=>none
  else none
 | _,_,_=>none
def wm(ca cb:Operand)(t:Bool)(a b:AV):Option (List Prop×AV):=
 let (pa,a):=strip t true a
 let (pb,b):=strip t false b
 match a,b with
 | .bool x,.bool y=>match ca,cb with
  | .const _,_=>match x with
   | true=>some (pb,.bool (t||y))
   | false=>some (pb,.bool (!t&&y))
  | _,.const _=>match y with
   | false=>some (pa,.bool (t&&x))
   | true=>some (pa,.bool (!t||x))
  | _,_=>some (bQ pa pb,.bool (cond t x y))
 | _,_=>none
 where
 strip (t want:Bool) (v:AV):List Prop×AV:=match v with
  | .when g v=>([t=want->g=true],v)
  | v=>([],v)
def x7(ob:Nat->Option AO)(v:AV):AV:=
 match v with
 | .own m e=>match ob m with
  | some (.rows e' xs)=>if e'=e then .fsl e' xs else .own m e
  | some (.gR e' xs)=>if e'=e then .fsl e' xs else .own m e
  | _=>.own m e
 | v=>v
def wo(ob:Nat->Option AO)(v:AV):cx:=
 match v with
 | .own m e=>match ob m with
  | some (.rows e' xs)=>if e'=e then [(m,some (.gR e' xs))] else []
  | _=>[]
 | _=>[]
def uU(ob:Nat->Option AO):List AV->List AV
 | []=>[]
 | v::r=>x7 ob v::uU ob r
def uV(ob:Nat->Option AO):List AV->cx
 | []=>[]
 | v::r=>bQ (wo ob v) (uV ob r)
def x8(ob:Nat->Option AO)(v:AV):AV:=
 match v with
 | .agg l=>.agg (uU ob l)
 | v=>x7 ob v
def sf(ob:Nat->Option AO)(v:AV):cx:=
 match v with
 | .agg l=>uV ob l
 | v=>wo ob v
def uW(ob:Nat->Option AO):List (Nat×AV)->List (Nat×AV)
 | []=>[]
 | (i,v)::r=>(i,x8 ob v)::uW ob r
def uX(ob:Nat->Option AO):List (Nat×AV)->cx
 | []=>[]
 | (_,v)::r=>bQ (sf ob v) (uX ob r)
def oW(u:cx)(ob:Nat->Option AO)(n:Nat):Option AO:=
 match aQ u n with
 | some r=>r
 | none=>ob n
def DA(P:Program)(op:BinOp)(T:TypeId)(ob:Nat->Option AO)(y:Operand)(v:AV):Option AV:=
 match y with
 | .const c=>match c with
  | .pointer none=>match P.underlying T with
   | some (.pointer _)=>match v with
    | .ptr n _=>match np ob n with
     | true=>qI op false
     | false=>none
    | _=>none
   | _=>none
  | .nilIface=>match P.underlying T with
   | some (.interface _)=>match v with
    | .er t=>qI op (QJ t)
    | .nilif=>qI op true
    | _=>none
   | _=>none
  | _=>none
 | _=>none
def DB(ob:Nat->Option AO)(T:TypeId)(v:AV):Option (kc×cx):=
 match v with
 | .ptr n off=>match Nat.beq off 0,ob n with
  | true,some (.cells l)=>match l with
   | [a,b]=>match Ah b with
    | some e=>match a with
     | .int k m=>match k with
      | .i64=>some (.at' T m e,[(n,some (.hM l))])
      | _=>none
     | .str s=>some (.xW T s e,[(n,some (.hM l))])
     | _=>none
    | none=>none
   | [a]=>match a with
    | .str _=>some (.any T,[(n,some (.hM l))])
    | _=>none
   | _=>none
  | _,_=>none
 | _=>none
def QU(P:Program)(T:TypeId):Option Sh:=
 match oU P T with
 | some e=>match e.flat with
  | true=>none
  | false=>some e
 | none=>none
def Am{α:Type}(l:List (Int×α))(j:Int)(d:α):α:=
 match l with
 | []=>d
 | (i,x)::r=>if i=j then x else Am r j d
def wq{α:Type}(l:List (Int×α))(j:Int):Bool:=
 match l with
 | []=>false
 | (i,_)::r=>if i=j then true else wq r j
def wu{α:Type}(l:List (Int×α))(j:Int)(y:α):List (Int×α):=
 match l with
 | []=>[(j,y)]
 | (i,x)::r=>if i=j then (j,y)::r else (i,x)::wu r j y
def Ms(e:Sh):Bool:=
 match e with
 | .int _=>true
 | .bool=>true
 | .str=>true
 | _=>false
def Ye(P:Program)(t:TypeId):Option AV:=
 match P.info? t with
 | some i=>match i.zero with
  | some z=>some (pR z)
  | none=>none
 | none=>none
def An(P:Program)(T:TypeId):Option (IntKind×((e:Sh)×e.T)):=
 match P.underlying T with
 | some (.map kt et)=>match P.underlying kt with
  | some (.int k)=>match oU P et,Ye P et with
   | some e,some z=>match Ms e with
    | true=>match iB e [z] with
     | some (d,[])=>some (k,⟨e,d⟩)
     | _=>none
    | false=>none
   | _,_=>none
  | _=>none
 | _=>none
def DC(P:Program)(T:TypeId)(ok:Bool)(ob:Nat->Option AO)(x j:AV):Option AV:=
 match x,j with
 | .mpr n,.int k' j=>match An P T with
  | some (k,⟨e,d⟩)=>match ob n with
   | some (.mp nW e' l)=>if k'=k/\nW=k then if h:e=e' then
     match G4 (enc e' (Am l j (h▸d))) with
     | some v=>match ok with
      | true=>some (.fG [v,.bool (wq l j)])
      | false=>some v
     | none=>none
    else none else none
   | _=>none
  | none=>none
 | _,_=>none
def DD(P:Program)(T:TypeId)(ob:Nat->Option AO)(x j v:AV):Option cx:=
 match x,j with
 | .mpr n,.int k' j=>match An P T with
  | some (k,⟨e,_⟩)=>match ob n with
   | some (.mp nW e' l)=>if k'=k/\nW=k/\e=e' then
     match iB e' [v] with
     | some (y,[])=>some [(n,some (.mp nW e' (wu l j y)))]
     | _=>none
    else none
   | _=>none
  | none=>none
 | _,_=>none
noncomputable def mH(P:Program)(C:Ctx)(tm:Nat->Option AV)(ob:Nat->Option AO)(nm:Nat)(o:Oper):Option Ya:=
 match o.op with
 | .move x=>fe tm x fun p v=>some ⟨p,v,[]⟩
 | .assign x=>fe tm x fun p v=>some ⟨p,v,[]⟩
 | .pick c a b=>fe tm c fun p c=>match c with
  | .bool t=>match wm a b t (fc tm a) (fc tm b) with
   | some (q,v)=>some ⟨bQ p q,v,[]⟩
   | none=>none
  | _=>none
 | .alloc T=>match lR P T with
  | some l=>match QU P T with
   | some e=>match wa e l with
    | some x=>some ⟨[],.epr nm e 0 0,[(nm,some (.rows e [x]))]⟩
    | none=>none
   | none=>match xY l with
    | true=>tB l fun l=>some ⟨[],.ptr nm 0,[(nm,some (.cells l))]⟩
    | false=>none
  | none=>none
 | .box T x=>fe tm x fun p v=>match QU P T with
  | some e=>match uQ e v with
   | some x=>some ⟨p,.epr nm e 0 0,[(nm,some (.rows e [x]))]⟩
   | none=>none
  | none=>match uN v with
   | some l=>some ⟨p,.ptr nm 0,[(nm,some (.cells l))]⟩
   | none=>none
 | .build T parts=>match QU P T with
  | some _=>sd tm parts.toList fun p l=>match QS P T l with
   | some v=>some ⟨p,v,[]⟩
   | none=>none
  | none=>match lR P T,QT P T with
   | some z,some pl=>sd tm parts.toList fun p l=>match wj pl z l with
    | some l'=>tB l' fun l'=>some ⟨p,.agg l',[]⟩
    | none=>none
   | _,_=>none
 | .makeMap T r=>match r,An P T with
  | none,some (k,⟨e,_⟩)=>some ⟨[],.mpr nm,[(nm,some (.mp k e []))]⟩
  | _,_=>none
 | .lookup T x j ok=>fe tm x fun p v=>fe tm j fun q w=>match pT ob v,DC P T ok ob v w with
  | true,some r=>some ⟨bQ p q,r,[]⟩
  | _,_=>none
 | .mapUpdate T x j y=>fe tm x fun p v=>fe tm j fun q w=>fe tm y fun r z=>match DD P T ob v w z with
  | some u=>some ⟨bQ p (bQ q r),.mG,u⟩
  | none=>none
 | .buildSlice T n parts=>match P.underlying T with
  | some (.slice el)=>match oU P el with
   | some e=>sd tm parts.toList fun p l=>match Nat.beq (iP l) n,Nat.ble (n*e.size) 16777216,sc e 0 l with
    | true,true,some ts=>match lR P el with
     | some _=>some ⟨p,.own nm e,[(nm,some (.rows e ts))]⟩
     | none=>none
    | true,true,none=>match sc e 0 (uW ob l),lR P el with
     | some ts,some _=>some ⟨p,.own nm e,(nm,some (.rows e ts))::uX ob l⟩
     | _,_=>none
    | _,_,_=>none
   | none=>none
  | _=>none
 | .load T x=>fe tm x fun p v=>match Ak P T ob v with
  | some (q,v)=>fv v fun v=>some ⟨bQ p q,v,[]⟩
  | none=>none
 | .store T x y=>fe tm x fun p v=>fe tm y fun p' v'=>match Dr P T ob v v' with
  | some (q,u)=>some ⟨bQ p (bQ p' q),.mG,u⟩
  | none=>match Al P T ob v v' with
   | some (q,u)=>some ⟨bQ p (bQ p' q),.mG,u⟩
   | none=>match Al P T (oW (sf ob v') ob) v (x8 ob v') with
    | some (q,u)=>some ⟨bQ p (bQ p' q),.mG,bQ u (sf ob v')⟩
    | none=>none
 | .nilCheck x=>fe tm x fun p v=>match pT ob v with
  | true=>match v with
   | .ptr _ _=>some ⟨p,v,[]⟩
   | .dq _ _ _=>some ⟨p,v,[]⟩
   | .epr _ _ _ _=>some ⟨p,v,[]⟩
   | .fn _ _ _=>some ⟨p,v,[]⟩
   | _=>none
  | false=>none
 | .binOp op T x y _=>fe tm x fun p v=>fe tm y fun p' v'=>match DA P op T ob y v with
  | some w=>some ⟨bQ p p',w,[]⟩
  | none=>match QM P op T v v' with
   | some (q,w)=>some ⟨bQ p (bQ p' q),w,[]⟩
   | none=>none
 | .unOp op _ x=>fe tm x fun p v=>match op,v with
  | .not,.bool b=>some ⟨p,.bool (!b),[]⟩
  | .neg,.int k n=>some ⟨p,.int k (k.wrap (0-n)),[]⟩
  | .xor,.int k n=>some ⟨p,.int k (k.wrap (uP k (if k.signed then -1 else k.max) n)),[]⟩
  | _,_=>none
 | .convert src dst x=>fe tm x fun p v=>match Dt P src dst ob nm v with
  | some (q,w,u)=>some ⟨bQ p q,w,u⟩
  | none=>none
 | .sliceToArrayPointer arr x=>fe tm x fun p v=>match v,P.underlying arr,Ai P 16 arr with
  | .fsl e xs,some (.array n _),some s=>match x6 e xs n 0 s with
   | some t=>some ⟨bQ p [n<=xs.length],.dq s t 0,[]⟩
   | none=>none
  | _,_,_=>none
 | .makeInterface T x=>fe tm x fun p v=>match P.underlying T with
  | some (.interface _)=>none
  | some _=>match DB ob T v with
   | some (t,u)=>some ⟨p,.er t,u⟩
   | none=>some ⟨p,.ifc T v,[]⟩
  | none=>none
 | .makeFunc fn first cap=>match fn with
  | .func f=>pS tm first.toList fun p x=>pS tm cap.toList fun q y=>some ⟨bQ p q,.fn f x y,[]⟩
  | _=>none
 | .makeSlice T l c=>fe tm l fun p a=>fe tm c fun q b=>match a,b,P.underlying T with
  | .int _ n,.int _ m,some (.slice el)=>match oU P el,lR P el with
   | some e,some z=>match wa e z with
    | some t=>some ⟨bQ p (bQ q [0<=n/\n<=m/\m<9223372036854775808/\roomy P el m.toNat]),.own nm e,[(nm,some (.rows e (List.replicate n.toNat t)))]⟩
    | _=>none
   | _,_=>none
  | _,_,_=>none
 | .slice T x lo hi mx=>fe tm x fun p v=>match pT ob v,Du P T tm ob v lo hi mx nm with
  | true,some (q,w,u)=>some ⟨bQ p q,w,u⟩
  | _,_=>none
 | .fieldAddr T x f=>fe tm x fun p v=>match pT ob v,QP P T v f with
  | true,some w=>some ⟨p,w,[]⟩
  | _,_=>none
 | .field T x f=>fe tm x fun p v=>match v,Aj P T f with
  | .agg l,some f=>match kG P f.type f.offset l with
   | some w=>fv w fun w=>some ⟨p,w,[]⟩
   | none=>none
  | .arr e x,some f=>match wg P f.type e x f.offset with
   | some w=>some ⟨p,w,[]⟩
   | none=>none
  | _,_=>none
 | .indexAddr T x i=>fe tm x fun p v=>fe tm i fun q j=>match pT ob v,Dj P T (Yd i) ob v j with
  | true,some (r,w)=>some ⟨bQ p (bQ q r),w,[]⟩
  | _,_=>none
 | .index T x i=>fe tm x fun p v=>fe tm i fun q j=>match QO P T (Yd i) v j with
  | some (r,w)=>fv w fun w=>some ⟨bQ p (bQ q r),w,[]⟩
  | none=>none
 | .extract x i=>fe tm x fun p v=>match v with
  | .fG l=>match nth l i with
   | some w=>fv w fun w=>some ⟨p,w,[]⟩
   | none=>none
  | _=>none
 | .call c=>match c.callee with
  | .value f=>fe tm f fun p QV=>pS tm c.args.toList fun q args=>match QV with
   | .fn F first cap=>match C F (bQ first (bQ args cap)) ob nm with
    | some (r,v,u)=>fv v fun v=>some ⟨bQ p (bQ q [r]),v,u⟩
    | none=>none
   | _=>none
  | .builtin .len=>match c.args.toList,c.argTypes.toList with
   | [x],[T]=>fe tm x fun p v=>match pT ob v,Dy P T ob v with
    | true,some w=>some ⟨p,w,[]⟩
    | _,_=>none
   | _,_=>none
  | .builtin .append=>match c.args.toList,c.argTypes.toList with
   | [x,y],[T,T']=>fe tm x fun p v=>fe tm y fun p' v'=>match Dw P T T' ob nm v v' with
    | some (q,w,u)=>some ⟨bQ p (bQ p' q),w,u⟩
    | none=>none
   | _,_=>none
  | .builtin .max=>pS tm c.args.toList fun p l=>match l with
   | v::r=>match oV true v r with
    | some w=>some ⟨p,w,[]⟩
    | none=>none
   | []=>none
  | .builtin .min=>pS tm c.args.toList fun p l=>match l with
   | v::r=>match oV false v r with
    | some w=>some ⟨p,w,[]⟩
    | none=>none
   | []=>none
  | .builtin .copy=>match c.args.toList,c.argTypes.toList with
   | [x,y],[T,T']=>fe tm x fun p v=>fe tm y fun p' v'=>match Dx P T ob v v' with
    | some (q,w,u)=>some ⟨bQ p (bQ p' q),w,u⟩
    | none=>none
   | _,_=>none
  | _=>none
 | _=>none
structure Ga where
 tmps:List (Nat×AV)
 eB:cx
 next:Nat
 nt:Nat
def sg{α:Sort u}(n:Nat)(k:Nat->α):α:=
 match n with
 | 0=>k 0
 | n+1=>k (Nat.succ n)
noncomputable def Mt{α:Sort u}(l m:cx):(cx->α)->α:=
 List.rec (motive:=fun _=>(cx->α)->α) (fun k=>k m) (fun x _ ih k=>ih fun q=>k (x::q)) l
theorem zl6{α:Sort u}(x:Nat×Option AO)(r m:cx)(k:cx->α):Mt (x::r) m k=Mt r m fun q=>k (x::q):=rfl
noncomputable def Ga.app{α:Sort u}(g:Ga)(d:Option Nat)(v:AV)(u:cx)(k:Ga->α):α:=
 match g with
 | ⟨tm,ob,nx,nt⟩=>Mt u ob fun ob'=>match d with
  | some d=>k ⟨(d,v)::tm,ob',nx,nt⟩
  | none=>k ⟨tm,ob',nx,nt⟩
noncomputable def wx{α:Sort u}(s:Nat)(l:List (Nat×AV)):(List (Nat×AV)->α)->α:=
 List.rec (motive:=fun _=>Nat->(List (Nat×AV)->α)->α) (fun _ k=>k [])
  (fun x _ ih s k=>match x with
   | (n,v)=>match Nat.beq (Nat.land (Nat.shiftRight s n) 1) 1 with
    | true=>ih s k
    | false=>fv v fun v'=>ih (Nat.lor s (Nat.shiftLeft 1 n)) fun q=>k ((n,v')::q)) l s
theorem Mu{α:Sort u}(s n:Nat)(v:AV)(r:List (Nat×AV))(k:List (Nat×AV)->α):wx s ((n,v)::r) k=
  match Nat.beq (Nat.land (Nat.shiftRight s n) 1) 1 with
  | true=>wx s r k
  | false=>fv v fun v'=>wx (Nat.lor s (Nat.shiftLeft 1 n)) r fun q=>k ((n,v')::q):=rfl
noncomputable def Mv{α:Sort u}(o:AO)(k:AO->α):α:=
 match o with
 | .cells l=>tB l fun l'=>k (.cells l')
 | .rows e xs=>k (.rows e xs)
 | .gR e xs=>k (.gR e xs)
 | .hM l=>tB l fun l'=>k (.hM l')
 | .mp a b c=>k (.mp a b c)
noncomputable def tE{α:Sort u}(s:Nat)(l:cx):(cx->α)->α:=
 List.rec (motive:=fun _=>Nat->(cx->α)->α) (fun _ k=>k [])
  (fun x _ ih s k=>match x with
   | (n,o)=>match Nat.beq (Nat.land (Nat.shiftRight s n) 1) 1 with
    | true=>ih s k
    | false=>sg n fun n'=>match o with
     | none=>ih (Nat.lor s (Nat.shiftLeft 1 n')) k
     | some o=>Mv o fun o'=>ih (Nat.lor s (Nat.shiftLeft 1 n')) fun q=>k ((n',some o')::q)) l s
theorem Mw{α:Sort u}(s n:Nat)(o:Option AO)(r:cx)(k:cx->α):tE s ((n,o)::r) k=
  match Nat.beq (Nat.land (Nat.shiftRight s n) 1) 1 with
  | true=>tE s r k
  | false=>sg n fun n'=>match o with
   | none=>tE (Nat.lor s (Nat.shiftLeft 1 n')) r k
   | some o=>Mv o fun o'=>tE (Nat.lor s (Nat.shiftLeft 1 n')) r fun q=>k ((n',some o')::q):=rfl
noncomputable def Ga.jl{α:Sort u}(g:Ga)(k:Ga->α):α:=
 match g with
 | ⟨tm,ob,nx,nt⟩=>wx 0 tm fun iq=>tE 0 ob fun ob'=>sg nx fun G8=>k ⟨iq,ob',G8,nt⟩
structure Ob(p:Prop):Prop where
 out:p
noncomputable def Ao(l:List Prop):Prop->Prop:=
 List.rec (motive:=fun _=>Prop->Prop) (fun q=>q) (fun p _ ih q=>Ob p/\ih q) l
theorem zl7(q:Prop):Ao [] q=q:=rfl
theorem zl8(p:Prop)(r:List Prop)(q:Prop):Ao (p::r) q=(Ob p/\Ao r q):=rfl
noncomputable def DE(c:Bool)(l:List Prop):Prop->Prop:=
 List.rec (motive:=fun _=>Prop->Prop) (fun q=>q) (fun p _ ih q=>(c=true->Ob p)/\ih q) l
theorem zl9(c:Bool)(q:Prop):DE c [] q=q:=rfl
theorem zma(c:Bool)(p:Prop)(r:List Prop)(q:Prop):DE c (p::r) q=((c=true->Ob p)/\DE c r q):=rfl
def tF(ops:List Oper)(tm:Nat->Option AV)(o:Oper):Option (Option Bool):=
 match o.guard with
 | none=>some none
 | some (j,want)=>match nth ops j with
  | some oj=>match oj.dst with
   | some t=>match tm t with
    | some (.bool b)=>match want with
     | true=>some (some b)
     | false=>some (some (!b))
    | some (.when g (.bool b))=>match want with
     | true=>some (some (g&&b))
     | false=>some (some (g&&!b))
    | _=>none
   | none=>none
  | none=>none
noncomputable def Aq(v:AV)(k:AV->Prop):Prop:=
 match v with
 | .ite c a b=>(c=true->fv a k)/\(c=false->fv b k)
 | v=>k v
def G9(nt:Nat):Option Nat->Bool
 | some d=>Nat.blt d nt
 | none=>true
structure Tr where
 o:Oper
 v:AV
 u:cx
 a:List AV
def ir(tm:Nat->Option AV):List Operand->List AV
 | []=>[]
 | x::r=>fc tm x::ir tm r
mutual
/-- The names in an abstract value. -/
def AV.pV:AV->List Nat
 | .ptr m _=>[m]
 | .rsl m _ _ _=>[m]
 | .epr m _ _ _=>[m]
 | .csl m _ _=>[m]
 | .own m _=>[m]
 | .cpr m _ _ _=>[m]
 | .wsl m _ _ _ _ _ _ _=>[m]
 | .mpr m=>[m]
 | .fn _ x y=>bQ (AV.sk x) (AV.sk y)
 | .ifc _ a=>AV.pV a
 | .agg l=>AV.sk l
 | .fG l=>AV.sk l
 | .when _ a=>AV.pV a
 | .ite _ a b=>bQ (AV.pV a) (AV.pV b)
 | _=>[]
def AV.sk:List AV->List Nat
 | []=>[]
 | a::l=>bQ (AV.pV a) (AV.sk l)
end
def QW(ob:Nat->Option AO)(n:Nat):List Nat:=
 match ob n with
 | some (.cells l)=>AV.sk l
 | some (.hM l)=>AV.sk l
 | _=>[]
def uY(ob:Nat->Option AO):List Nat->List Nat
 | []=>[]
 | n::r=>bQ (QW ob n) (uY ob r)
def sn(ob:Nat->Option AO):Nat->List Nat->List Nat
 | 0,l=>l
 | k+1,l=>bQ l (sn ob k (uY ob l))
def Ha:List Nat->List AV
 | []=>[]
 | n::r=>.ptr n 0::Ha r
def lu(ob:Nat->Option AO)(l:List AV):List AV:=bQ l (Ha (sn ob 6 (AV.sk l)))
def kI(o:Op)(ob:Nat->Option AO)(l:List AV):List AV:=
 match o with
 | .call _=>lu ob l
 | _=>l
def DF(P:Program)(t:TypeId):AV:=
 match lR P t with
 | some [v]=>v
 | some l=>.agg l
 | none=>.mG
def sq:cx->cx
 | []=>[]
 | (n,_)::r=>(n,none)::sq r
noncomputable def Hb(P:Program)(C:Ctx)(all:List Oper)(o:Oper)(ih:Nat->Ga->(List Tr->Ga->Prop)->Prop)(i:Nat)(g:Ga)(k:List Tr->Ga->Prop):Prop:=
 match g with
 | ⟨tm,ob,nx,nt⟩=>match G9 nt o.dst with
  | false=>False
  | true=>match tF all (aQ tm) o with
   | none=>False
   | some none=>sg (nx+16*i) fun nm=>match mH P C (aQ tm) (dP ob) nm o with
    | none=>False
    | some ⟨eU,v,u⟩=>Ao eU (Aq v fun v'=>Ga.app ⟨tm,ob,nx,nt⟩ o.dst v' u fun g1=>ih (i+1) g1 fun tr g'=>k (⟨o,v',u,kI o.op (dP ob) (ir (aQ tm) o.op.operands.toList)⟩::tr) g')
   | some (some c)=>sg (nx+16*i) fun nm=>match mH P C (aQ tm) (dP ob) nm o with
    | some ⟨eU,v,u⟩=>DE c eU (Ga.app ⟨tm,ob,nx,nt⟩ o.dst (.when c v) (sq u) fun g1=>ih (i+1) g1 fun tr g'=>k (⟨o,.when c v,sq u,kI o.op (dP ob) (ir (aQ tm) o.op.operands.toList)⟩::tr) g')
    | none=>DE c [False] (Ga.app ⟨tm,ob,nx,nt⟩ o.dst (.when c (DF P o.type)) [] fun g1=>ih (i+1) g1 fun tr g'=>k (⟨o,.when c (DF P o.type),[],kI o.op (dP ob) (ir (aQ tm) o.op.operands.toList)⟩::tr) g')
noncomputable def uZ(P:Program)(C:Ctx)(all:List Oper)(i:Nat)(ops:List Oper):Ga->(List Tr->Ga->Prop)->Prop:=
 List.rec (motive:=fun _=>Nat->Ga->(List Tr->Ga->Prop)->Prop)
  (fun i g k=>match g with
   | ⟨tm,ob,nx,nt⟩=>k [] ⟨tm,ob,nx+16*i,nt⟩)
  (fun o _ ih i g k=>Hb P C all o ih i g k) ops i
theorem QX(P:Program)(C:Ctx)(all:List Oper)(i:Nat)(o:Oper)(r:List Oper)(g:Ga)(k:List Tr->Ga->Prop):
  uZ P C all i (o::r) g k=Hb P C all o (fun i=>uZ P C all i r) i g k:=rfl
def DG:List Nat->Nat->Nat
 | [],_=>0
 | x::r,n=>match n with
  | 0=>x
  | n+1=>DG r n
def ya(acc:List Nat):List Edge->Nat->Nat
 | [],m=>m
 | e::r,m=>match Region.binds .any e with
  | true=>ya acc r (Nat.lor (Nat.lor m (Nat.shiftLeft 1 e.on)) (DG acc e.on))
  | false=>ya acc r m
def Ar:List Oper->List Nat->List Nat
 | [],acc=>acc
 | o::r,acc=>Ar r (bQ acc [ya acc o.after.toList 0])
def Hc(i:Nat):List Edge->Bool
 | []=>true
 | e::r=>match Region.binds .any e,Nat.blt e.on i with
  | true,false=>false
  | _,_=>Hc i r
def dG(n:Nat):List Nat->Bool
 | []=>false
 | m::r=>match Nat.beq n m with
  | true=>true
  | false=>dG n r
def tmpsOf:List Operand->List Nat
 | []=>[]
 | .tmp t::r=>t::tmpsOf r
 | _::r=>tmpsOf r
def DH(all:List Oper)(o:Oper):List Nat:=
 match o.guard with
 | none=>tmpsOf o.op.operands.toList
 | some (j,_)=>match nth all j with
  | some oj=>match oj.dst with
   | some t=>t::tmpsOf o.op.operands.toList
   | none=>tmpsOf o.op.operands.toList
  | none=>tmpsOf o.op.operands.toList
mutual
/-- Is a name in an abstract value? -/
def AV.has(n:Nat):AV->Bool
 | .ptr m _=>Nat.beq n m
 | .rsl m _ _ _=>Nat.beq n m
 | .epr m _ _ _=>Nat.beq n m
 | .csl m _ _=>Nat.beq n m
 | .own m _=>Nat.beq n m
 | .cpr m _ _ _=>Nat.beq n m
 | .wsl m _ _ _ _ _ _ _=>Nat.beq n m
 | .mpr m=>Nat.beq n m
 | .fn _ x y=>AV.dK n x||AV.dK n y
 | .ifc _ a=>AV.has n a
 | .agg l=>AV.dK n l
 | .fG l=>AV.dK n l
 | .when _ a=>AV.has n a
 | .ite _ a b=>AV.has n a||AV.has n b
 | _=>false
def AV.dK(n:Nat):List AV->Bool
 | []=>false
 | a::l=>AV.has n a||AV.dK n l
end
def QY(u:cx)(n:Nat):Bool:=
 match aQ u n with
 | some _=>true
 | none=>false
def DI(u:cx)(p:Nat->Bool):Bool:=
 match u with
 | []=>false
 | (n,_)::r=>p n||DI r p
def As(o:Op):Bool:=
 match o with
 | .move _=>false
 | .assign _=>false
 | _=>true
def pW(all:List Oper)(x y:Tr):Bool:=
 (match y.o.dst with
  | some d=>dG d (DH all x.o)||(match x.o.dst with
   | some d'=>Nat.beq d d'
   | none=>false)
  | none=>false)||
 DI y.u fun n=>(As x.o.op&&AV.dK n x.a)||QY x.u n
def Mx(all:List Oper)(m:Nat)(y:Tr):Nat->List Tr->Bool
 | _,[]=>true
 | i,x::r=>(Nat.testBit m i||!(pW all x y||pW all y x))&&Mx all m y (i+1) r
def Hd(all:List Oper):List Nat->List Tr->List Tr->Nat->Bool
 | m::ms,y::ys,seen,j=>Hc j y.o.after.toList&&Mx all m y 0 seen&&Hd all ms ys (bQ seen [y]) (j+1)
 | _,[],_,_=>true
 | [],_::_,_,_=>false
def yb(ops:List Oper)(tr:List Tr):Bool:=Hd ops (Ar ops []) tr [] 0
set_option linter.unusedSimpArgs false
theorem Row.mono{w w':World}{b o:Nat}{cs:List Value}(hb:w'.heap[b]? =w.heap[b]?)(h:Row w b o cs):Row w' b o cs:=by
 intro j hj
 have:=h j hj
 simpa only[World.cell?,hb] using this
theorem eT.mono{w w':World}{ok nu:Nat->Prop}(hw:∀ b,ok b->w'.heap[b]? =w.heap[b]?)(ho:∀ b,ok b->nu b):
  ∀ (t:kc) (v:Value),eT w ok t v->eT w' nu t v
 | .nil,v,h=>h
 | .num _ _ _,v,h=>h
 | .any _,v,h=>h
 | .at' t n e,v,h=>by
  simp only[eT] at h ⊢
  obtain⟨b,x,h1,h2,h3,h4⟩:=h
  exact⟨b,x,h1,ho _ h2,h3.mono (hw b h2),eT.mono hw ho e x h4⟩
 | .xW t s e,v,h=>by
  simp only[eT] at h ⊢
  obtain⟨b,x,h1,h2,h3,h4⟩:=h
  exact⟨b,x,h1,ho _ h2,h3.mono (hw b h2),eT.mono hw ho e x h4⟩
theorem eT.leaf{w:World}{ok:Nat->Prop}{t:kc}{v:Value}(h:eT w ok t v):eL v:=by
 cases t with
 | nil=>simp only[eT] at h;subst h;trivial
 | num t k n=>simp only[eT] at h;subst h;trivial
 | at' t n e=>simp only[eT] at h;obtain⟨b,x,rfl,_⟩:=h;trivial
 | xW t s e=>simp only[eT] at h;obtain⟨b,x,rfl,_⟩:=h;trivial
 | any t=>simp only[eT] at h;obtain⟨x,rfl⟩:=h;trivial
theorem aN.mono{w w':World}{ok nu:Nat->Prop}(hw:∀ b,ok b->w'.heap[b]? =w.heap[b]?)(ho:∀ b,ok b->nu b):
  ∀ (s:Sh) (x:s.T) (vs:List Value),aN w ok s x vs->aN w' nu s x vs:=by
 intro s
 induction s with
 | int k=>intro x vs h;exact h
 | bool=>intro x vs h;exact h
 | str=>intro x vs h;exact h
 | unit=>intro x vs h;exact h
 | sl e ih=>
  intro x vs h
  simp only[aN] at h ⊢
  obtain⟨base,cap,h1,h2,h3⟩:=h
  refine⟨base,cap,h1,h2,?_⟩
  rcases h3 with h3 | ⟨b,o,h4,h5,h6⟩
  ·exact .inl h3
  ·refine .inr ⟨b,o,h4,ho _ h5,fun i hi=>?_⟩
   obtain⟨cs,g1,g2,g3⟩:=h6 i hi
   exact⟨cs,g1,g2.mono (hw b h5),ih _ _ g3⟩
 | arr n e ih=>
  intro x vs h
  simp only[aN] at h ⊢
  exact⟨h.1,h.2.1,fun i hi=>ih _ _ (h.2.2 i hi)⟩
 | pair a b fP fQ=>
  intro x vs h
  simp only[aN] at h ⊢
  obtain⟨v1,v2,h1,h2,h3⟩:=h
  exact⟨v1,v2,h1,fP _ _ h2,fQ _ _ h3⟩
 | pt e ih=>
  intro x vs h
  simp only[aN] at h ⊢
  obtain⟨b,o,cs,h1,h2,h3,h4,h5⟩:=h
  exact⟨b,o,cs,h1,ho _ h2,h3,h4.mono (hw _ h2),ih _ _ h5⟩
 | err=>
  intro x vs h
  simp only[aN] at h ⊢
  obtain⟨v,h1,h2⟩:=h
  exact⟨v,h1,eT.mono hw ho x v h2⟩
theorem lq.mono{w w':World}{ok nu:Nat->Prop}(hw:∀ b,ok b->w'.heap[b]? =w.heap[b]?)(ho:∀ b,ok b->nu b){k:IntKind}{e:Sh}:∀ {l:List (Int×e.T)} {ms:List MapEntry},lq w ok k e l ms->lq w' nu k e l ms
 | [],ms,h=>h
 | p::l,ms,h=>by
  obtain⟨m,r,h1,h2,h3,h4⟩:=h
  exact⟨m,r,h1,h2,aN.mono hw ho _ _ _ h3,lq.mono hw ho h4⟩
structure u0(us:Nat->Prop)(E E':Env):Prop where
 hw:∀ b,E.ok b->E'.w.heap[b]? =E.w.heap[b]?
 ho:∀ b,E.ok b->E'.ok b
 mu:∀ n,us n->∀ L',E'.mu n=some L'->∃ L,E.mu n=some L/\L.base=L'.base/\L.cap=L'.cap/\L.len=L'.len
mutual
theorem VR.mono{us:Nat->Prop}{E E':Env}(g:u0 us E E'):∀ (a:AV) (v:Value),a.nm us->VR E a v->VR E' a v
 | .mG,_,_,_=>by simp[VR]
 | .pQ,v,_,h=>by simpa [VR] using h
 | .int k n,v,_,h=>by simpa [VR] using h
 | .bool b,v,_,h=>by simpa [VR] using h
 | .str l,v,_,h=>by simpa [VR] using h
 | .jS,v,_,h=>by simpa [VR] using h
 | .nilsl,v,_,h=>by simpa [VR] using h
 | .nilif,v,_,h=>by simpa [VR] using h
 | .nV,v,_,h=>by simpa [VR] using h
 | .fsl e xs,v,_,h=>by
  simp only[VR] at h ⊢
  exact aN.mono g.hw g.ho _ _ _ h
 | .dq e x off,v,_,h=>by
  simp only[VR] at h ⊢
  obtain⟨b,o,cs,h1,h2,h3,h4,h5⟩:=h
  exact⟨b,o,cs,h1,g.ho _ h2,h3,h4.mono (g.hw _ h2),aN.mono g.hw g.ho _ _ _ h5⟩
 | .ptr n off,v,hn,h=>by
  simp only[VR,AV.nm] at h hn ⊢
  refine⟨h.1,fun L' c9=>?_⟩
  obtain⟨L,hL,hb,hc⟩:=g.mu n hn L' c9
  obtain⟨b,h1,h2⟩:=h.2 L hL
  exact⟨b,hb▸h1,h2⟩
 | .rsl n e off len,v,hn,h=>by
  simp only[VR,AV.nm] at h hn ⊢
  refine⟨h.1,fun L' c9=>?_⟩
  obtain⟨L,hL,hb,hc,_⟩:=g.mu n hn L' c9
  rw[<-hb,<-hc]
  exact h.2 L hL
 | .epr n e i off,v,hn,h=>by
  simp only[VR,AV.nm] at h hn ⊢
  refine⟨h.1,fun L' c9=>?_⟩
  obtain⟨L,hL,hb,hc⟩:=g.mu n hn L' c9
  rw[<-hb]
  exact h.2 L hL
 | .csl n off len,v,hn,h=>by
  simp only[VR,AV.nm] at h hn ⊢
  refine⟨h.1,fun L' c9=>?_⟩
  obtain⟨L,hL,hb,hc⟩:=g.mu n hn L' c9
  rw[<-hb]
  exact h.2 L hL
 | .own n e,v,hn,h=>by
  simp only[VR,AV.nm] at h hn ⊢
  refine⟨h.1,fun L' c9=>?_⟩
  obtain⟨L,hL,hb,hc,hl⟩:=g.mu n hn L' c9
  rw[<-hb,<-hc,<-hl]
  exact h.2 L hL
 | .cpr n off i m,v,hn,h=>by
  simp only[VR,AV.nm] at h hn ⊢
  refine⟨h.1,h.2.1,fun L' c9=>?_⟩
  obtain⟨L,hL,hb,hc,hl⟩:=g.mu n hn L' c9
  rw[<-hb]
  exact h.2.2 L hL
 | .wsl n e i at' m s off len,v,hn,h=>by
  simp only[VR,AV.nm] at h hn ⊢
  refine⟨h.1,fun L' c9=>?_⟩
  obtain⟨L,hL,hb,hc⟩:=g.mu n hn L' c9
  rw[<-hb]
  exact h.2 L hL
 | .mpr n,v,hn,h=>by
  simp only[VR,AV.nm] at h hn ⊢
  refine⟨h.1,fun L' c9=>?_⟩
  obtain⟨L,hL,hb,hc⟩:=g.mu n hn L' c9
  rw[<-hb]
  exact h.2 L hL
 | .fn f x y,v,hn,h=>by
  simp only[VR,AV.nm] at h hn ⊢
  obtain⟨p,q,h1,h2,h3⟩:=h
  exact⟨p,q,h1,aR.mono g x p hn.1 h2,aR.mono g y q hn.2 h3⟩
 | .ifc t a,v,hn,h=>by
  simp only[VR,AV.nm] at h hn ⊢
  obtain⟨x,h1,h2⟩:=h
  exact⟨x,h1,VR.mono g a x hn h2⟩
 | .agg l,v,hn,h=>by
  simp only[VR,AV.nm] at h hn ⊢
  obtain⟨x,h1,h2⟩:=h
  exact⟨x,h1,aR.mono g l x hn h2⟩
 | .arr e xs,v,_,h=>by
  simp only[VR] at h ⊢
  obtain⟨x,h1,h2⟩:=h
  exact⟨x,h1,aN.mono g.hw g.ho _ _ _ h2⟩
 | .fG l,v,hn,h=>by
  simp only[VR,AV.nm] at h hn ⊢
  obtain⟨x,h1,h2⟩:=h
  exact⟨x,h1,aR.mono g l x hn h2⟩
 | .when c a,v,hn,h=>by
  simp only[VR,AV.nm] at h hn ⊢
  exact⟨fun hc=>VR.mono g a v (hn hc) (h.1 hc),h.2⟩
 | .ite c a b,v,hn,h=>by
  simp only[VR,AV.nm] at h hn ⊢
  exact⟨fun hc=>VR.mono g a v hn.1 (h.1 hc),fun hc=>VR.mono g b v hn.2 (h.2 hc)⟩
 | .er t,v,_,h=>by
  simp only[VR] at h ⊢
  exact eT.mono g.hw g.ho t v h
theorem aR.mono{us:Nat->Prop}{E E':Env}(g:u0 us E E'):∀ (l:List AV) (vs:List Value),AV.cI us l->aR E l vs->aR E' l vs
 | [],vs,_,h=>by simpa [aR] using h
 | a::l,vs,hn,h=>by
  simp only[aR,AV.cI] at h hn ⊢
  obtain⟨v,r,h1,h2,h3⟩:=h
  exact⟨v,r,h1,VR.mono g a v hn.1 h2,aR.mono g l r hn.2 h3⟩
end
mutual
theorem AV.nX{p q:Nat->Prop}(h:∀ n,p n->q n):∀ a:AV,a.nm p->a.nm q
 | .mG,_ | .pQ,_ | .int _ _,_ | .bool _,_ | .str _,_ | .jS,_ | .nilsl,_ | .nilif,_ | .nV,_ | .fsl _ _,_ | .dq _ _ _,_ | .arr _ _,_ | .er _,_=>by simp[AV.nm]
 | .ptr n _,hn | .rsl n _ _ _,hn | .epr n _ _ _,hn | .csl n _ _,hn | .own n _,hn | .cpr n _ _ _,hn | .wsl n _ _ _ _ _ _ _,hn | .mpr n,hn=>by
  simp only[AV.nm] at hn ⊢
  exact h _ hn
 | .fn f x y,hn=>by simp only[AV.nm] at hn ⊢;exact⟨AV.u3 h x hn.1,AV.u3 h y hn.2⟩
 | .ifc t a,hn=>by simp only[AV.nm] at hn ⊢;exact AV.nX h a hn
 | .agg l,hn=>by simp only[AV.nm] at hn ⊢;exact AV.u3 h l hn
 | .fG l,hn=>by simp only[AV.nm] at hn ⊢;exact AV.u3 h l hn
 | .when c a,hn=>by simp only[AV.nm] at hn ⊢;exact fun hc=>AV.nX h a (hn hc)
 | .ite c a b,hn=>by simp only[AV.nm] at hn ⊢;exact⟨AV.nX h a hn.1,AV.nX h b hn.2⟩
theorem AV.u3{p q:Nat->Prop}(h:∀ n,p n->q n):∀ l:List AV,AV.cI p l->AV.cI q l
 | [],_=>by simp[AV.cI]
 | a::l,hn=>by simp only[AV.cI] at hn ⊢;exact⟨AV.nX h a hn.1,AV.u3 h l hn.2⟩
end
theorem AO.nX{p q:Nat->Prop}(h:∀ n,p n->q n)(o:AO)(hn:o.nm p):o.nm q:=by
 cases o<;>simp only[AO.nm] at hn ⊢
 ·exact AV.u3 h _ hn
 ·exact AV.u3 h _ hn
theorem eO.mono{us:Nat->Prop}{E E':Env}(g:u0 us E E'){n:Nat}{o:AO}(hn:o.nm us)(gp:E'.mu n=E.mu n)
  (hb:∀ b,cV E n b->E'.w.heap[b]? =E.w.heap[b]?) (h:eO E n o):eO E' n o:=by
 cases o with
 | cells l=>
  simp only[eO,AO.nm] at h hn ⊢
  obtain⟨b,cs,T,fr,h1,h2,h3,h4⟩:=h
  exact⟨b,cs,T,fr,gp.trans h1,(hb b ⟨_,h1,rfl,rfl⟩).trans h2,h3,aR.mono g _ _ hn h4⟩
 | rows e xs=>
  simp only[eO] at h ⊢
  obtain⟨L,h1,hl,h2⟩:=h
  refine⟨L,gp.trans h1,hl,?_⟩
  rcases h2 with h2 | ⟨b,cs,T,fr,h3,h4,h5,h6,h7,h8,h9⟩
  ·exact .inl h2
  ·exact .inr ⟨b,cs,T,fr,h3,h4,(hb b ⟨L,h1,h4,h3⟩).trans h5,h6,h7,h8,fun i hi=>aN.mono g.hw g.ho _ _ _ (h9 i hi)⟩
 | gR e xs=>
  simp only[eO] at h ⊢
  obtain⟨L,h1,hl,h2,gF,h3⟩:=h
  exact⟨L,gp.trans h1,hl,h2,gF,aN.mono g.hw g.ho _ _ _ h3⟩
 | hM l=>
  simp only[eO,AO.nm] at h hn ⊢
  obtain⟨b,cs,T,fr,h1,h2,h3,h4⟩:=h
  exact⟨b,cs,T,fr,gp.trans h1,g.ho _ h2,(g.hw b h2).trans h3,aR.mono g _ _ hn h4⟩
 | mp k e l=>
  simp only[eO] at h ⊢
  obtain⟨b,es,c,h1,h2,h3⟩:=h
  exact⟨b,es,c,gp.trans h1,(hb b ⟨_,h1,rfl,rfl⟩).trans h2,lq.mono g.hw g.ho h3⟩
structure jm(W0:WX)(okIn B:Nat->Prop)(E:Env):Prop where
 inj:∀ n m b,cV E n b->cV E m b->n=m
 own:∀ n b,cV E n b->B b/\b<E.w.heap.size/\¬ E.ok b
 iR:∀ b,E.ok b->b<E.w.heap.size/\(okIn b\/B b)
 sr:∀ b,okIn b->E.ok b
 fr:∀ b,b<W0.heap.size->¬ B b->E.w.heap[b]? =W0.heap[b]?
 sz:W0.heap.size<=E.w.heap.size
 new:∀ b,W0.heap.size<=b->B b
 os:E.w.os=W0.os
 tape:E.w.tape=W0.tape
 output:E.w.output=W0.output
 li:∀ n L,E.mu n=some L->n<16->∃ L0,W0.m0 n=some L0/\L0.base=L.base/\L0.cap=L.cap/\L0.len=L.len
class Tabs (P:Program) where
 G:World->(Nat->Prop)->Prop
 mono:∀ (w w':World) (fz tG:Nat->Prop),(∀ b,fz b->tG b/\w'.heap[b]? =w.heap[b]?)->G w fz->G w' tG
def yc(P:Program)[Tabs P](W0:WX)(B:Nat->Prop):Prop:=Tabs.G P W0.toWorld fun b=>b<W0.heap.size/\¬ B b
structure df(W0:WX)(okIn B us:Nat->Prop)(tm:Nat->Option AV)(ob:Nat->Option AO)(nt:Nat)(E:Env)(a:Act):Prop where
 defers:a.defers=[]
 size:a.tmps.size=nt
 tmp:∀ t v,tm t=some v->VR E v (a.tmps.getD t undef)/\v.nm us
 obj:∀ n o,ob n=some o->eO E n o/\o.nm us/\us n
 dom:∀ n L,E.mu n=some L->∃ o,ob n=some o
 env:jm W0 okIn B E
 lo:∀ n,n<16->us n
structure qK(E:Env)(us:Nat->Prop)(ob:Nat->Option AO):Prop where
 obj:∀ n o,ob n=some o->eO E n o/\o.nm us/\us n
theorem df.ob{W0:WX}{okIn B us:Nat->Prop}{tm:Nat->Option AV}{ob:Nat->Option AO}{nt:Nat}{E:Env}{a:Act}(h:df W0 okIn B us tm ob nt E a):qK E us ob:=⟨h.obj⟩
def u4(d:Option Nat)(v:AV)(tm:Nat->Option AV)(t:Nat):Option AV:=
 match d with
 | some d=>match Nat.beq t d with
  | true=>some v
  | false=>tm t
 | none=>tm t
structure cK(W0:WX)(okIn B us gG:Nat->Prop)(E E':Env)(u:cx):Prop where
 sub:∀ n,us n->gG n
 mu:∀ n,aQ u n=none->E'.mu n=E.mu n
 My:∀ n,us n->∀ L',E'.mu n=some L'->∃ L,E.mu n=some L/\L.base=L'.base/\L.cap=L'.cap/\L.len=L'.len
 QZ:∀ n,aQ u n=some none->E'.mu n=none
 obj:∀ n o,aQ u n=some (some o)->eO E' n o/\o.nm gG/\gG n
 keep:∀ b,b<E.w.heap.size->(∀ n,cV E n b->aQ u n=none)->E'.w.heap[b]? =E.w.heap[b]?
 ho:∀ b,E.ok b->E'.ok b
 env:jm W0 okIn B E'
theorem cK.Hf{W0:WX}{okIn B us gG:Nat->Prop}{E E':Env}{u:cx}(h:cK W0 okIn B us gG E E' u)(he:jm W0 okIn B E):u0 us E E':=
 ⟨fun b hb=>h.keep b (he.iR b hb).1 fun n hn=>absurd hb (he.own n b hn).2.2,h.ho,h.My⟩
theorem beq_true{n m:Nat}(h:Nat.beq n m=true):n=m:=Nat.eq_of_beq_eq_true h
theorem beq_false{n m:Nat}(h:Nat.beq n m=false):n≠m:=Nat.ne_of_beq_eq_false h
theorem eV(n:Nat):Nat.beq n n=true:=Nat.beq_refl n
theorem Q0{n m:Nat}(h:n≠m):Nat.beq n m=false:=by
 cases hb:Nat.beq n m with
 | true=>exact absurd (beq_true hb) h
 | false=>rfl
theorem zmb(a:Act)(d:Option Nat)(x:Value)(t:Nat):
  (a.put d x).tmps.getD t undef=if d=some t/\t<a.tmps.size then x else a.tmps.getD t undef:=by
 cases d with
 | none=>simp[Act.put]
 | some d=>
  simp only[Act.put,Array.getD_eq_getD_getElem?,Option.some.injEq]
  by_cases Q1:d=t
  ·subst Q1
   by_cases hlt:d<a.tmps.size
   ·simp[hlt]
   ·simp[hlt]
  ·simp[Array.getElem?_setIfInBounds_ne Q1,Q1]
theorem df.Hg{W0:WX}{okIn B us gG:Nat->Prop}{tm:Nat->Option AV}{ob:Nat->Option AO}{nt:Nat}{E E':Env}{a:Act}{u:cx}
  (h:df W0 okIn B us tm ob nt E a) (hv:cK W0 okIn B us gG E E' u) {d:Option Nat} (hd:G9 nt d=true) {v:AV} {x:Value}
  (hx:VR E' v x) (cO:v.nm gG):df W0 okIn B gG (u4 d v tm) (oW u ob) nt E' (a.put d x):=by
 have g:=hv.Hf h.env
 refine⟨?_,?_,?_,?_,?_,hv.env,fun n hn=>hv.sub n (h.lo n hn)⟩
 ·cases d<;>simp[Act.put,h.defers]
 ·cases d<;>simp[Act.put,h.size]
 ·intro t y ht
  have DJ:=zmb a d x t
  unfold u4 at ht
  cases d with
  | none=>
   simp only at ht
   simp only[reduceCtorEq,false_and,if_false] at DJ
   rw[DJ]
   have:=h.tmp t y ht
   exact⟨VR.mono g _ _ this.2 this.1,AV.nX hv.sub _ this.2⟩
  | some d=>
   cases hb:Nat.beq t d with
   | true=>
    have Q2:=beq_true hb
    subst Q2
    simp only[hb,Option.some.injEq] at ht
    subst ht
    have hlt:t<a.tmps.size:=by
     simp only[G9] at hd
     rw[h.size];exact Nat.le_of_ble_eq_true hd
    simp only[true_and,hlt,if_true] at DJ
    rw[DJ]
    exact⟨hx,cO⟩
   | false=>
    have Q2:=beq_false hb
    simp only[hb] at ht
    have:¬ (some d=some t/\t<a.tmps.size):=fun hh=>Q2 (Option.some.inj hh.1).symm
    rw[if_neg this] at DJ
    rw[DJ]
    have:=h.tmp t y ht
    exact⟨VR.mono g _ _ this.2 this.1,AV.nX hv.sub _ this.2⟩
 ·intro n o hn
  unfold oW at hn
  cases hl:aQ u n with
  | some r=>
   rw[hl] at hn
   simp only at hn
   subst hn
   exact hv.obj n o hl
  | none=>
   rw[hl] at hn
   simp only at hn
   obtain⟨h1,h2,h3⟩:=h.obj n o hn
   refine⟨eO.mono g h2 (hv.mu n hl) (fun b hb=>?_) h1,AO.nX hv.sub _ h2,hv.sub _ h3⟩
   refine hv.keep b (h.env.own n b hb).2.1 fun m hm=>?_
   rw[h.env.inj m n b hm hb];exact hl
 ·intro n L hL
  unfold oW
  cases hl:aQ u n with
  | some r=>
   cases r with
   | some o=>exact⟨o,rfl⟩
   | none=>rw[hv.QZ n hl] at hL;exact absurd hL (by simp)
  | none=>
   rw[hv.mu n hl] at hL
   obtain⟨o,ho⟩:=h.dom n L hL
   exact⟨o,by simp[ho]⟩
theorem cK.refl{W0:WX}{okIn B us:Nat->Prop}{E:Env}(he:jm W0 okIn B E):cK W0 okIn B us us E E []:=
 ⟨fun _ h=>h,fun _ _=>rfl,fun n _ L h=>⟨L,h,rfl,rfl,rfl⟩,fun n h=>by simp[aQ] at h,fun n o h=>by simp[aQ] at h,fun _ _ _=>rfl,fun _ h=>h,he⟩
theorem Yg{α:Sort u}(v:AV)(k:AV->α):Ml v k=k v:=by cases v<;>rfl
theorem DK{α:Sort u}(l:List AV)(k:List AV->α):tB l k=k l:=by
 induction l generalizing k with
 | nil=>rfl
 | cons a r ih=>rw[zl5,Yg,ih]
theorem jU{α:Sort u}(v:AV)(k:AV->α):fv v k=k v:=by
 cases v<;>simp only[fv,Yg,DK]
theorem iC{α:Type}(l m:List α):bQ l m=l++m:=by
 induction l with
 | nil=>rfl
 | cons a r ih=>simp[bQ,ih]
theorem yd{α:Type}(n:Nat)(l:List α):qF n l=l.take n:=by
 induction n generalizing l with
 | zero=>simp[qF]
 | succ n ih=>cases l<;>simp[qF,ih]
theorem ye{α:Type}(n:Nat)(l:List α):qG n l=l.drop n:=by
 induction n generalizing l with
 | zero=>simp[qG]
 | succ n ih=>cases l<;>simp[qG,ih]
theorem lS{α:Type}(l:List α):iP l=l.length:=by
 induction l with
 | nil=>rfl
 | cons a r ih=>simp[iP,ih]
theorem su{α:Type}(l:List α)(n:Nat):nth l n=l[n]? :=by
 induction l generalizing n with
 | nil=>simp[nth]
 | cons a r ih=>cases n<;>simp[nth,ih]
def eC(us:Nat->Prop)(nm n:Nat):Prop:=us n\/(nm<=n/\n<nm+16)
theorem oY{us:Nat->Prop}{nm:Nat}:eC us nm nm:=.inr ⟨Nat.le_refl _,by omega⟩
theorem Yh(p:Nat->Prop):∀ l:List Value,AV.cI p (xX l)
 | []=>by simp[xX,AV.cI]
 | v::r=>by
  have:(vZ v).nm p:=by unfold vZ;split<;>simp[AV.nm]
  simp only[xX,AV.cI];exact⟨this,Yh p r⟩
theorem Yi(E:Env)(v:Value):VR E (vZ v) v:=by
 unfold vZ
 split<;>simp[VR]
theorem Yj(E:Env):∀ l:List Value,aR E (xX l) l
 | []=>by simp[xX,aR]
 | v::r=>by
  simp only[xX,aR]
  exact⟨v,r,rfl,Yi E v,Yj E r⟩
theorem Mz(E:Env)(v:Value)(p:Nat->Prop):VR E (pR v) v/\(pR v).nm p:=by
 unfold pR
 split
 ·rename_i xs
  refine⟨?_,Yh p _⟩
  simp only[VR]
  exact⟨xs.toList,by simp,Yj E _⟩
 ·refine⟨Yi E v,?_⟩
  unfold vZ
  split<;>simp[AV.nm]
theorem Q3(p:Nat->Prop):∀ l:List Value,AV.cI p (tC l)
 | []=>by simp[tC,AV.cI]
 | v::r=>by
  simp only[tC,AV.cI];exact⟨(Mz ⟨default,fun _=>none,fun _=>False⟩ v p).2,Q3 p r⟩
theorem Au(E:Env):∀ l:List Value,aR E (tC l) l
 | []=>by simp[tC,aR]
 | v::r=>by
  simp only[tC,aR]
  exact⟨v,r,rfl,(Mz E v fun _=>True).1,Au E r⟩
section
variable {W0:WX} {okIn B us:Nat->Prop} {tm:Nat->Option AV} {ob:Nat->Option AO} {nt:Nat} {E:Env} {a:Act}
theorem Hh(hs:df W0 okIn B us tm ob nt E a)(x:Operand):VR E (fc tm x) (a.eval x)/\(fc tm x).nm us:=by
 cases x with
 | tmp t=>
  simp only[fc,Act.eval]
  cases h:tm t with
  | none=>simp[VR,AV.nm]
  | some v=>exact hs.tmp t v h
 | const v=>exact Mz E v us
 | global g=>simp[fc,VR,AV.nm]
 | func f=>exact⟨⟨[],[],rfl,by simp[aR],by simp[aR]⟩,by simp[fc,AV.nm,AV.cI]⟩
theorem fR{α:Type}(hs:df W0 okIn B us tm ob nt E a){x:Operand}{k:List Prop->AV->Option α}{r:α}(h:fe tm x k=some r):
  ∃ p v,k p v=some r/\((∀ q∈p,q)->VR E v (a.eval x))/\((∀ q∈p,q)->v.nm us):=by
 have hx:=Hh hs x
 unfold fe at h
 split at h
 ·rename_i g v hv
  rw[jU] at h
  rw[hv] at hx
  simp only[VR,AV.nm] at hx
  exact⟨[g=true],v,h,fun hq=>hx.1.1 (hq _ (by simp)),fun hq=>hx.2 (hq _ (by simp))⟩
 ·rw[jU] at h
  exact⟨[],_,h,fun _=>hx.1,fun _=>hx.2⟩
theorem DL{α:Type}(hs:df W0 okIn B us tm ob nt E a):∀ {xs:List Operand} {k:List Prop->List AV->Option α} {r:α},pS tm xs k=some r->
  ∃ p vs,k p vs=some r/\((∀ q∈p,q)->aR E vs (xs.map a.eval))/\((∀ q∈p,q)->AV.cI us vs)
 | [],k,r,h=>⟨[],[],h,fun _=>by simp[aR],fun _=>by simp[AV.cI]⟩
 | x::xs,k,r,h=>by
  simp only[pS] at h
  obtain⟨p,v,h1,h2,h3⟩:=fR hs h
  obtain⟨q,vs,g1,g2,g3⟩:=DL hs h1
  refine⟨p++q,v::vs,g1,fun hq=>?_,fun hq=>⟨h3 fun r hr=>hq r (by simp[hr]),g3 fun r hr=>hq r (by simp[hr])⟩⟩
  simp only[List.map_cons,aR]
  exact⟨_,_,rfl,h2 fun r hr=>hq r (by simp[hr]),g2 fun r hr=>hq r (by simp[hr])⟩
theorem aR.nth{E:Env}:∀ {l:List AV} {vs:List Value} {i:Nat} {a:AV},aR E l vs->l[i]? =some a->∃ v,vs[i]? =some v/\VR E a v
 | [],vs,i,a,h,hi=>by simp at hi
 | b::l,vs,i,a,h,hi=>by
  simp only[aR] at h
  obtain⟨v,r,rfl,h1,h2⟩:=h
  cases i with
  | zero=>simp at hi;subst hi;exact⟨v,rfl,h1⟩
  | succ i=>simpa using aR.nth h2 (by simpa using hi)
theorem aR.length{E:Env}:∀ {l:List AV} {vs:List Value},aR E l vs->vs.length=l.length
 | [],vs,h=>by simp[aR] at h;simp[h]
 | b::l,vs,h=>by
  simp only[aR] at h
  obtain⟨v,r,rfl,h1,h2⟩:=h
  simp[aR.length h2]
theorem aR.take{E:Env}:∀ {l:List AV} {vs:List Value} (n:Nat),aR E l vs->aR E (l.take n) (vs.take n)
 | [],vs,n,h=>by simp[aR] at h;simp[h,aR]
 | b::l,vs,n,h=>by
  simp only[aR] at h
  obtain⟨v,r,rfl,h1,h2⟩:=h
  cases n with
  | zero=>simp[aR]
  | succ n=>simp only[List.take_succ_cons,aR];exact⟨v,_,rfl,h1,aR.take n h2⟩
theorem aR.drop{E:Env}:∀ {l:List AV} {vs:List Value} (n:Nat),aR E l vs->aR E (l.drop n) (vs.drop n)
 | [],vs,n,h=>by simp[aR] at h;simp[h,aR]
 | b::l,vs,n,h=>by
  cases n with
  | zero=>simpa using h
  | succ n=>
   simp only[aR] at h
   obtain⟨v,r,rfl,h1,h2⟩:=h
   simpa using aR.drop n h2
theorem aR.append{E:Env}:∀ {l m:List AV} {vs us:List Value},aR E l vs->aR E m us->aR E (l++m) (vs++us)
 | [],m,vs,us,h,g=>by simp[aR] at h;simpa [h] using g
 | b::l,m,vs,us,h,g=>by
  simp only[aR] at h
  obtain⟨v,r,rfl,h1,h2⟩:=h
  simp only[List.cons_append,aR]
  exact⟨v,_,rfl,h1,aR.append h2 g⟩
theorem Hi{p:Nat->Prop}:∀ {l:List AV} (n:Nat),AV.cI p l->AV.cI p (l.take n)
 | [],n,h=>by simp[AV.cI]
 | b::l,n,h=>by
  simp only[AV.cI] at h
  cases n with
  | zero=>simp[AV.cI]
  | succ n=>simp only[List.take_succ_cons,AV.cI];exact⟨h.1,Hi n h.2⟩
theorem Hj{p:Nat->Prop}:∀ {l:List AV} (n:Nat),AV.cI p l->AV.cI p (l.drop n)
 | [],n,h=>by simp[AV.cI]
 | b::l,n,h=>by
  cases n with
  | zero=>simpa using h
  | succ n=>simp only[AV.cI] at h;simpa using Hj n h.2
theorem DM{p:Nat->Prop}:∀ {l m:List AV},AV.cI p l->AV.cI p m->AV.cI p (l++m)
 | [],m,_,g=>by simpa using g
 | b::l,m,h,g=>by simp only[List.cons_append,AV.cI] at h ⊢;exact⟨h.1,DM h.2 g⟩
theorem Q4{p:Nat->Prop}:∀ {l:List AV} {i:Nat} {a:AV},AV.cI p l->l[i]? =some a->a.nm p
 | [],i,a,_,h=>by simp at h
 | b::l,i,a,h,hi=>by
  simp only[AV.cI] at h
  cases i with
  | zero=>simp at hi;subst hi;exact h.1
  | succ i=>exact Q4 h.2 (by simpa using hi)
def ei(P:Program)(o:Oper)(a:Act)(W0:WX)(okIn B us:Nat->Prop)(nm:Nat)(E:Env)(v:AV)(u:cx):Prop:=
 ∀ (K:Act->World->Prop) (Q:Exit->Act->World->Prop),
  (∀ E' x,cK W0 okIn B us (eC us nm) E E' u->VR E' v x->v.nm (eC us nm)->K (a.put o.dst x) E'.w)->o.wp P a E.w K Q
theorem cK.pX{nm:Nat}(he:jm W0 okIn B E):cK W0 okIn B us (eC us nm) E E []:=
 { cK.refl (us:=us) he with sub:=fun _ h=>.inl h,obj:=fun n o h=>by simp[aQ] at h }
theorem ei.value{P:Program}{o:Oper}{nm:Nat}{v:AV}{x:Value}(hs:df W0 okIn B us tm ob nt E a)
  (hr:(execOp a.eval o).run P E.w=.ok (.value x) E.w) (hx:VR E v x) (hn:v.nm us):ei P o a W0 okIn B us nm E v []:=by
 intro K Q hK
 unfold Oper.wp
 rw[hr]
 exact hK E x (cK.pX hs.env) hx (AV.nX (fun _ h=>.inl h) _ hn)
theorem ei.skip{P:Program}{o:Oper}{nm:Nat}{u:cx}{E':Env}
  (hr:(execOp a.eval o).run P E.w=.ok .skip E'.w) (hv:cK W0 okIn B us (eC us nm) E E' u):ei P o a W0 okIn B us nm E .mG u:=by
 intro K Q hK
 unfold Oper.wp
 rw[hr]
 exact hK E' undef hv (by simp[VR]) (by simp[AV.nm])
theorem ei.qL{P:Program}{o:Oper}{nm:Nat}{u:cx}{E':Env}{v:AV}{x:Value}
  (hr:(execOp a.eval o).run P E.w=.ok (.value x) E'.w) (hv:cK W0 okIn B us (eC us nm) E E' u) (hx:VR E' v x) (hn:v.nm (eC us nm)):
  ei P o a W0 okIn B us nm E v u:=by
 intro K Q hK
 unfold Oper.wp
 rw[hr]
 exact hK E' x hv hx hn
theorem u5{P:Program}{t:TypeId}{b:Bool}(w:World)(h:nk P t=some b):(isAgg t).run P w=.ok b w:=by
 unfold nk at h
 split at h<;>simp at h<;>subst h<;>rename_i hu
 ·simp[isAgg,run_underlying hu]
 ·simp[isAgg,run_underlying hu]
 ·rename_i h1 h2
  simp only[isAgg,Sem.run_bind,run_underlying hu,Result.andThen_ok]
  rfl
theorem MA{P:Program}{t:TypeId}{n:Nat}(h:iA P t=some n):∃ i,P.info? t=some i/\i.size=n:=by
 unfold iA at h
 split at h
 ·rename_i i hi;exact⟨i,hi,by simpa using h⟩
 ·simp at h
theorem kd{P:Program}{t:TypeId}{n:Nat}(w:World)(h:iA P t=some n):(sizeOf t).run P w=.ok n w:=by
 obtain⟨i,hi,hn⟩:=MA h
 simp[sizeOf,typeInfo,hi,hn]
theorem Q5{P:Program}{t:TypeId}{off:Nat}{l:List AV}{v:AV}(h:kG P t off l=some v):
  (∃ n,nk P t=some true/\iA P t=some n/\off+n<=l.length/\v=.agg ((l.drop off).take n))\/
  (nk P t=some false/\l[off]? =some v):=by
 unfold kG at h
 split at h
 ·rename_i n h1 h2
  split at h
  ·rename_i hb
   rw[lS] at hb
   simp only[Option.some.injEq,yd,ye] at h
   exact .inl ⟨n,h1,h2,Nat.le_of_ble_eq_true hb,h.symm⟩
  ·simp at h
 ·rename_i h1
  rw[su] at h
  exact .inr ⟨h1,h⟩
 ·simp at h
theorem DN{P:Program}{t:TypeId}{off:Nat}{l:List AV}{v:AV}{vs:List Value}(h:kG P t off l=some v)(hl:aR E l vs)
  (w:World):∃ x,(part t vs.toArray off).run P w=.ok x w/\VR E v x:=by
 rcases Q5 h with⟨n,h1,h2,h3,rfl⟩ | ⟨h1,h2⟩
 ·refine⟨.agg ((vs.drop off).take n).toArray,?_,⟨_,rfl,(hl.drop off).take n⟩⟩
  simp[part,u5 w h1,kd w h2]
 ·obtain⟨x,hx,hv⟩:=hl.nth h2
  refine⟨x,?_,hv⟩
  simp[part,u5 w h1,hx]
theorem Av{P:Program}{t:TypeId}{off:Nat}{l:List AV}{v:AV}{p:Nat->Prop}(h:kG P t off l=some v)(hn:AV.cI p l):v.nm p:=by
 rcases Q5 h with⟨n,h1,h2,h3,rfl⟩ | ⟨h1,h2⟩
 ·exact Hi _ (Hj _ hn)
 ·exact Q4 hn h2
theorem Yk{P:Program}(w:World):∀ (d:Nat) (t:TypeId) (x y:AV) (b:Bool),qH P d t x y=some b->∀ (D:Nat),d<=D->∀ (u v:Value),VR E x u->VR E y v->
  (Op.equalIn D t u v).run P w=.ok b w:=by
 intro d
 induction d with
 | zero=>intro t x y b h;simp[qH] at h
 | succ d ih=>
  intro t x y b h D hD u v hu hv
  obtain⟨D,rfl⟩:∃ m,D=m+1:=⟨D-1,by omega⟩
  have Yl:d<=D:=by omega
  unfold qH at h
  split at h
  ·rename_i k hk
   split at h
   ·split at h
    ·rename_i Aw
     subst Aw
     simp only[VR] at hu hv
     subst hu;subst hv
     simp only[Option.some.injEq] at h
     subst h
     exact run_equalIn_int w D t _ _ _ _ hk
    ·simp at h
   ·simp at h
  ·rename_i hk
   split at h
   ·simp only[VR] at hu hv
    subst hu;subst hv
    simp only[Option.some.injEq] at h
    subst h
    exact run_equalIn_bool w D t _ _ hk
   ·simp at h
  ·rename_i hk
   split at h
   ·simp only[VR] at hu hv
    subst hu;subst hv
    simp only[Option.some.injEq] at h
    subst h
    rw[run_equalIn_string w D t _ _ hk]
    simp
   ·simp at h
  ·rename_i n e hk
   split at h
   ·rename_i xs ys s hs
    simp only[VR] at hu hv
    obtain⟨us,rfl,hu⟩:=hu
    obtain⟨vs,rfl,hv⟩:=hv
    obtain⟨i,hi,cq⟩:=MA hs
    rw[run_equalIn_array w D _ _ hk hi]
    have hc:P.cellsOf e=s:=by simp[Program.cellsOf,hi,cq]
    rw[hc]
    generalize List.range n=is at h ⊢
    clear hk
    induction is generalizing b with
    | nil=>simp[x5] at h;subst h;simp[Op.eqItems]
    | cons j is Q6=>
     unfold x5 at h
     split at h
     ·rename_i x1 y1 Hk wy
      obtain⟨p1,Hl,Ax⟩:=DN Hk hu w
      obtain⟨p2,Hm,yf⟩:=DN wy hv w
      split at h
      ·rename_i p hp
       have hr:=ih _ _ _ _ hp D Yl p1 p2 Ax yf
       split at h
       ·simp only[Option.some.injEq] at h
        subst h
        simp only[Op.eqItems,Sem.run_bind,Hl,Hm,hr,Result.andThen_ok]
        cases p<;>simp
       ·split at h
        ·rename_i q hq
         simp only[Option.some.injEq] at h
         subst h
         simp only[Op.eqItems,Sem.run_bind,Hl,Hm,hr,Result.andThen_ok]
         cases p
         ·simp
         ·have:=Q6 _ hq
          simpa using this
        ·simp at h
      ·simp at h
     ·simp at h
   ·simp at h
  ·rename_i fs hk
   split at h
   ·rename_i xs ys hp
    simp only[VR] at hu hv
    obtain⟨us,rfl,hu⟩:=hu
    obtain⟨vs,rfl,hv⟩:=hv
    have hf:P.fieldsOf t=fs:=by simp[Program.fieldsOf,hk]
    rw[run_equalIn_struct w D t _ _ (by rw[hf];exact hk) hp,hf]
    generalize fs.toList=gs at h ⊢
    clear hk hf
    induction gs generalizing b with
    | nil=>simp[Mo] at h;subst h;simp[Op.eqFields]
    | cons g gs Q6=>
     unfold Mo at h
     split at h
     ·simp at h
     ·rename_i hname
      have hname' : g.name ≠ "_" := by simpa using hname
      split at h
      ·rename_i x1 y1 Hk wy
       obtain⟨p1,Hl,Ax⟩:=DN Hk hu w
       obtain⟨p2,Hm,yf⟩:=DN wy hv w
       split at h
       ·rename_i p hp
        have hr:=ih _ _ _ _ hp D Yl p1 p2 Ax yf
        split at h
        ·simp only[Option.some.injEq] at h
         subst h
         simp only[Op.eqFields,hname',ne_eq,not_false_eq_true,if_true,Sem.run_bind,Hl,Hm,hr,Result.andThen_ok]
         cases p<;>simp
        ·split at h
         ·rename_i q hq
          simp only[Option.some.injEq] at h
          subst h
          simp only[Op.eqFields,hname',ne_eq,not_false_eq_true,if_true,Sem.run_bind,Hl,Hm,hr,Result.andThen_ok]
          cases p
          ·simp
          ·have:=Q6 _ hq
           simpa using this
         ·simp at h
       ·simp at h
      ·simp at h
   ·simp at h
  ·simp at h
theorem Ym{w:World}{ok:Nat->Prop}{e:Sh}{x:e.T}{n:Nat}{k:IntKind}{l:List Int}{cs:List Value}(h:Mn e x=some (n,k,l))(hx:aN w ok e x cs):aR E (l.map fun z=>AV.int k z) cs/\l.length=n:=by
 unfold Mn at h
 split at h
 ·rename_i m s x
  split at h
  ·rename_i k' x
   simp only[Option.some.injEq,Prod.mk.injEq] at h
   obtain⟨rfl,rfl,rfl⟩:=h
   simp only[aN,Sh.size,Nat.mul_one] at hx
   obtain⟨h1,h2,h3⟩:=hx
   refine⟨?_,h1⟩
   have:cs=x.map fun z=>Value.int k' z:=by
    apply List.ext_getElem (by simp[h1,h2])
    intro i g1 g2
    have hi:i<x.length:=by simpa using g2
    have:=h3 i hi
    have hd:(cs.drop i).take 1=[cs[i]]:=by rw[List.drop_eq_getElem_cons g1,List.take_succ_cons,List.take_zero]
    rw[hd] at this
    simp only[List.cons.injEq,and_true] at this
    simp[this]
   subst this
   clear h1 h2 h3
   induction x with
   | nil=>simp[aR]
   | cons z x ih=>simp only[List.map_cons,aR];exact⟨_,_,rfl,by simp[VR],ih⟩
  ·simp at h
 ·simp at h
theorem Yn{P:Program}{t:TypeId}{k k0:IntKind}(ht:P.underlying t=some (.int k0))(l m:List Int):∀ is:List Nat,(∀ i∈is,i<l.length/\i<m.length)->
  x5 P (qH P 7 t) t 1 (l.map fun z=>AV.int k z) (m.map fun z=>AV.int k z) is=some (is.all fun i=>l.getD i 0==m.getD i 0)
 | [],_=>by simp[x5]
 | i::r,hi=>by
  have ih:=Yn (k:=k) ht l m r fun j hj=>hi j (by simp[hj])
  obtain⟨h1,h2⟩:=hi i (by simp)
  have ha:nk P t=some false:=by simp[nk,ht]
  have p1:kG P t (i*1) (l.map fun z=>AV.int k z)=some (.int k (l.getD i 0)):=by
   simp[kG,ha,su,h1]
  have p2:kG P t (i*1) (m.map fun z=>AV.int k z)=some (.int k (m.getD i 0)):=by
   simp[kG,ha,su,h2]
  unfold x5
  rw[p1,p2]
  have he:qH P 7 t (.int k (l.getD i 0)) (.int k (m.getD i 0))=some (l.getD i 0==m.getD i 0):=by simp[qH,ht]
  simp only[he]
  cases r with
  | nil=>simp
  | cons j r=>simp only[ih,List.all_cons]
theorem zmc{P:Program}{T t:TypeId}{k k0:IntKind}{n:Nat}(hT:P.underlying T=some (.array n t))(ht:P.underlying t=some (.int k0))(hz:iA P t=some 1){l m:List Int}(hl:l.length=n)(hm:m.length=n):
  qH P 8 T (.agg (l.map fun z=>AV.int k z)) (.agg (m.map fun z=>AV.int k z))=some (l==m):=by
 have h:=Yn (k:=k) ht l m (List.range n) fun i hi=>by
  have:=List.mem_range.1 hi;omega
 have e1:qH P 8 T (.agg (l.map fun z=>AV.int k z)) (.agg (m.map fun z=>AV.int k z))=x5 P (qH P 7 t) t 1 (l.map fun z=>AV.int k z) (m.map fun z=>AV.int k z) (List.range n):=by
  conv=>lhs;unfold qH
  simp only[hT,hz]
 rw[e1,h]
 congr 1
 rw[Bool.eq_iff_iff]
 simp only[List.all_eq_true,List.mem_range,beq_iff_eq]
 constructor
 ·intro hh
  apply List.ext_getElem (by omega)
  intro i g1 g2
  have:=hh i (by omega)
  simpa [g1,g2] using this
 ·rintro rfl i _;rfl
theorem VR.int{E:Env}{k:IntKind}{n:Int}:VR E (.int k n) (.int k n):=by simp[VR]
theorem VR.bool{E:Env}{b:Bool}:VR E (.bool b) (.bool b):=by simp[VR]
theorem VR.str{E:Env}{l:List UInt8}:VR E (.str l) (.string ⟨l.toArray⟩):=by simp[VR]
theorem zmd{P:Program}(w:World){op:BinOp}{T:TypeId}{k:IntKind}{m n:Int}{q:List Prop}{r:AV}(h:QK op k m n=some (q,r))(hq:∀ p∈q,p):
  ∃ z,(binOp op T (.int k m) (.int k n)).run P w=.ok z w/\VR E r z/\(∀ p,r.nm p):=by
 unfold QK at h
 cases op<;>simp only[Option.some.injEq,Prod.mk.injEq,reduceCtorEq] at h
 all_goals (obtain⟨rfl,rfl⟩:=h)
 all_goals (refine⟨_,?_,(by first | exact VR.int | exact VR.bool | exact VR.str),by simp[AV.nm]⟩)
 all_goals (simp only[binOp_add,binOp_sub,binOp_mul,binOp_quo,binOp_rem,binOp_and,binOp_or,binOp_xor,binOp_andNot,binOp_eql,binOp_neq,binOp_lss,binOp_leq,binOp_gtr,binOp_geq,Op.intArith,Op.intBits])
 all_goals (try rfl)
 all_goals (have h0:=hq _ (List.Mem.head _);simp[Op.intDiv,h0])
theorem zme{P:Program}(w:World){op:BinOp}{T:TypeId}{l m:List UInt8}{q:List Prop}{r:AV}(h:QL op l m=some (q,r))(hq:∀ p∈q,p):
  ∃ z,(binOp op T (.string ⟨l.toArray⟩) (.string ⟨m.toArray⟩)).run P w=.ok z w/\VR E r z/\(∀ p,r.nm p):=by
 unfold QL at h
 cases op<;>simp only[Option.some.injEq,Prod.mk.injEq,reduceCtorEq] at h
 all_goals (obtain⟨rfl,rfl⟩:=h)
 all_goals (refine⟨_,?_,(by first | exact VR.int | exact VR.bool | exact VR.str),by simp[AV.nm]⟩)
 case add=>
  have h0:=hq _ (List.Mem.head _)
  simp only[binOp_string_add,Op.stringOp]
  have Ay:(⟨l.toArray⟩:ByteArray).size=l.length:=by simp[ByteArray.size]
  have hs2:(⟨m.toArray⟩:ByteArray).size=m.length:=by simp[ByteArray.size]
  rw[if_neg (by rw[Ay,hs2,IntKind.max_i64];omega)]
  have:((⟨l.toArray⟩:ByteArray)++⟨m.toArray⟩)=⟨(l++m).toArray⟩:=by
   apply ByteArray.ext
   simp[ByteArray.data_append]
  rw[this]
  rfl
 all_goals (simp[binOp,Op.stringOp])
theorem sx{P:Program}{w:World}{op:BinOp}{T:TypeId}{x y:Value}{b:Bool}{r:AV}(hr:qI op b=some r)
  (hb:∀ op,binOp op T x y=match op with | .eql=>(do pure (.bool (← Op.equal T x y))) | .neq=>(do pure (.bool (!(← Op.equal T x y)))) | o=>binOp o T x y)
  (he:(Op.equal T x y).run P w=.ok b w):∃ z,(binOp op T x y).run P w=.ok z w/\VR E r z/\(∀ p,r.nm p):=by
 unfold qI at hr
 cases op<;>simp only[Option.some.injEq,reduceCtorEq] at hr
 all_goals (subst hr;refine⟨_,?_,VR.bool,by simp[AV.nm]⟩;rw[hb];simp[he])
theorem Yo{P:Program}(w:World)(d:Nat){T e:TypeId}(h:P.underlying T=some (.pointer e))(b:Option Addr):
  (Op.equalIn (d+1) T (.pointer none) (.pointer b)).run P w=.ok b.isNone w:=by
 simp[Op.equalIn,run_underlying h]
theorem Yp{P:Program}(w:World)(d:Nat){T e:TypeId}(h:P.underlying T=some (.pointer e))(a:Addr):
  (Op.equalIn (d+1) T (.pointer (some a)) (.pointer none)).run P w=.ok false w:=by
 simp[Op.equalIn,run_underlying h]
theorem Yq{P:Program}(w:World)(d:Nat){T:TypeId}{ms:Array (String×TypeId)}(h:P.underlying T=some (.interface ms))(t:TypeId)(z:Value):
  (Op.equalIn (d+1) T (.iface t z) .nilIface).run P w=.ok false w:=by
 simp[Op.equalIn,run_underlying h]
theorem zmg{P:Program}(w:World)(d:Nat){T:TypeId}{ms:Array (String×TypeId)}(h:P.underlying T=some (.interface ms))(t:TypeId)(z:Value):
  (Op.equalIn (d+1) T .nilIface (.iface t z)).run P w=.ok false w:=by
 simp[Op.equalIn,run_underlying h]
theorem Yr{P:Program}(w:World)(d:Nat){T:TypeId}{ms:Array (String×TypeId)}(h:P.underlying T=some (.interface ms)):
  (Op.equalIn (d+1) T .nilIface .nilIface).run P w=.ok true w:=by
 simp[Op.equalIn,run_underlying h]
theorem eT.cases{w:World}{ok:Nat->Prop}{t:kc}{v:Value}(h:eT w ok t v):(QJ t=true/\v=.nilIface)\/(QJ t=false/\∃ T a,v=.iface T a):=by
 cases t with
 | nil=>simp only[eT] at h;exact .inl ⟨rfl,h⟩
 | num t k n=>simp only[eT] at h;exact .inr ⟨rfl,_,_,h⟩
 | at' t n e=>simp only[eT] at h;obtain⟨b,x,h,_⟩:=h;exact .inr ⟨rfl,_,_,h⟩
 | xW t s e=>simp only[eT] at h;obtain⟨b,x,h,_⟩:=h;exact .inr ⟨rfl,_,_,h⟩
 | any t=>simp only[eT] at h;obtain⟨x,h⟩:=h;exact .inr ⟨rfl,_,_,h⟩
theorem zmh{P:Program}(w:World){op:BinOp}{T:TypeId}{x y:AV}{u v:Value}{q:List Prop}{r:AV}(ox oy:Operand)
  (h:QM P op T x y=some (q,r)) (hq:∀ p∈q,p) (hx:VR E x u) (hy:VR E y v):
  ∃ z,((do eqGuard op T ox oy u v;binOp op T u v):Sem Value).run P w=.ok z w/\VR E r z/\(∀ p,r.nm p):=by
 unfold QM at h
 split at h
 ·simp only[VR] at hx hy
  subst hx;subst hy
  simp only[eqGuard_at_int,Sem.run_bind,Sem.run_pure,Result.andThen_ok]
  split at h
  ·simp only[Option.some.injEq,Prod.mk.injEq] at h
   obtain⟨rfl,rfl⟩:=h
   have h0:(0:Int)<=_:=hq _ (List.Mem.head _)
   refine⟨_,?_,VR.int,by simp[AV.nm]⟩
   rw[binOp_shl,Op.shift,if_neg (by omega)]
   rfl
  ·simp only[Option.some.injEq,Prod.mk.injEq] at h
   obtain⟨rfl,rfl⟩:=h
   have h0:(0:Int)<=_:=hq _ (List.Mem.head _)
   refine⟨_,?_,VR.int,by simp[AV.nm]⟩
   rw[binOp_shr,Op.shift,if_neg (by omega)]
   rfl
  ·split at h
   ·rename_i hk
    subst hk
    exact zmd w h hq
   ·simp at h
 ·simp only[VR] at hx hy
  subst hx;subst hy
  simp only[eqGuard_at_string,Sem.run_bind,Sem.run_pure,Result.andThen_ok]
  exact zme w h hq
 ·simp only[VR] at hx hy
  subst hx;subst hy
  simp only[eqGuard_at_bool,Sem.run_bind,Sem.run_pure,Result.andThen_ok]
  split at h
  ·rename_i hu hn
   simp only[Option.some.injEq,Prod.mk.injEq] at h
   obtain⟨rfl,rfl⟩:=h
   refine sx hn (fun o=>by cases o<;>rfl) ?_
   exact run_equalIn_bool w 9999 T _ _ hu
  ·simp at h
 ·split at h
  ·rename_i n k l m k' l' ha hb
   split at h
   ·rename_i n0 t hT
    split at h
    ·rename_i k0 sz ht cq
     split at h
     ·rename_i r' hg hn
      split at h
      ·rename_i hc
       obtain⟨rfl,rfl,rfl,rfl⟩:=hc
       simp only[Option.some.injEq,Prod.mk.injEq] at h
       obtain⟨rfl,rfl⟩:=h
       simp only[VR] at hx hy
       obtain⟨xs,rfl,hx⟩:=hx
       obtain⟨ys,rfl,hy⟩:=hy
       obtain⟨a1,a2⟩:=Ym (E:=E) ha hx
       obtain⟨b1,b2⟩:=Ym (E:=E) hb hy
       have:=Yk w 8 T _ _ _ (zmc hT ht cq a2 b2) 10000 (by omega) (.agg xs.toArray) (.agg ys.toArray) ⟨xs,rfl,a1⟩ ⟨ys,rfl,b1⟩
       simp only[Sem.run_bind,run_eqGuard_agg w op T ox oy _ _ hg,Result.andThen_ok]
       exact sx hn (fun o=>by cases o<;>rfl) this
      ·simp at h
     ·simp at h
    ·simp at h
   ·simp at h
  ·simp at h
 ·split at h
  ·rename_i hg he
   split at h
   ·rename_i hn
    simp only[Option.some.injEq,Prod.mk.injEq] at h
    obtain⟨rfl,rfl⟩:=h
    have:=Yk w 8 T _ _ _ he 10000 (by omega) u v hx hy
    simp only[VR] at hx hy
    obtain⟨xs,rfl,hx⟩:=hx
    obtain⟨ys,rfl,hy⟩:=hy
    simp only[Sem.run_bind,run_eqGuard_agg w op T ox oy _ _ hg,Result.andThen_ok]
    exact sx hn (fun o=>by cases o<;>rfl) this
   ·simp at h
  ·simp at h
 ·split at h
  ·rename_i e hu
   split at h
   ·simp only[VR] at hx hy
    subst hx;subst hy
    simp only[Option.map_eq_some_iff,Prod.mk.injEq] at h
    obtain⟨z,hz,rfl,rfl⟩:=h
    simp only[eqGuard_at_pointer,Sem.run_bind,Sem.run_pure,Result.andThen_ok]
    refine sx hz (fun o=>by cases o<;>rfl) ?_
    exact Yo w 9999 hu none
   ·simp only[VR] at hx hy
    subst hx
    obtain⟨b,o,cs,rfl,_⟩:=hy
    simp only[Option.map_eq_some_iff,Prod.mk.injEq] at h
    obtain⟨z,hz,rfl,rfl⟩:=h
    simp only[eqGuard_at_pointer,Sem.run_bind,Sem.run_pure,Result.andThen_ok]
    refine sx hz (fun o=>by cases o<;>rfl) ?_
    exact Yo w 9999 hu _
   ·simp only[VR] at hx hy
    subst hy
    obtain⟨b,o,cs,rfl,_⟩:=hx
    simp only[Option.map_eq_some_iff,Prod.mk.injEq] at h
    obtain⟨z,hz,rfl,rfl⟩:=h
    simp only[eqGuard_at_pointer,Sem.run_bind,Sem.run_pure,Result.andThen_ok]
    refine sx hz (fun o=>by cases o<;>rfl) ?_
    exact Yp w 9999 hu _
   ·simp at h
  ·rename_i ms hu
   split at h
   ·simp only[VR] at hx hy
    subst hy
    obtain⟨a,rfl,_⟩:=hx
    simp only[Option.map_eq_some_iff,Prod.mk.injEq] at h
    obtain⟨z,hz,rfl,rfl⟩:=h
    simp only[eqGuard_at_iface,Sem.run_bind,Sem.run_pure,Result.andThen_ok]
    refine sx hz (fun o=>by cases o<;>rfl) ?_
    exact Yq w 9999 hu _ _
   ·simp only[VR] at hx hy
    subst hx
    obtain⟨a,rfl,_⟩:=hy
    simp only[Option.map_eq_some_iff,Prod.mk.injEq] at h
    obtain⟨z,hz,rfl,rfl⟩:=h
    simp only[eqGuard_nil_iface,Sem.run_bind,Sem.run_pure,Result.andThen_ok]
    refine sx hz (fun o=>by cases o<;>rfl) ?_
    exact zmg w 9999 hu _ _
   ·simp at h
  ·simp at h
theorem Ys{P:Program}(w:World)(op:BinOp)(T:TypeId)(ox:Operand)(c:Value):(eqGuard op T ox (.const c) .nilIface .nilIface).run P w=.ok () w:=by
 unfold eqGuard
 cases op<;>simp
theorem zmi{P:Program}(w:World){op:BinOp}{T:TypeId}{x:AV}{u v:Value}{r:AV}{ob:Nat->Option AO}(wz:∀ n,np ob n=true->∃ L,E.mu n=some L)(ox oy:Operand)
  (h:DA P op T ob oy x=some r) (hx:VR E x u) (hy:∀ c,oy=.const c->v=c):
  ∃ z,((do eqGuard op T ox oy u v;binOp op T u v):Sem Value).run P w=.ok z w/\VR E r z/\(∀ p,r.nm p):=by
 unfold DA at h
 split at h
 ·rename_i c
  split at h
  ·split at h
   ·rename_i e hu
    have hv:=hy _ rfl
    subst hv
    split at h
    ·split at h
     ·rename_i hl
      simp only[VR] at hx
      obtain⟨L,hL⟩:=wz _ hl
      obtain⟨b,_,rfl⟩:=hx.2 L hL
      simp only[eqGuard_at_pointer,Sem.run_bind,Sem.run_pure,Result.andThen_ok]
      refine sx h (fun o=>by cases o<;>rfl) ?_
      exact Yp w 9999 hu _
     ·simp at h
    ·simp at h
   ·simp at h
  ·split at h
   ·rename_i ms hu
    have hv:=hy _ rfl
    subst hv
    split at h
    ·simp only[VR] at hx
     rcases hx.cases with⟨he,rfl⟩ | ⟨he,T',a,rfl⟩
     ·rw[he] at h
      simp only[Sem.run_bind,Ys,Result.andThen_ok]
      refine sx h (fun o=>by cases o<;>rfl) ?_
      exact Yr w 9999 hu
     ·rw[he] at h
      simp only[eqGuard_at_iface,Sem.run_bind,Sem.run_pure,Result.andThen_ok]
      refine sx h (fun o=>by cases o<;>rfl) ?_
      exact Yq w 9999 hu _ _
    ·simp only[VR] at hx
     subst hx
     simp only[Sem.run_bind,Ys,Result.andThen_ok]
     refine sx h (fun o=>by cases o<;>rfl) ?_
     exact Yr w 9999 hu
    ·simp at h
   ·simp at h
  ·simp at h
 ·simp at h
end
section
variable {W0:WX} {okIn B us:Nat->Prop} {tm:Nat->Option AV} {ob:Nat->Option AO} {nt:Nat} {E:Env} {a:Act}
theorem eO.loc{n:Nat}{o:AO}(h:eO E n o):∃ L,E.mu n=some L/\(L.cap=0\/∃ b,L.base=some ⟨b,0,none⟩):=by
 cases o with
 | cells l=>obtain⟨b,cs,T,fr,h1,_⟩:=h;exact⟨_,h1,.inr ⟨b,rfl⟩⟩
 | rows e xs=>
  obtain⟨L,h1,_,h2⟩:=h
  rcases h2 with h2 | ⟨b,cs,T,fr,h3,_⟩
  ·exact⟨L,h1,.inl h2.1⟩
  ·exact⟨L,h1,.inr ⟨b,h3⟩⟩
 | gR e xs=>obtain⟨L,h1,_,_,h2,_⟩:=h;exact⟨L,h1,h2⟩
 | hM l=>obtain⟨b,cs,T,fr,h1,_⟩:=h;exact⟨_,h1,.inr ⟨b,rfl⟩⟩
 | mp k e l=>obtain⟨b,es,c,h1,_⟩:=h;exact⟨_,h1,.inr ⟨b,rfl⟩⟩
theorem nw(hs:df W0 okIn B us tm ob nt E a){n:Nat}(h:np ob n=true):∃ L,E.mu n=some L/\(L.cap=0\/∃ b,L.base=some ⟨b,0,none⟩):=by
 unfold np at h
 split at h
 ·rename_i o ho;exact ((hs.obj n o ho).1).loc
 ·simp at h
theorem aN.length{w:World}{ok:Nat->Prop}:∀ (s:Sh) (x:s.T) (vs:List Value),aN w ok s x vs->vs.length=s.size
 | .int k,x,vs,h=>by simp only[aN] at h;simp[h,Sh.size]
 | .bool,x,vs,h=>by simp only[aN] at h;simp[h,Sh.size]
 | .str,x,vs,h=>by simp only[aN] at h;simp[h,Sh.size]
 | .unit,x,vs,h=>by simp only[aN] at h;simp[h,Sh.size]
 | .sl e,x,vs,h=>by simp only[aN] at h;obtain⟨_,_,rfl,_⟩:=h;simp[Sh.size]
 | .arr n e,x,vs,h=>by simp only[aN] at h;simp[Sh.size,h.2.1]
 | .pair p q,x,vs,h=>by
  simp only[aN] at h
  obtain⟨v1,v2,rfl,h1,h2⟩:=h
  simp[Sh.size,aN.length p _ _ h1,aN.length q _ _ h2]
 | .err,x,vs,h=>by simp only[aN] at h;obtain⟨_,rfl,_⟩:=h;simp[Sh.size]
 | .pt e,x,vs,h=>by simp only[aN] at h;obtain⟨_,_,_,rfl,_⟩:=h;simp[Sh.size]
theorem zmj{α:Type}{u v:List α}{o n:Nat}(h:o+n<=u.length):((u++v).drop o).take n=(u.drop o).take n:=by
 rw[List.drop_append_of_le_length (by omega),List.take_append_of_le_length (by simp;omega)]
theorem zmk{s e:Sh}{x:e.T}{off:Nat}{y:s.T}(h:Dh s e x off=some y):off=0/\∃ he:e=s,he▸x=y:=by
 unfold Dh at h
 split at h
 ·split at h
  ·rename_i he;exact⟨rfl,he,Option.some.inj h⟩
  ·simp at h
 ·simp at h
theorem Q7{w:World}{ok:Nat->Prop}{s e:Sh}{x:e.T}{off:Nat}{y:s.T}{cs:List Value}(h:Dh s e x off=some y)(hx:aN w ok e x cs):off+s.size<=cs.length/\aN w ok s y ((cs.drop off).take s.size):=by
 obtain⟨rfl,he,hy⟩:=zmk h
 subst he
 subst hy
 have hl:=aN.length e x cs hx
 refine⟨by omega,?_⟩
 rw[List.drop_zero,<-hl,List.take_length]
 exact hx
theorem zml{cs:List Value}{i z o n:Nat}(h:o+n<=z):((((cs.drop (i*z)).take z).drop o).take n)=(cs.drop (i*z+o)).take n:=by
 rw[List.drop_take,List.take_take,List.drop_drop]
 congr 1
 omega
theorem Hn{w:World}{ok:Nat->Prop}{s:Sh}:∀ (e:Sh) {x:e.T} {off:Nat} {y:s.T} {cs:List Value},rX s e x off=some y->aN w ok e x cs->off+s.size<=cs.length/\aN w ok s y ((cs.drop off).take s.size):=by
 intro e
 induction e with
 | pair a b fP fQ=>
  intro x off y cs h hx
  simp only[rX] at h
  split at h
  ·rename_i y' hh
   simp only[Option.some.injEq] at h
   subst h
   exact Q7 hh hx
  ·simp only[aN] at hx
   obtain⟨v1,v2,rfl,h1,h2⟩:=hx
   have hl:=aN.length a _ _ h1
   split at h
   ·rename_i hb
    obtain⟨g1,g2⟩:=fP h h1
    refine⟨by simp;omega,?_⟩
    rw[zmj g1];exact g2
   ·rename_i hb
    have hge:¬ off<a.size:=by intro hh;rw[Nat.blt_eq.mpr hh] at hb;simp at hb
    obtain⟨g1,g2⟩:=fQ h h2
    refine⟨by simp;omega,?_⟩
    rw[List.drop_append,List.drop_eq_nil_of_le (by omega),List.nil_append,hl]
    exact g2
 | arr n a ih=>
  intro x off y cs h hx
  simp only[rX] at h
  split at h
  ·rename_i y' hh
   simp only[Option.some.injEq] at h
   subst h
   exact Q7 hh hx
  ·split at h
   ·rename_i hb
    have hlt:off<n*a.size:=Nat.blt_eq.mp hb
    simp only[aN] at hx
    obtain⟨h1,h2,h3⟩:=hx
    have jD:0<a.size:=by
     rcases Nat.eq_zero_or_pos a.size with h0 | h0
     ·rw[h0] at hlt;omega
     ·exact h0
    have hi:off / a.size<List.length x:=by rw[h1];exact (Nat.div_lt_iff_lt_mul jD).2 hlt
    have hd:List.getD x (off / a.size) a.ft=x[off / a.size]:=by
     rw[List.getD_eq_getElem?_getD,List.getElem?_eq_getElem hi];rfl
    rw[hd] at h
    obtain⟨g1,g2⟩:=ih h (h3 _ hi)
    have hm:=Nat.div_add_mod off a.size
    rw[Nat.mul_comm] at hm
    have hle:(off / a.size+1)*a.size<=n*a.size:=Nat.mul_le_mul_right _ (by omega)
    rw[Nat.succ_mul] at hle
    have hlen:((cs.drop (off / a.size*a.size)).take a.size).length=a.size:=by simp;omega
    rw[hlen] at g1
    rw[zml g1,hm] at g2
    exact⟨by omega,g2⟩
   ·simp at h
 | _=>intro x off y cs h hx;exact Q7 (by simpa only[rX] using h) hx
theorem zmm{s e:Sh}{y:s.T}{off:Nat}{z:e.T}(h:Di s e y off=some z):off=0/\∃ he:s=e,he▸y=z:=by
 unfold Di at h
 split at h
 ·split at h
  ·rename_i he;exact⟨rfl,he,Option.some.inj h⟩
  ·simp at h
 ·simp at h
theorem Q8{w:World}{ok:Nat->Prop}{s e:Sh}{x:e.T}{y:s.T}{off:Nat}{z:e.T}{cs news:List Value}(h:Di s e y off=some z)(hx:aN w ok e x cs)(hy:aN w ok s y news):off+s.size<=cs.length/\aN w ok e z (cs.take off++news++cs.drop (off+s.size)):=by
 obtain⟨rfl,he,hz⟩:=zmm h
 subst he
 subst hz
 have hl:=aN.length s x cs hx
 refine⟨by omega,?_⟩
 rw[List.take_zero,List.nil_append,Nat.zero_add,<-hl,List.drop_length,List.append_nil]
 exact hy
theorem MC{w:World}{ok:Nat->Prop}{s:Sh}{y:s.T}:∀ (e:Sh) {x:e.T} {off:Nat} {z:e.T} {cs news:List Value},rY s y e x off=some z->aN w ok e x cs->aN w ok s y news->off+s.size<=cs.length/\aN w ok e z (cs.take off++news++cs.drop (off+s.size)):=by
 intro e
 induction e with
 | pair a b fP fQ=>
  intro x off z cs news h hx hy
  have hn:=aN.length s y news hy
  simp only[rY] at h
  split at h
  ·rename_i y' hh
   simp only[Option.some.injEq] at h
   subst h
   exact Q8 hh hx hy
  ·simp only[aN] at hx
   obtain⟨v1,v2,rfl,h1,h2⟩:=hx
   have hl:=aN.length a _ _ h1
   split at h
   ·rename_i hb
    split at h
    ·rename_i z' hz
     simp only[Option.some.injEq] at h
     subst h
     obtain⟨g1,g2⟩:=fP hz h1 hy
     refine⟨by simp;omega,?_⟩
     simp only[aN]
     refine⟨_,v2,?_,g2,h2⟩
     rw[List.take_append_of_le_length (by omega),List.drop_append_of_le_length (by omega)]
     simp only[List.append_assoc]
    ·simp at h
   ·rename_i hb
    have hge:¬ off<a.size:=by intro hh;rw[Nat.blt_eq.mpr hh] at hb;simp at hb
    split at h
    ·rename_i z' hz
     simp only[Option.some.injEq] at h
     subst h
     obtain⟨g1,g2⟩:=fQ hz h2 hy
     refine⟨by simp;omega,?_⟩
     simp only[aN]
     refine⟨v1,_,?_,h1,g2⟩
     have nY:off+s.size-a.size=off-a.size+s.size:=by omega
     rw[List.take_append,List.take_of_length_le (by omega),List.drop_append,List.drop_eq_nil_of_le (by omega),hl,List.nil_append,nY]
     simp only[List.append_assoc]
    ·simp at h
 | arr n a ih=>
  intro x off z cs news h hx hy
  have hn:=aN.length s y news hy
  simp only[rY] at h
  split at h
  ·rename_i y' hh
   simp only[Option.some.injEq] at h
   subst h
   exact Q8 hh hx hy
  ·split at h
   ·rename_i hb
    have hlt:off<n*a.size:=Nat.blt_eq.mp hb
    simp only[aN] at hx
    obtain⟨h1,h2,h3⟩:=hx
    have jD:0<a.size:=by
     rcases Nat.eq_zero_or_pos a.size with h0 | h0
     ·rw[h0] at hlt;omega
     ·exact h0
    have hi:off / a.size<List.length x:=by rw[h1];exact (Nat.div_lt_iff_lt_mul jD).2 hlt
    have hd:List.getD x (off / a.size) a.ft=x[off / a.size]:=by
     rw[List.getD_eq_getElem?_getD,List.getElem?_eq_getElem hi];rfl
    rw[hd] at h
    split at h
    ·rename_i z' hz
     simp only[Option.some.injEq] at h
     subst h
     obtain⟨g1,g2⟩:=ih hz (h3 _ hi) hy
     have hm:=Nat.div_add_mod off a.size
     rw[Nat.mul_comm] at hm
     have hle:(off / a.size+1)*a.size<=n*a.size:=Nat.mul_le_mul_right _ (by omega)
     rw[Nat.succ_mul] at hle
     have hlen:((cs.drop (off / a.size*a.size)).take a.size).length=a.size:=by simp;omega
     rw[hlen] at g1
     refine⟨by omega,?_⟩
     simp only[aN]
     refine⟨by simp[h1],by simp;omega,fun i dD=>?_⟩
     have AB:i<List.length x:=by simpa using dD
     generalize hq:off / a.size=q at*
     generalize hr:off % a.size=r at*
     have yg:∀ t,(cs.take off++news++cs.drop (off+s.size))[t]? =if t<off then cs[t]? else if t<off+s.size then news[t-off]? else cs[t]? :=by
      intro t
      rw[List.append_assoc,List.getElem?_append,List.length_take,Nat.min_eq_left (by omega)]
      split
      ·rename_i ht;rw[List.getElem?_take,if_pos ht]
      ·rename_i ht
       rw[List.getElem?_append,hn]
       split
       ·rename_i Yt;rw[if_pos (by omega)]
       ·rename_i Yt
        rw[if_neg (by omega),List.getElem?_drop]
        congr 1
        omega
     by_cases Yu:i=q
     ·subst Yu
      simp only[List.getElem_set_self]
      have he:((cs.take off++news++cs.drop (off+s.size)).drop (i*a.size)).take a.size=((cs.drop (i*a.size)).take a.size).take r++news++((cs.drop (i*a.size)).take a.size).drop (r+s.size):=by
       apply List.ext_getElem?
       intro t
       rw[List.getElem?_take,List.getElem?_drop,yg,List.append_assoc,List.getElem?_append,List.length_take,hlen,Nat.min_eq_left (by omega),List.getElem?_append,hn]
       by_cases ht:t<a.size
       ·rw[if_pos ht]
        by_cases c1:t<r
        ·rw[if_pos (by omega),if_pos c1,List.getElem?_take,if_pos c1,List.getElem?_take,if_pos ht,List.getElem?_drop]
        ·rw[if_neg (by omega),if_neg c1]
         by_cases c2:t<r+s.size
         ·rw[if_pos (by omega),if_pos (by omega)]
          congr 1
          omega
         ·rw[if_neg (by omega),if_neg (by omega),List.getElem?_drop,List.getElem?_take,if_pos (by omega),List.getElem?_drop]
          congr 1
          omega
       ·rw[if_neg ht,if_neg (by omega),if_neg (by omega),List.getElem?_drop,List.getElem?_take,if_neg (by omega)]
      rw[he]
      exact g2
     ·rw[List.getElem_set_ne (by omega)]
      have he:((cs.take off++news++cs.drop (off+s.size)).drop (i*a.size)).take a.size=(cs.drop (i*a.size)).take a.size:=by
       apply List.ext_getElem?
       intro t
       rw[List.getElem?_take,List.getElem?_drop,yg,List.getElem?_take,List.getElem?_drop]
       by_cases ht:t<a.size
       ·rw[if_pos ht,if_pos ht]
        rcases Nat.lt_or_gt_of_ne Yu with zFX | zFY
        ·have:(i+1)*a.size<=q*a.size:=Nat.mul_le_mul_right _ (by omega)
         rw[Nat.succ_mul] at this
         rw[if_pos (by omega)]
        ·have:(q+1)*a.size<=i*a.size:=Nat.mul_le_mul_right _ (by omega)
         rw[Nat.succ_mul] at this
         rw[if_neg (by omega),if_neg (by omega)]
       ·rw[if_neg ht,if_neg ht]
      rw[he]
      exact h3 i AB
    ·simp at h
   ·simp at h
 | _=>intro x off z cs news h hx hy;exact Q8 (by simpa only[rY] using h) hx hy
theorem zmn{n:Nat}{e:Sh}{xs:List e.T}(h:eO E n (.rows e xs)\/eO E n (.gR e xs)):
  ∃ L,E.mu n=some L/\L.len=xs.length/\xs.length<=L.cap/\(L.cap=0\/∃ b,L.base=some ⟨b,0,none⟩):=by
 rcases h with h | h
 ·obtain⟨L,h1,h2,h3⟩:=h
  rcases h3 with h3 | ⟨b,cs,T,fr,h3,h4,h5,h6,h7,_⟩
  ·exact⟨L,h1,h2,by omega,.inl h3.1⟩
  ·exact⟨L,h1,h2,h7,.inr ⟨b,h3⟩⟩
 ·obtain⟨L,h1,h2,h3,h4,h5⟩:=h
  simp only[aN] at h5
  obtain⟨base,cap,hv,hc,_⟩:=h5
  simp only[List.cons.injEq,Value.slice.injEq,and_true] at hv
  exact⟨L,h1,h2,by omega,h4⟩
theorem AD{n:Nat}{e e':Sh}{xs:List e'.T}{v:Value}(h:eO E n (.rows e' xs)\/eO E n (.gR e' xs))(hx:VR E (.own n e) v):
  ∃ L,E.mu n=some L/\v=.slice L.base xs.length L.cap/\xs.length<=L.cap/\(L.cap=0\/∃ b,L.base=some ⟨b,0,none⟩):=by
 obtain⟨L,h1,h2,h3,h4⟩:=zmn h
 simp only[VR] at hx
 exact⟨L,h1,by rw[hx.2 L h1,h2],h3,h4⟩
theorem jc(b o n:Nat):(⟨b,o,none⟩:Addr).add n=⟨b,o+n,none⟩:=Addr.add_lit b o n
theorem zmo{P:Program}(hs:df W0 okIn B us tm ob nt E a){T ty:TypeId}{x r:AV}{v:Value}(hl:pT ob x=true)(h:Dy P T ob x=some r)(hx:VR E x v)
  (w:World):∃ z,(Builtin.len_ #[T] ty #[v]).run P w=.ok z w/\VR E r z/\∀ p,r.nm p:=by
 unfold Dy at h
 split at h
 ·rename_i hu
  split at h
  ·simp only[Option.some.injEq] at h
   subst h
   simp only[VR] at hx
   subst hx
   refine⟨_,run_len_string w T ty _ hu,?_,by simp[AV.nm]⟩
   simp[VR,goInt,ByteArray.size]
  ·simp at h
 ·rename_i n e hu
  simp only[Option.some.injEq] at h
  subst h
  refine⟨goInt n,?_,VR.int,by simp[AV.nm]⟩
  simp[Builtin.len_,run_underlying hu]
 ·rename_i e hu
  have key:∀ base n c,(Builtin.len_ #[T] ty #[.slice base n c]).run P w=.ok (goInt n) w:=by
   intro base n c;simp[Builtin.len_,run_underlying hu]
  split at h
  ·simp only[Option.some.injEq] at h
   subst h
   simp only[VR,aN] at hx
   obtain⟨base,cap,hv,_⟩:=hx
   simp only[List.cons.injEq,and_true] at hv
   subst hv
   exact⟨_,key _ _ _,VR.int,by simp[AV.nm]⟩
  ·simp only[Option.some.injEq] at h
   subst h
   simp only[VR] at hx
   subst hx
   exact⟨_,key _ _ _,VR.int,by simp[AV.nm]⟩
  ·simp only[Option.some.injEq] at h
   subst h
   simp only[VR] at hx
   obtain⟨L,hL,_⟩:=nw hs hl
   obtain⟨base,rfl,_⟩:=hx.2 L hL
   exact⟨_,key _ _ _,VR.int,by simp[AV.nm]⟩
  ·simp only[Option.some.injEq] at h
   subst h
   simp only[VR] at hx
   obtain⟨L,hL,_⟩:=nw hs hl
   obtain⟨b,o,cap,_,rfl,_⟩:=hx.2 L hL
   exact⟨_,key _ _ _,VR.int,by simp[AV.nm]⟩
  ·simp only[Option.some.injEq] at h
   subst h
   simp only[VR] at hx
   obtain⟨L,hL,_⟩:=nw hs hl
   obtain⟨b,o,_,rfl,_⟩:=hx.2 L hL
   exact⟨_,key _ _ _,VR.int,by simp[AV.nm]⟩
  ·split at h
   ·rename_i b8
    simp only[Option.some.injEq] at h
    subst h
    obtain⟨L,_,rfl,_⟩:=AD (.inl (hs.obj _ _ b8).1) hx
    exact⟨_,key _ _ _,VR.int,by simp[AV.nm]⟩
   ·rename_i b8
    simp only[Option.some.injEq] at h
    subst h
    obtain⟨L,_,rfl,_⟩:=AD (.inr (hs.obj _ _ b8).1) hx
    exact⟨_,key _ _ _,VR.int,by simp[AV.nm]⟩
   ·simp at h
  ·simp at h
 ·simp at h
theorem Q9:∀ {l:List AV} {k:IntKind} {ns:List Int} {vs:List Value},Dl l=some (k,ns)->aR E l vs->vs=ns.map (fun n=>Value.int k n)/\ns.length=l.length
 | [],k,ns,vs,h,_=>by simp[Dl] at h
 | a::r,k,ns,vs,h,hv=>by
  simp only[aR] at hv
  obtain⟨z,r',rfl,hz,hr⟩:=hv
  simp only[Dl] at h
  split at h
  ·rename_i k' n
   simp only[VR] at hz
   subst hz
   split at h
   ·simp only[Option.some.injEq,Prod.mk.injEq] at h
    obtain⟨rfl,rfl⟩:=h
    simp only[aR] at hr
    subst hr
    exact⟨rfl,rfl⟩
   ·split at h
    ·rename_i k2 ns2 h2
     split at h
     ·rename_i hk
      subst hk
      simp only[Option.some.injEq,Prod.mk.injEq] at h
      obtain⟨rfl,rfl⟩:=h
      obtain⟨g1,g2⟩:=Q9 h2 hr
      exact⟨by rw[g1];rfl,by simp[g2]⟩
     ·simp at h
    ·simp at h
  ·simp at h
theorem Ra:∀ {l:List AV} {ss:List (List UInt8)} {vs:List Value},Dn l=some ss->aR E l vs->vs=ss.map (fun s=>Value.string ⟨s.toArray⟩)/\ss.length=l.length
 | [],ss,vs,h,hv=>by
  simp only[Dn,Option.some.injEq] at h
  subst h
  simp only[aR] at hv
  subst hv
  exact⟨rfl,rfl⟩
 | a::r,ss,vs,h,hv=>by
  simp only[aR] at hv
  obtain⟨z,r',rfl,hz,hr⟩:=hv
  simp only[Dn] at h
  split at h
  ·simp only[VR] at hz
   subst hz
   split at h
   ·rename_i ss2 h2
    simp only[Option.some.injEq] at h
    subst h
    obtain⟨g1,g2⟩:=Ra h2 hr
    exact⟨by rw[g1];rfl,by simp[g2]⟩
   ·simp at h
  ·simp at h
theorem Yv{l:List AV}{i:Nat}{r:AV}{vs:List Value}(h:Mp l i=some r)(hv:aR E l vs)(hi:i<l.length):∃ z,vs[i]? =some z/\VR E r z/\∀ p,r.nm p:=by
 unfold Mp at h
 split at h
 ·rename_i k ns hk
  simp only[Option.some.injEq] at h
  subst h
  obtain⟨rfl,g2⟩:=Q9 hk hv
  have:i<ns.length:=by omega
  exact⟨.int k ns[i],by simp[this],by simp[VR,List.getD_eq_getElem?_getD,this],by simp[AV.nm]⟩
 ·split at h
  ·rename_i ss hk
   simp only[Option.some.injEq] at h
   subst h
   obtain⟨rfl,g2⟩:=Ra hk hv
   have:i<ss.length:=by omega
   exact⟨.string ⟨ss[i].toArray⟩,by simp[this],by simp[VR,List.getD_eq_getElem?_getD,this],by simp[AV.nm]⟩
  ·simp at h
theorem Yw{k:IntKind}{ns:List Int}:∀ (m j:Nat),ns.length=j+m->aR E (Dp k ns j m) ((ns.drop j).map fun n=>Value.int k n)/\∀ p,AV.cI p (Dp k ns j m)
 | 0,j,h=>by
  rw[List.drop_of_length_le (by omega)]
  simp[Dp,aR,AV.cI]
 | m+1,j,h=>by
  obtain⟨g1,g2⟩:=Yw (k:=k) (ns:=ns) m (j+1) (by omega)
  have hj:j<ns.length:=by omega
  rw[List.drop_eq_getElem_cons hj]
  simp only[Dp,List.map_cons,aR,AV.cI]
  exact⟨⟨_,_,rfl,by simp[VR,List.getD_eq_getElem?_getD,hj],g1⟩,fun p=>⟨by simp[AV.nm],g2 p⟩⟩
theorem Yx{ss:List (List UInt8)}:∀ (m j:Nat),ss.length=j+m->aR E (Dq ss j m) ((ss.drop j).map fun s=>Value.string ⟨s.toArray⟩)/\∀ p,AV.cI p (Dq ss j m)
 | 0,j,h=>by
  rw[List.drop_of_length_le (by omega)]
  simp[Dq,aR,AV.cI]
 | m+1,j,h=>by
  obtain⟨g1,g2⟩:=Yx (ss:=ss) m (j+1) (by omega)
  have hj:j<ss.length:=by omega
  rw[List.drop_eq_getElem_cons hj]
  simp only[Dq,List.map_cons,aR,AV.cI]
  exact⟨⟨_,_,rfl,by simp[VR,List.getD_eq_getElem?_getD,hj],g1⟩,fun p=>⟨by simp[AV.nm],g2 p⟩⟩
theorem zmp{l l':List AV}{i m:Nat}{c:AV}{vs:List Value}{z:Value}(h:QN l i m c=some l')(hv:aR E l vs)(hc:VR E c z)(hm:l.length=m):aR E l' (vs.set i z)/\∀ p,AV.cI p l':=by
 unfold QN at h
 split at h
 ·rename_i k ns hk
  obtain⟨rfl,g2⟩:=Q9 hk hv
  split at h
  ·split at h
   ·rename_i x Aw
    subst Aw
    simp only[Option.some.injEq] at h
    subst h
    simp only[VR] at hc
    subst hc
    have:=Yw (E:=E) (k:=k) (ns:=ns.set i x) m 0 (by simp;omega)
    simpa using this
   ·simp at h
  ·simp at h
 ·split at h
  ·rename_i ss hk
   obtain⟨rfl,g2⟩:=Ra hk hv
   split at h
   ·simp only[Option.some.injEq] at h
    subst h
    simp only[VR] at hc
    subst hc
    rename_i x
    have:=Yx (E:=E) (ss:=ss.set i x) m 0 (by simp;omega)
    simpa using this
   ·simp at h
  ·simp at h
theorem zmq{P:Program}{T:TypeId}{x i r:AV}{v j:Value}{q:List Prop}{uS:Bool}(h:QO P T uS x i=some (q,r))(hq:∀ p∈q,p)(hx:VR E x v)(hi:VR E i j){gG:Nat->Prop}(hn:x.nm gG)
  (w:World):∃ z,(Instr.index T v j).run P w=.ok z w/\VR E r z/\r.nm gG:=by
 unfold QO at h
 split at h
 ·rename_i i k i
  simp only[VR] at hi
  subst hi
  split at h
  ·rename_i hT
   split at h
   ·rename_i l
    simp only[Option.some.injEq,Prod.mk.injEq] at h
    obtain⟨rfl,rfl⟩:=h
    simp only[VR] at hx
    subst hx
    have h0:0<=i/\i<(l.length:Int):=hq _ (List.Mem.head _)
    have cq:(⟨l.toArray⟩:ByteArray).size=l.length:=by simp[ByteArray.size]
    refine⟨_,?_,VR.int,by simp[AV.nm]⟩
    rw[run_index_string w T _ _ _ hT,dif_pos (by rw[cq];exact h0)]
    congr 3
    have h1:i.toNat<l.length:=by have:=h0.2;omega
    rw[List.getD_eq_getElem?_getD,List.getElem?_eq_getElem h1]
    rfl
   ·simp at h
  ·rename_i m e hT
   split at h
   ·rename_i s hs
    split at h
    ·rename_i l
     split at h
     ·split at h
      ·rename_i y hy
       simp only[Option.some.injEq,Prod.mk.injEq] at h
       obtain⟨rfl,rfl⟩:=h
       have h0:0<=i/\i<(m:Int):=hq _ (List.Mem.head _)
       simp only[VR] at hx
       obtain⟨vs,rfl,hx⟩:=hx
       obtain⟨z,hz,hv⟩:=DN hy hx w
       refine⟨z,?_,hv,Av hy hn⟩
       simp[Instr.index,asIntOf,run_underlying hT,h0,kd w hs,hz]
      ·simp at h
     ·split at h
      ·rename_i tH tI pY
       split at h
       ·rename_i y hy
        simp only[Option.some.injEq,Prod.mk.injEq] at h
        obtain⟨rfl,rfl⟩:=h
        have h0:0<=i/\i<(m:Int):=hq _ (List.Mem.head _)
        simp only[VR] at hx
        obtain⟨vs,rfl,hx⟩:=hx
        have hlm:=beq_true pY
        rw[lS] at hlm
        obtain⟨z,h1,h2,h3⟩:=Yv hy hx (by omega)
        have Ay:=beq_true tH
        subst Ay
        refine⟨z,?_,h2,h3 _⟩
        simp[Instr.index,asIntOf,run_underlying hT,h0,kd w hs,part,u5 w tI,h1]
       ·simp at h
      ·simp at h
    ·simp at h
   ·simp at h
  ·simp at h
 ·simp at h
theorem zms{P:Program}{T:TypeId}{f:Nat}{g:Field}{l:List AV}{v:Value}{r:AV}(hf:Aj P T f=some g)(h:kG P g.type g.offset l=some r)(hx:VR E (.agg l) v)
  {gG:Nat->Prop} (hn:(AV.agg l).nm gG) (w:World):∃ z,(Instr.field T v f).run P w=.ok z w/\VR E r z/\r.nm gG:=by
 unfold Aj at hf
 split at hf
 ·rename_i fs hT
  rw[su] at hf
  simp only[VR] at hx
  obtain⟨vs,rfl,hx⟩:=hx
  obtain⟨z,hz,hv⟩:=DN h hx w
  refine⟨z,?_,hv,Av h hn⟩
  have lT:fs[f]? =some g:=by simpa using hf
  simp[Instr.field,run_underlying hT,lT,asAgg,hz]
 ·simp at hf
theorem zmt{P:Program}{f:Field}{n:Nat}(w:World)(h:iA P f.type=some (n+1))(a:Addr):(fieldPlace a f).run P w=.ok (a.add f.offset) w:=by
 simp[fieldPlace,kd w h]
theorem zmu{P:Program}(hs:df W0 okIn B us tm ob nt E a){T:TypeId}{f:Nat}{x r:AV}{v:Value}(hl:pT ob x=true)(h:QP P T x f=some r)(hx:VR E x v){gG:Nat->Prop}(hn:x.nm gG)
  (w:World):∃ z,(Instr.fieldAt T v f).run P w=.ok z w/\VR E r z/\r.nm gG:=by
 unfold QP at h
 split at h
 ·rename_i g hf
  split at h
  ·rename_i n Rb
   unfold Aj at hf
   split at hf
   ·rename_i fs hT
    rw[su] at hf
    have lT:fs[f]? =some g:=by simpa using hf
    have key:∀ ad:Addr,(Instr.fieldAt T (.pointer (some ad)) f).run P w=.ok (.pointer (some (ad.add g.offset))) w:=by
     intro ad
     simp[Instr.fieldAt,run_underlying hT,lT,Instr.sureAddr,zmt w Rb]
    split at h
    ·simp only[Option.some.injEq] at h
     subst h
     simp only[VR] at hx
     obtain⟨L,hL,_⟩:=nw hs hl
     obtain⟨b,h1,rfl⟩:=hx.2 L hL
     refine⟨_,key _,?_,hn⟩
     simp only[VR,eL,true_and]
     intro L' c9
     obtain rfl:L=L':=Option.some.inj (hL.symm.trans c9)
     exact⟨b,h1,by rw[jc]⟩
    ·simp only[Option.some.injEq] at h
     subst h
     simp only[VR] at hx
     obtain⟨b,o,cs,rfl,h2⟩:=hx
     refine⟨_,key _,?_,by simp[AV.nm]⟩
     simp only[VR]
     exact⟨b,o,cs,by rw[jc,Nat.add_assoc],h2⟩
    ·simp only[Option.some.injEq] at h
     subst h
     simp only[VR] at hx
     obtain⟨L,hL,_⟩:=nw hs hl
     obtain⟨b,h1,rfl⟩:=hx.2 L hL
     refine⟨_,key _,?_,hn⟩
     simp only[VR,eL,true_and]
     intro L' c9
     obtain rfl:L=L':=Option.some.inj (hL.symm.trans c9)
     exact⟨b,h1,by rw[jc,Nat.add_assoc]⟩
    ·simp at h
   ·simp at hf
  ·simp at h
 ·simp at h
theorem aN.elem{w:World}{ok:Nat->Prop}{e:Sh}{xs:List e.T}{v:Value}(h:aN w ok (.sl e) xs [v]){i:Nat}(hi:i<xs.length):
  ∃ b o cap cs,v=.slice (some ⟨b,o,none⟩) xs.length cap/\xs.length<=cap/\ok b/\cs.length=e.size/\Row w b (o+i*e.size) cs/\aN w ok e (xs.getD i e.ft) cs:=by
 simp only[aN] at h
 obtain⟨base,cap,hv,hc,h⟩:=h
 simp only[List.cons.injEq,and_true] at hv
 rcases h with h | ⟨b,o,rfl,cR,h⟩
 ·omega
 ·obtain⟨cs,h1,h2,h3⟩:=h i hi
  refine⟨b,o,cap,cs,hv,hc,cR,h1,h2,?_⟩
  rw[List.getD_eq_getElem?_getD,List.getElem?_eq_getElem hi]
  exact h3
theorem zmv{P:Program}(hs:df W0 okIn B us tm ob nt E a){T:TypeId}{x i r:AV}{v j:Value}{q:List Prop}{uS:Bool}(hl:pT ob x=true)(h:Dj P T uS ob x i=some (q,r))(hq:∀ p∈q,p)
  (hx:VR E x v) (hi:VR E i j) {gG:Nat->Prop} (hn:x.nm gG) (w:World):∃ z,(Instr.indexAt T v j).run P w=.ok z w/\VR E r z/\r.nm gG:=by
 unfold Dj at h
 split at h
 ·rename_i i k i
  simp only[VR] at hi
  subst hi
  split at h
  ·rename_i el hT
   split at h
   ·rename_i s cq
    have key:∀ (ad:Addr) (len cap:Nat),0<=i/\i<(len:Int)->(Instr.indexAt T (.slice (some ad) len cap) (.int k i)).run P w=.ok (.pointer (some (ad.add (i.toNat*s)))) w:=by
     intro ad len cap h0
     simp[Instr.indexAt,asIntOf,run_underlying hT,h0,kd w cq]
    split at h
    ·rename_i e xs
     split at h
     ·rename_i hb
      have hU:=beq_true hb
      subst hU
      simp only[Option.some.injEq,Prod.mk.injEq] at h
      obtain⟨rfl,rfl⟩:=h
      have h0:0<=i/\i<(xs.length:Int):=hq _ (List.Mem.head _)
      simp only[VR] at hx
      obtain⟨b,o,cap,cs,rfl,hc,cR,h1,h2,h3⟩:=aN.elem hx (i:=i.toNat) (by omega)
      refine⟨_,key _ _ _ h0,?_,by simp[AV.nm]⟩
      simp only[VR]
      exact⟨b,o+i.toNat*e.size,cs,by rw[jc];simp,cR,h1,h2,h3⟩
     ·simp at h
    ·rename_i n e off len
     split at h
     ·rename_i hb
      have hU:=beq_true hb
      subst hU
      simp only[Option.some.injEq,Prod.mk.injEq] at h
      obtain⟨rfl,rfl⟩:=h
      have h0:0<=i/\i<(len:Int):=hq _ (List.Mem.head _)
      simp only[VR] at hx
      obtain⟨L,hL,lU⟩:=nw hs hl
      obtain⟨base,rfl,h1,h2,h3⟩:=hx.2 L hL
      have hlt:off<L.cap:=by omega
      rcases lU with lU | ⟨b,lU⟩
      ·omega
      ·have cL:=h3 hlt
       rw[lU] at cL
       subst cL
       refine⟨_,key _ _ _ h0,?_,hn⟩
       simp only[VR,eL,true_and]
       intro L' c9
       obtain rfl:L=L':=Option.some.inj (hL.symm.trans c9)
       exact⟨b,lU,by rw[jc,jc];congr 3;rw[Nat.zero_add,Nat.add_mul];omega⟩
     ·simp at h
    ·rename_i n off len
     simp only[Option.some.injEq,Prod.mk.injEq] at h
     obtain⟨rfl,rfl⟩:=h
     have h0:0<=i/\i<(len:Int):=hq _ (List.Mem.head _)
     simp only[VR] at hx
     obtain⟨L,hL,lU⟩:=nw hs hl
     obtain⟨b,o,cap,h1,rfl,h2,h3⟩:=hx.2 L hL
     refine⟨_,key _ _ _ h0,?_,hn⟩
     simp only[VR,eL,true_and]
     intro L' c9
     obtain rfl:L=L':=Option.some.inj (hL.symm.trans c9)
     exact⟨b,h1,by rw[jc,h3 (by omega)]⟩
    ·rename_i n e
     split at h
     ·rename_i hb
      have hU:=beq_true hb
      subst hU
      have fin:∀ {e':Sh} {xs:List e'.T},(eO E n (.rows e' xs)\/eO E n (.gR e' xs))->some ([0<=i/\i<(xs.length:Int)],AV.epr n e i.toNat 0)=some (q,r)->
        ∃ z,(Instr.indexAt T v (.int k i)).run P w=.ok z w/\VR E r z/\r.nm gG:=by
       intro e' xs ho h
       simp only[Option.some.injEq,Prod.mk.injEq] at h
       obtain⟨rfl,rfl⟩:=h
       have h0:0<=i/\i<(xs.length:Int):=hq _ (List.Mem.head _)
       obtain⟨L,hL,rfl,hle,lU⟩:=AD ho hx
       rcases lU with lU | ⟨b,lU⟩
       ·omega
       ·rw[lU]
        refine⟨_,key _ _ _ h0,?_,hn⟩
        simp only[VR,eL,true_and]
        intro L' c9
        obtain rfl:L=L':=Option.some.inj (hL.symm.trans c9)
        exact⟨b,lU,by rw[jc];simp⟩
      split at h
      ·rename_i b8;exact fin (.inl (hs.obj _ _ b8).1) h
      ·rename_i b8;exact fin (.inr (hs.obj _ _ b8).1) h
      ·simp at h
     ·simp at h
    ·simp at h
   ·simp at h
  ·rename_i m el hT
   split at h
   ·rename_i s cq
    have key:∀ (ad:Addr),0<=i/\i<(m:Int)->(Instr.indexAt T (.pointer (some ad)) (.int k i)).run P w=.ok (.pointer (some (ad.add (i.toNat*s)))) w:=by
     intro ad h0
     simp[Instr.indexAt,asIntOf,run_underlying hT,h0,kd w cq,Instr.sureAddr]
    split at h
    ·rename_i n off
     split at h
     ·simp only[Option.some.injEq,Prod.mk.injEq] at h
      obtain⟨rfl,rfl⟩:=h
      have h0:0<=i/\i<(m:Int):=hq _ (List.Mem.head _)
      simp only[VR] at hx
      obtain⟨L,hL,lU⟩:=nw hs hl
      obtain⟨b,h1,rfl⟩:=hx.2 L hL
      refine⟨_,key _ h0,?_,hn⟩
      simp only[VR,eL,true_and]
      intro L' c9
      obtain rfl:L=L':=Option.some.inj (hL.symm.trans c9)
      exact⟨b,h1,by rw[jc]⟩
     ·split at h
      ·rename_i tH
       have Ay:=beq_true tH
       subst Ay
       simp only[Option.some.injEq,Prod.mk.injEq] at h
       obtain⟨rfl,rfl⟩:=h
       have h0:0<=i/\i<(m:Int):=hq _ (List.Mem.head _)
       simp only[VR] at hx
       obtain⟨L,hL,lU⟩:=nw hs hl
       obtain⟨b,h1,rfl⟩:=hx.2 L hL
       refine⟨_,key _ h0,?_,hn⟩
       simp only[VR,eL,true_and]
       refine⟨by omega,fun L' c9=>?_⟩
       obtain rfl:L=L':=Option.some.inj (hL.symm.trans c9)
       exact⟨b,h1,by rw[jc,Nat.mul_one]⟩
      ·simp at h
    ·rename_i e x off
     simp only[Option.some.injEq,Prod.mk.injEq] at h
     obtain⟨rfl,rfl⟩:=h
     have h0:0<=i/\i<(m:Int):=hq _ (List.Mem.head _)
     simp only[VR] at hx
     obtain⟨b,o,cs,rfl,h2⟩:=hx
     refine⟨_,key _ h0,?_,by simp[AV.nm]⟩
     simp only[VR]
     exact⟨b,o,cs,by rw[jc,Nat.add_assoc],h2⟩
    ·rename_i n e jj off
     simp only[Option.some.injEq,Prod.mk.injEq] at h
     obtain⟨rfl,rfl⟩:=h
     have h0:0<=i/\i<(m:Int):=hq _ (List.Mem.head _)
     simp only[VR] at hx
     obtain⟨L,hL,lU⟩:=nw hs hl
     obtain⟨b,h1,rfl⟩:=hx.2 L hL
     refine⟨_,key _ h0,?_,hn⟩
     simp only[VR,eL,true_and]
     intro L' c9
     obtain rfl:L=L':=Option.some.inj (hL.symm.trans c9)
     exact⟨b,h1,by rw[jc,Nat.add_assoc]⟩
    ·simp at h
   ·simp at h
  ·simp at h
 ·simp at h
end
section
variable {W0:WX} {okIn B us:Nat->Prop} {tm:Nat->Option AV} {ob:Nat->Option AO} {nt:Nat} {E:Env} {a:Act}
theorem Row.take{w:World}{b o:Nat}{cs:List Value}(h:Row w b o cs)(n:Nat):Row w b o (cs.take n):=by
 intro j hj
 have:=h j (by simp at hj;omega)
 simpa using this
theorem Row.drop{w:World}{b o:Nat}{cs:List Value}(h:Row w b o cs)(n:Nat):Row w b (o+n) (cs.drop n):=by
 intro j hj
 have:=h (n+j) (by simp at hj;omega)
 rw[show o+n+j=o+(n+j) by omega,this]
 simp
theorem Ho{P:Program}{w:World}{T:TypeId}{b o off:Nat}{l:List AV}{vs:List Value}{r:AV}(h:kG P T off l=some r)(hl:aR E l vs)(hr:Row w b o vs):
  ∃ z,(Instr.loadAt T (.pointer (some ⟨b,o+off,none⟩))).run P w=.ok z w/\VR E r z:=by
 rcases Q5 h with⟨n,h1,h2,h3,rfl⟩ | ⟨h1,h2⟩
 ·refine⟨.agg ((vs.drop off).take n).toArray,?_,⟨_,rfl,(hl.drop off).take n⟩⟩
  have hlen:((vs.drop off).take n).length=n:=by simp[hl.length];omega
  have fx:=(hr.drop off).take n
  have Hp:=run_loadCells_list (P:=P) w ⟨b,o+off,none⟩ ((vs.drop off).take n) (fun j v hv=>by
   have hj:j<((vs.drop off).take n).length:=by
    rcases Nat.lt_or_ge j ((vs.drop off).take n).length with hlt | hge
    ·exact hlt
    ·rw[List.getElem?_eq_none hge] at hv;simp at hv
   rw[List.getElem?_eq_getElem hj] at hv
   rw[jc,fx j hj]
   exact hv)
  rw[hlen] at Hp
  simp[Instr.loadAt,Instr.sureAddr,loadVar,u5 w h1,kd w h2,Hp]
 ·obtain⟨x,hx,hv⟩:=hl.nth h2
  refine⟨x,?_,hv⟩
  have hlt:off<vs.length:=by
   rcases Nat.lt_or_ge off vs.length with hlt | hge
   ·exact hlt
   ·rw[List.getElem?_eq_none hge] at hx;simp at hx
  have hcell:=hr off hlt
  rw[List.getElem?_eq_getElem hlt] at hx
  have DQ:=Option.some.inj hx
  simp[Instr.loadAt,Instr.sureAddr,loadVar,u5 w h1,hcell,DQ]
theorem tJ:∀ (s:Sh),s.flat=true->∀ (x:s.T) (vs:List Value),aN E.w E.ok s x vs->aR E (enc s x) vs
 | .int k,_,x,vs,h=>by simp only[aN] at h;subst h;simp[enc,aR,VR]
 | .bool,_,x,vs,h=>by simp only[aN] at h;subst h;simp[enc,aR,VR]
 | .str,_,x,vs,h=>by simp only[aN] at h;subst h;simp[enc,aR,VR]
 | .unit,_,x,vs,h=>by simp only[aN] at h;subst h;simp[enc,aR]
 | .sl e,_,x,vs,h=>by
  have h':=h
  simp only[aN] at h
  obtain⟨base,cap,rfl,h2⟩:=h
  simp only[enc,aR,VR]
  exact⟨_,[],rfl,h',rfl⟩
 | .arr n e,hf,x,vs,h=>by simp[Sh.flat] at hf
 | .pair p q,hf,x,vs,h=>by
  simp only[aN] at h
  obtain⟨v1,v2,rfl,h1,h2⟩:=h
  simp only[Sh.flat] at hf
  split at hf
  ·rename_i hp
   simp only[enc,iC]
   exact aR.append (tJ p hp _ _ h1) (tJ q hf _ _ h2)
  ·simp at hf
 | .err,_,x,vs,h=>by
  simp only[aN] at h
  obtain⟨v,rfl,h⟩:=h
  simp only[enc,aR,VR]
  exact⟨v,[],rfl,h,rfl⟩
 | .pt e,_,x,vs,h=>by
  simp only[aN] at h
  obtain⟨b,o,cs,rfl,h2,h3,h4,h5⟩:=h
  simp only[enc,aR,VR]
  exact⟨_,[],rfl,⟨b,o,cs,by simp,h2,h3,h4,h5⟩,rfl⟩
theorem qM(p:Nat->Prop):∀ (s:Sh) (x:s.T),AV.cI p (enc s x)
 | .int k,x=>by simp[enc,AV.cI,AV.nm]
 | .bool,x=>by simp[enc,AV.cI,AV.nm]
 | .str,x=>by simp[enc,AV.cI,AV.nm]
 | .unit,x=>by simp[enc,AV.cI,AV.nm]
 | .sl e,x=>by simp[enc,AV.cI,AV.nm]
 | .arr n e,x=>by simp[enc,AV.cI,AV.nm]
 | .pair a b,x=>by simp only[enc,iC];exact DM (qM p a _) (qM p b _)
 | .err,x=>by simp[enc,AV.cI,AV.nm]
 | .pt e,x=>by simp[enc,AV.cI,AV.nm]
theorem getD_eq{α:Type}{xs:List α}{i:Nat}(h:i<xs.length)(d:α):xs.getD i d=xs[i]:=by
 rw[List.getD_eq_getElem?_getD,List.getElem?_eq_getElem h];rfl
theorem pZ{w:World}{b:Nat}{cs:Array Value}{T:TypeId}{fr:Nat×Nat}(h:w.heap[b]? =some (.cells cs T fr)):Row w b 0 cs.toList:=by
 intro j hj
 simp[World.cell?,h,hj]
theorem yh{P:Program}{t:TypeId}{e:Sh}(h:oU P t=some e):iA P t=some e.size/\Ai P 16 t=some e:=by
 unfold oU at h
 split at h
 ·rename_i e' s h1 h2
  split at h
  ·rename_i hb
   simp only[Option.some.injEq] at h
   subst h
   rw[h2,beq_true hb]
   exact⟨rfl,h1⟩
  ·simp at h
 ·simp at h
theorem MD{l:List AV}{v:AV}(h:G4 l=some v):l=[v]:=by
 unfold G4 at h
 split at h
 ·simp only[Option.some.injEq] at h;subst h;rfl
 ·simp at h
theorem zmw{P:Program}{T:TypeId}{s:Sh}{y:s.T}{r:AV}{cs:List Value}(h:G6 P T s y=some r)(hy:aN E.w E.ok s y cs):
  (nk P T=some true/\VR E r (.agg cs.toArray))\/(nk P T=some false/\∃ z,cs=[z]/\VR E r z):=by
 unfold G6 at h
 split at h
 ·rename_i ha
  split at h
  ·rename_i hf
   simp only[Option.some.injEq] at h
   subst h
   exact .inl ⟨ha,cs,rfl,tJ s hf y cs hy⟩
  ·simp only[Option.some.injEq] at h
   subst h
   exact .inl ⟨ha,cs,rfl,hy⟩
 ·rename_i ha
  split at h
  ·rename_i hf
   have h1:=tJ s hf y cs hy
   rw[MD h] at h1
   simp only[aR] at h1
   obtain⟨z,q,rfl,h2,rfl⟩:=h1
   exact .inr ⟨ha,z,rfl,h2⟩
  ·simp at h
 ·simp at h
theorem zmx{P:Program}{T:TypeId}{s:Sh}{y:s.T}{r:AV}(h:G6 P T s y=some r)(p:Nat->Prop):r.nm p:=by
 unfold G6 at h
 split at h
 ·split at h<;>simp only[Option.some.injEq] at h<;>subst h
  ·exact qM p s y
  ·simp[AV.nm]
 ·split at h
  ·have:=qM p s y
   rw[MD h] at this
   exact this.1
  ·simp at h
 ·simp at h
theorem Rc{P:Program}{T:TypeId}{e:Sh}{x:e.T}{off:Nat}{r:AV}(h:wg P T e x off=some r)(p:Nat->Prop):r.nm p:=by
 unfold wg at h
 split at h
 ·split at h
  ·exact zmx h p
  ·simp at h
 ·simp at h
theorem Yy{P:Program}{T:TypeId}{e:Sh}{x:e.T}{off:Nat}{r:AV}{cs:List Value}(h:wg P T e x off=some r)(hx:aN E.w E.ok e x cs):
  (∃ n,nk P T=some true/\iA P T=some n/\off+n<=cs.length/\VR E r (.agg ((cs.drop off).take n).toArray))\/(nk P T=some false/\∃ z,cs[off]? =some z/\VR E r z):=by
 unfold wg at h
 split at h
 ·rename_i s hs
  split at h
  ·rename_i y hy
   obtain⟨h1,h2⟩:=yh hs
   obtain⟨g1,g2⟩:=Hn e hy hx
   rcases zmw h g2 with⟨k1,k2⟩ | ⟨k1,z,k2,k3⟩
   ·exact .inl ⟨_,k1,h1,g1,k2⟩
   ·refine .inr ⟨k1,z,?_,k3⟩
    have:((cs.drop off).take s.size)[0]? =some z:=by rw[k2];rfl
    rw[List.getElem?_take] at this
    split at this
    ·rwa [List.getElem?_drop,Nat.add_zero] at this
    ·simp at this
  ·simp at h
 ·simp at h
theorem Yz{P:Program}{T:TypeId}{e:Sh}{x:e.T}{off:Nat}{r:AV}{cs:List Value}{b o:Nat}(h:wg P T e x off=some r)(hx:aN E.w E.ok e x cs)(hr:Row E.w b o cs):
  ∃ z,(Instr.loadAt T (.pointer (some ⟨b,o+off,none⟩))).run P E.w=.ok z E.w/\VR E r z:=by
 rcases Yy h hx with⟨n,h1,h2,h3,h4⟩ | ⟨h1,z,hz,hv⟩
 ·refine⟨_,?_,h4⟩
  have hlen:((cs.drop off).take n).length=n:=by simp;omega
  have fx:=(hr.drop off).take n
  have Hp:=run_loadCells_list (P:=P) E.w ⟨b,o+off,none⟩ ((cs.drop off).take n) (fun j v hv=>by
   have hj:j<((cs.drop off).take n).length:=by
    rcases Nat.lt_or_ge j ((cs.drop off).take n).length with hlt | hge
    ·exact hlt
    ·rw[List.getElem?_eq_none hge] at hv;simp at hv
   rw[List.getElem?_eq_getElem hj] at hv
   rw[jc,fx j hj]
   exact hv)
  rw[hlen] at Hp
  simp[Instr.loadAt,Instr.sureAddr,loadVar,u5 E.w h1,kd E.w h2,Hp]
 ·refine⟨z,?_,hv⟩
  have hlt:off<cs.length:=by
   rcases Nat.lt_or_ge off cs.length with hlt | hge
   ·exact hlt
   ·rw[List.getElem?_eq_none hge] at hz;simp at hz
  have hcell:=hr off hlt
  rw[List.getElem?_eq_getElem hlt] at hz
  have DQ:=Option.some.inj hz
  simp[Instr.loadAt,Instr.sureAddr,loadVar,u5 E.w h1,hcell,DQ]
theorem zmy{P:Program}{T:TypeId}{f:Nat}{g:Field}{e:Sh}{x:e.T}{v:Value}{r:AV}(hf:Aj P T f=some g)(h:wg P g.type e x g.offset=some r)(hx:VR E (.arr e x) v)
  (w:World):∃ z,(Instr.field T v f).run P w=.ok z w/\VR E r z:=by
 unfold Aj at hf
 split at hf
 ·rename_i fs hT
  rw[su] at hf
  simp only[VR] at hx
  obtain⟨vs,rfl,hx⟩:=hx
  have lT:fs[f]? =some g:=by simpa using hf
  rcases Yy h hx with⟨n,h1,h2,h3,h4⟩ | ⟨h1,z,hz,hv⟩
  ·exact⟨_,by simp[Instr.field,run_underlying hT,lT,asAgg,part,u5 w h1,kd w h2],h4⟩
  ·exact⟨z,by simp[Instr.field,run_underlying hT,lT,asAgg,part,u5 w h1,hz],hv⟩
 ·simp at hf
theorem YA{P:Program}(hs:df W0 okIn B us tm ob nt E a){T:TypeId}{x r:AV}{v:Value}{q:List Prop}(h:Ak P T ob x=some (q,r))(hq:∀ p∈q,p)
  (hx:VR E x v):∃ z,(Instr.loadAt T v).run P E.w=.ok z E.w/\VR E r z/\r.nm us:=by
 unfold Ak at h
 split at h
 ·rename_i n off
  split at h
  ·rename_i l b8
   split at h
   ·rename_i y hy
    simp only[Option.some.injEq,Prod.mk.injEq] at h
    obtain⟨rfl,rfl⟩:=h
    obtain⟨h1,h2,h3⟩:=hs.obj n _ b8
    obtain⟨b,cs,T',fr,g1,g2,g3,g4⟩:=h1
    simp only[VR] at hx
    obtain⟨b',cL,rfl⟩:=hx.2 _ g1
    simp only[Option.some.injEq,Addr.mk.injEq,and_true] at cL
    subst cL
    obtain⟨z,hz,hv⟩:=Ho (P:=P) hy g4 (pZ g2)
    exact⟨z,by simpa using hz,hv,Av hy h2⟩
   ·simp at h
  ·rename_i l b8
   split at h
   ·rename_i y hy
    simp only[Option.some.injEq,Prod.mk.injEq] at h
    obtain⟨rfl,rfl⟩:=h
    obtain⟨h1,h2,h3⟩:=hs.obj n _ b8
    obtain⟨b,cs,T',fr,g1,g3,g2,g4⟩:=h1
    simp only[VR] at hx
    obtain⟨b',cL,rfl⟩:=hx.2 _ g1
    simp only[Option.some.injEq,Addr.mk.injEq,and_true] at cL
    subst cL
    obtain⟨z,hz,hv⟩:=Ho (P:=P) hy g4 (pZ g2)
    exact⟨z,by simpa using hz,hv,Av hy h2⟩
   ·simp at h
  ·simp at h
 ·rename_i n off i m
  split at h
  ·rename_i l b8 tI
   split at h
   ·rename_i hb
    split at h
    ·rename_i y hy
     simp only[Option.some.injEq,Prod.mk.injEq] at h
     obtain⟨rfl,rfl⟩:=h
     obtain⟨h1,h2,h3⟩:=hs.obj n _ b8
     obtain⟨b,cs,T',fr,g1,g2,g3,g4⟩:=h1
     simp only[VR] at hx
     obtain⟨sy,qa,hx⟩:=hx
     obtain⟨b',cL,rfl⟩:=hx _ g1
     simp only[Option.some.injEq,Addr.mk.injEq,and_true] at cL
     subst cL
     have hle:=Nat.le_of_ble_eq_true hb
     rw[lS] at hle
     rw[yd,ye] at hy
     obtain⟨z,k1,k2,k3⟩:=Yv hy ((g4.drop off).take m) (by simp;omega)
     refine⟨z,?_,k2,k3 us⟩
     have dh:=g4.length
     have hlt:off+i<cs.size:=by simp at dh;omega
     have hcell:E.w.cell? ⟨b,off+i,none⟩=some z:=by
      simp only[List.getElem?_take,sy,if_true,List.getElem?_drop] at k1
      simpa [World.cell?,g2] using k1
     simp[Instr.loadAt,Instr.sureAddr,loadVar,u5 E.w tI,hcell]
    ·simp at h
   ·simp at h
  ·simp at h
 ·rename_i e x off
  split at h
  ·rename_i hf
   split at h
   ·rename_i y hy
    simp only[Option.some.injEq,Prod.mk.injEq] at h
    obtain⟨rfl,rfl⟩:=h
    simp only[VR] at hx
    obtain⟨b,o,cs,rfl,cR,hlen,fx,hl⟩:=hx
    obtain⟨z,hz,hv⟩:=Ho (P:=P) hy (tJ e hf x cs hl) fx
    exact⟨z,hz,hv,Av hy (qM us e x)⟩
   ·simp at h
  ·split at h
   ·rename_i y hy
    simp only[Option.some.injEq,Prod.mk.injEq] at h
    obtain⟨rfl,rfl⟩:=h
    simp only[VR] at hx
    obtain⟨b,o,cs,rfl,cR,hlen,fx,hl⟩:=hx
    obtain⟨z,hz,hv⟩:=Yz (P:=P) hy hl fx
    exact⟨z,hz,hv,Rc hy us⟩
   ·simp at h
 ·rename_i n e i off
  split at h
  ·rename_i hf
   split at h
   ·rename_i e' xs b8
    split at h
    ·rename_i he
     subst he
     split at h
     ·rename_i y hy
      simp only[Option.some.injEq,Prod.mk.injEq] at h
      obtain⟨rfl,rfl⟩:=h
      have hi:i<xs.length:=hq _ (List.Mem.head _)
      obtain⟨h1,h2,h3⟩:=hs.obj n _ b8
      obtain⟨L,g1,_,g2⟩:=h1
      rcases g2 with g2 | ⟨b,cs,T',fr,g3,g4,g5,g6,g7,g8,g9⟩
      ·omega
      ·simp only[VR] at hx
       obtain⟨b',cL,rfl⟩:=hx.2 _ g1
       rw[g3] at cL
       simp only[Option.some.injEq,Addr.mk.injEq,and_true] at cL
       subst cL
       have fx:=((pZ g5).drop (i*e'.size)).take e'.size
       rw[getD_eq hi] at hy
       obtain⟨z,hz,hv⟩:=Ho (P:=P) hy (tJ e' hf _ _ (g9 i hi)) fx
       exact⟨z,by simpa using hz,hv,Av hy (qM us e' _)⟩
     ·simp at h
    ·simp at h
   ·rename_i e' xs b8
    split at h
    ·rename_i he
     subst he
     split at h
     ·rename_i y hy
      simp only[Option.some.injEq,Prod.mk.injEq] at h
      obtain⟨rfl,rfl⟩:=h
      have hi:i<xs.length:=hq _ (List.Mem.head _)
      obtain⟨h1,h2,h3⟩:=hs.obj n _ b8
      obtain⟨L,g1,_,g2,g3,g4⟩:=h1
      obtain⟨b,o,cap,cs,hv,hc,cR,hlen,fx,hl⟩:=aN.elem g4 hi
      simp only[VR] at hx
      obtain⟨b',cL,rfl⟩:=hx.2 _ g1
      rw[cL] at hv
      simp only[Value.slice.injEq,Option.some.injEq,Addr.mk.injEq,and_true] at hv
      obtain⟨⟨rfl,rfl⟩,_⟩:=hv
      obtain⟨z,hz,hv⟩:=Ho (P:=P) hy (tJ e' hf _ _ hl) fx
      exact⟨z,by simpa using hz,hv,Av hy (qM us e' _)⟩
     ·simp at h
    ·simp at h
   ·simp at h
  ·split at h
   ·rename_i e' xs b8
    split at h
    ·rename_i he
     subst he
     split at h
     ·rename_i y hy
      simp only[Option.some.injEq,Prod.mk.injEq] at h
      obtain⟨rfl,rfl⟩:=h
      have hi:i<xs.length:=hq _ (List.Mem.head _)
      obtain⟨h1,h2,h3⟩:=hs.obj n _ b8
      obtain⟨L,g1,_,g2⟩:=h1
      rcases g2 with g2 | ⟨b,cs,T',fr,g3,g4,g5,g6,g7,g8,g9⟩
      ·omega
      ·simp only[VR] at hx
       obtain⟨b',cL,rfl⟩:=hx.2 _ g1
       rw[g3] at cL
       simp only[Option.some.injEq,Addr.mk.injEq,and_true] at cL
       subst cL
       have fx:=((pZ g5).drop (i*e'.size)).take e'.size
       rw[getD_eq hi] at hy
       obtain⟨z,hz,hv⟩:=Yz (P:=P) hy (g9 i hi) fx
       exact⟨z,by simpa using hz,hv,Rc hy us⟩
     ·simp at h
    ·simp at h
   ·simp at h
 ·simp at h
end
section
variable {W0:WX} {okIn B us:Nat->Prop} {tm:Nat->Option AV} {ob:Nat->Option AO} {nt:Nat} {E:Env} {a:Act}
def gT(mu:Nat->Option Loc)(nm:Nat)(L:Option Loc)(n:Nat):Option Loc:=if n=nm then L else mu n
theorem jV(mu:Nat->Option Loc)(nm:Nat)(L:Option Loc):gT mu nm L nm=L:=by simp[gT]
theorem yi(mu:Nat->Option Loc){nm n:Nat}(L:Option Loc)(h:n≠nm):gT mu nm L n=mu n:=by simp[gT,h]
theorem DR{α:Type}{nm n:Nat}{x:α}:aQ [(nm,x)] n=if n=nm then some x else none:=by
 simp only[aQ]
 by_cases h:n=nm
 ·subst h;simp[eV]
 ·simp[Q0 h,h]
theorem cK.new(he:jm W0 okIn B E)(jF:∀ n,n<16->us n){nm:Nat}(cO:¬ us nm){w':World}{L:Loc}{o:AO}
  (eJ:∀ b,b<E.w.heap.size->w'.heap[b]? =E.w.heap[b]?) (cq:E.w.heap.size<=w'.heap.size) (sA:w'.os=E.w.os) (yj:w'.tape=E.w.tape) (ny:w'.output=E.w.output)
  (hL:L.own=true->∃ b,L.base=some ⟨b,0,none⟩/\E.w.heap.size<=b/\b<w'.heap.size)
  (ho:eO ⟨w',gT E.mu nm (some L),E.ok⟩ nm o) (yk:o.nm (eC us nm)):
  cK W0 okIn B us (eC us nm) E ⟨w',gT E.mu nm (some L),E.ok⟩ [(nm,some o)]:=by
 have dS:∀ n b,cV ⟨w',gT E.mu nm (some L),E.ok⟩ n b->(n=nm/\E.w.heap.size<=b/\b<w'.heap.size)\/(n≠nm/\cV E n b):=by
  intro n b hb
  obtain⟨L',h1,h2,h3⟩:=hb
  by_cases hn:n=nm
  ·subst hn
   simp only[jV,Option.some.injEq] at h1
   subst h1
   obtain⟨b',g1,g2,g3⟩:=hL h2
   rw[h3] at g1
   simp only[Option.some.injEq,Addr.mk.injEq,and_true] at g1
   subst g1
   exact .inl ⟨rfl,g2,g3⟩
  ·simp only[yi _ _ hn] at h1
   exact .inr ⟨hn,L',h1,h2,h3⟩
 refine⟨fun n h=>.inl h,?_,?_,?_,?_,?_,fun b h=>h,?_⟩
 ·intro n h
  rw[DR] at h
  split at h
  ·simp at h
  ·rename_i hn;exact yi _ _ hn
 ·intro n hn L' h
  have eW:n≠nm:=fun hh=>cO (hh▸hn)
  simp only[yi _ _ eW] at h
  exact⟨L',h,rfl,rfl,rfl⟩
 ·intro n h
  rw[DR] at h
  split at h<;>simp at h
 ·intro n o' h
  rw[DR] at h
  split at h
  ·rename_i hn
   subst hn
   simp only[Option.some.injEq] at h
   subst h
   exact⟨ho,yk,oY⟩
  ·simp at h
 ·intro b hb _;exact eJ b hb
 ·refine⟨?_,?_,?_,he.sr,?_,?_,he.new,sA.trans he.os,yj.trans he.tape,ny.trans he.output,?_⟩
  ·intro n m b h1 h2
   rcases dS n b h1 with⟨rfl,h3,h4⟩ | ⟨h3,h4⟩<;>rcases dS m b h2 with⟨rfl,h5,h6⟩ | ⟨h5,h6⟩
   ·rfl
   ·have:=(he.own m b h6).2.1;omega
   ·have:=(he.own n b h4).2.1;omega
   ·exact he.inj n m b h4 h6
  ·intro n b h1
   rcases dS n b h1 with⟨rfl,h3,h4⟩ | ⟨h3,h4⟩
   ·refine⟨he.new b (by have:=he.sz;omega),h4,fun cR=>?_⟩
    have:=(he.iR b cR).1;omega
   ·obtain⟨g1,g2,g3⟩:=he.own n b h4
    exact⟨g1,by show b<w'.heap.size;omega,g3⟩
  ·intro b hb
   obtain⟨g1,g2⟩:=he.iR b hb
   exact⟨by show b<w'.heap.size;omega,g2⟩
  ·intro b hb hB
   have:=he.sz
   show w'.heap[b]? =_
   rw[eJ b (by omega)]
   exact he.fr b hb hB
  ·exact Nat.le_trans he.sz cq
  ·intro n L' h hn
   have eW:n≠nm:=fun hh=>cO (hh▸jF n hn)
   simp only[yi _ _ eW] at h
   exact he.li n L' h hn
theorem AE(w:World)(o:Obj):∀ b,b<w.heap.size->({ w with heap:=w.heap.push o }:World).heap[b]? =w.heap[b]? :=by
 intro b hb
 show (w.heap.push o)[b]? =_
 rw[Array.getElem?_push,if_neg (by omega)]
theorem AF(w:World)(o:Obj):({ w with heap:=w.heap.push o }:World).heap[w.heap.size]? =some o:=by
 show (w.heap.push o)[w.heap.size]? =_
 simp
theorem zmz(he:jm W0 okIn B E){nm:Nat}(cO:¬ us nm){w':World}{L:Loc}(eJ:∀ b,b<E.w.heap.size->w'.heap[b]? =E.w.heap[b]?):
  u0 us E ⟨w',gT E.mu nm (some L),E.ok⟩:=
 ⟨fun b hb=>eJ b (he.iR b hb).1,fun b h=>h,fun n hn L' h=>by
  have eW:n≠nm:=fun hh=>cO (hh▸hn)
  simp only[yi _ _ eW] at h
  exact⟨L',h,rfl,rfl,rfl⟩⟩
theorem YB(he:jm W0 okIn B E)(jF:∀ n,n<16->us n){nm:Nat}(cO:¬ us nm){l:List AV}{vs:List Value}(T:TypeId)(hl:aR E l vs)(hn:AV.cI us l):
  ∃ E',E'.w={ E.w with heap:=E.w.heap.push (.cells vs.toArray T) }/\cK W0 okIn B us (eC us nm) E E' [(nm,some (.cells l))]/\VR E' (.ptr nm 0) (.pointer (some ⟨E.w.heap.size,0,none⟩)):=by
 have eJ:=AE E.w (.cells vs.toArray T)
 refine⟨⟨_,gT E.mu nm (some ⟨some ⟨E.w.heap.size,0,none⟩,1,true,0⟩),E.ok⟩,rfl,?_,?_⟩
 ·refine cK.new he jF cO eJ (by simp) rfl rfl rfl (fun _=>⟨_,rfl,Nat.le_refl _,by simp⟩) ?_ (AV.u3 (fun n h=>.inl h) l hn)
  exact⟨E.w.heap.size,vs.toArray,T,(0,0),jV _ _ _,AF _ _,fun i _=>by omega,by
   simpa using aR.mono (zmz he cO eJ) l vs hn hl⟩
 ·simp only[VR,eL,true_and]
  intro L hL
  simp only[jV,Option.some.injEq] at hL
  subst hL
  exact⟨_,rfl,rfl⟩
theorem Re{v:AV}{x:Value}(h:G2 v=true)(hx:VR E v x):eL x:=by
 cases v<;>simp[G2] at h<;>simp only[VR] at hx
 all_goals first
  | (subst hx;trivial)
  | exact hx
  | exact hx.1
  | exact hx.2.1
  | exact hx.leaf
  | skip
 ·obtain⟨base,cap,hv,_⟩:=hx
  simp only[List.cons.injEq,and_true] at hv
  subst hv;trivial
 ·obtain⟨b,o,cs,rfl,_⟩:=hx;trivial
 ·obtain⟨p,q,rfl,_⟩:=hx;trivial
 ·obtain⟨y,rfl,_⟩:=hx;trivial
theorem Hq:∀ {l:List AV} {vs:List Value},xY l=true->aR E l vs->∀ x∈vs,eL x
 | [],vs,_,h,x,hx=>by simp[aR] at h;simp[h] at hx
 | b::l,vs,hl,h,x,hx=>by
  simp only[xY] at hl
  split at hl
  ·rename_i hb
   simp only[aR] at h
   obtain⟨v,r,rfl,h1,h2⟩:=h
   rcases List.mem_cons.1 hx with rfl | hx
   ·exact Re hb h1
   ·exact Hq hl h2 x hx
  ·simp at hl
theorem YC{x:Value}(h:eL x):x.cells=#[x]:=by
 cases x<;>simp[eL] at h<;>rfl
theorem Hr{v:AV}{x:Value}{l:List AV}(h:uN v=some l)(hx:VR E v x):aR E l x.cells.toList/\(∀ y∈x.cells.toList,eL y)/\∀ p,v.nm p->AV.cI p l:=by
 unfold uN at h
 split at h
 ·split at h
  ·rename_i hl
   simp only[Option.some.injEq] at h
   subst h
   simp only[VR] at hx
   obtain⟨vs,rfl,hx⟩:=hx
   exact⟨by simpa [Value.cells] using hx,by simpa [Value.cells] using Hq hl hx,fun p hp=>hp⟩
  ·simp at h
 ·split at h
  ·rename_i hl
   simp only[Option.some.injEq] at h
   subst h
   have qa:=Re hl hx
   rw[YC qa]
   refine⟨?_,by simpa using qa,fun p hp=>by simp[AV.cI,hp]⟩
   simp only[aR]
   exact⟨x,[],rfl,hx,rfl⟩
  ·simp at h
theorem ME{P:Program}(w:World)(T:TypeId)(v:Value):(newVar T v).run P w=.ok ⟨w.heap.size,0,none⟩ { w with heap:=w.heap.push (.cells v.cells T) }:=by
 simp[newVar,newRow]
theorem zmA{P:Program}(hs:df W0 okIn B us tm ob nt E a){nm:Nat}(cO:¬ us nm){T:TypeId}{v:AV}{x:Value}{l:List AV}(h:uN v=some l)(hx:VR E v x)(hn:v.nm us):
  ∃ E' z,(Instr.box T x).run P E.w=.ok z E'.w/\cK W0 okIn B us (eC us nm) E E' [(nm,some (.cells l))]/\VR E' (.ptr nm 0) z:=by
 obtain⟨h1,h2,h3⟩:=Hr h hx
 obtain⟨E',hE,hv,hp⟩:=YB hs.env hs.lo cO T h1 (h3 us hn)
 refine⟨E',_,?_,hv,hp⟩
 rw[hE]
 simp[Instr.box,ME]
theorem zmB{P:Program}(hs:df W0 okIn B us tm ob nt E a){nm:Nat}(cO:¬ us nm){T:TypeId}{l:List AV}(h:lR P T=some l):
  ∃ E' z,(Instr.alloc T true (.tuple #[])).run P E.w=.ok z E'.w/\cK W0 okIn B us (eC us nm) E E' [(nm,some (.cells l))]/\VR E' (.ptr nm 0) z:=by
 unfold lR at h
 split at h
 ·rename_i i hi
  split at h
  ·rename_i z hz
   simp only[Option.some.injEq] at h
   subst h
   obtain⟨E',hE,hv,hp⟩:=YB hs.env hs.lo cO T (Au E z.cells.toList) (Q3 us _)
   refine⟨E',_,?_,hv,hp⟩
   rw[hE]
   simp[Instr.alloc,zeroValue,typeInfo,hi,hz,ME]
  ·simp at h
 ·simp at h
theorem MF(he:jm W0 okIn B E)(jF:∀ n,n<16->us n){nm:Nat}(cO:¬ us nm){e:Sh}{xs:List e.T}{cs:Array Value}{T:TypeId}{fr:Nat×Nat}{cap:Nat}{w':World}
  (hw:∀ b,b<E.w.heap.size->w'.heap[b]? =E.w.heap[b]?) (hl:w'.heap[E.w.heap.size]? =some (.cells cs T fr)) (cq:E.w.heap.size<w'.heap.size)
  (sA:w'.os=E.w.os) (yj:w'.tape=E.w.tape) (ny:w'.output=E.w.output) (YD:G1 fr cs.size) (hc:cs.size=cap*e.size) (hle:xs.length<=cap)
  (hx:∀ i (h:i<xs.length),aN E.w E.ok e (xs[i]'h) ((cs.toList.drop (i*e.size)).take e.size)):
  ∃ E',E'.w=w'/\cK W0 okIn B us (eC us nm) E E' [(nm,some (.rows e xs))]/\VR E' (.own nm e) (.slice (some ⟨E.w.heap.size,0,none⟩) xs.length cap):=by
 have cR:∀ b,E.ok b->w'.heap[b]? =E.w.heap[b]? :=fun b hb=>hw b (he.iR b hb).1
 by_cases h0:cap=0
 ·refine⟨⟨w',gT E.mu nm (some ⟨some ⟨E.w.heap.size,0,none⟩,cap,false,xs.length⟩),E.ok⟩,rfl,?_,?_⟩
  ·refine cK.new he jF cO hw (Nat.le_of_lt cq) sA yj ny (fun h=>by simp at h) ?_ (by simp[AO.nm])
   exact⟨_,jV _ _ _,rfl,.inl ⟨h0,by omega,rfl⟩⟩
  ·simp only[VR,eL,true_and]
   intro L hL
   simp only[jV,Option.some.injEq] at hL
   subst hL
   rfl
 ·refine⟨⟨w',gT E.mu nm (some ⟨some ⟨E.w.heap.size,0,none⟩,cap,true,xs.length⟩),E.ok⟩,rfl,?_,?_⟩
  ·refine cK.new he jF cO hw (Nat.le_of_lt cq) sA yj ny (fun _=>⟨_,rfl,Nat.le_refl _,cq⟩) ?_ (by simp[AO.nm])
   exact⟨_,jV _ _ _,rfl,.inr ⟨E.w.heap.size,cs,T,fr,rfl,rfl,hl,hc,hle,YD,fun i hi=>aN.mono cR (fun b h=>h) _ _ _ (hx i hi)⟩⟩
  ·simp only[VR,eL,true_and]
   intro L hL
   simp only[jV,Option.some.injEq] at hL
   subst hL
   rfl
theorem YE(he:jm W0 okIn B E)(jF:∀ n,n<16->us n){nm:Nat}(cO:¬ us nm){e:Sh}{x:e.T}{vs:List Value}(T:TypeId)(hl:vs.length=e.size)(hx:aN E.w E.ok e x vs):
  ∃ E',E'.w={ E.w with heap:=E.w.heap.push (.cells vs.toArray T) }/\cK W0 okIn B us (eC us nm) E E' [(nm,some (.rows e [x]))]/\VR E' (.epr nm e 0 0) (.pointer (some ⟨E.w.heap.size,0,none⟩)):=by
 have eJ:=AE E.w (.cells vs.toArray T)
 have cR:∀ b,E.ok b->({ E.w with heap:=E.w.heap.push (.cells vs.toArray T) }:World).heap[b]? =E.w.heap[b]? :=fun b hb=>eJ b (he.iR b hb).1
 refine⟨⟨_,gT E.mu nm (some ⟨some ⟨E.w.heap.size,0,none⟩,1,true,1⟩),E.ok⟩,rfl,?_,?_⟩
 ·refine cK.new he jF cO eJ (by simp) rfl rfl rfl (fun _=>⟨_,rfl,Nat.le_refl _,by simp⟩) ?_ (by simp[AO.nm])
  refine⟨_,jV _ _ _,rfl,.inr ⟨E.w.heap.size,vs.toArray,T,(0,0),rfl,rfl,AF _ _,by simp[hl],by simp,fun i _=>by omega,fun i hi=>?_⟩⟩
  have yl:i=0:=by simpa using hi
  subst yl
  simp only[Nat.zero_mul,List.drop_zero,List.getElem_cons_zero,List.toList_toArray]
  rw[<-hl,List.take_length]
  exact aN.mono cR (fun b h=>h) _ _ _ hx
 ·simp only[VR,eL,true_and]
  intro L hL
  simp only[jV,Option.some.injEq] at hL
  subst hL
  exact⟨_,rfl,by simp⟩
theorem zmC:∀ (e:Sh) {l r:List AV} {vs:List Value},jT e l=some r->aR E l vs->∃ v1 v2,vs=v1++v2/\aN E.w E.ok e e.ft v1/\aR E r v2:=by
 intro e
 induction e with
 | int k=>
  intro l r vs h hv
  cases l with
  | nil=>simp[jT] at h
  | cons v l=>
   simp only[jT] at h
   split at h
   ·split at h
    ·rename_i hc
     obtain⟨rfl,rfl⟩:=hc
     simp only[Option.some.injEq] at h
     subst h
     simp only[aR] at hv
     obtain⟨z,q,rfl,h1,h2⟩:=hv
     simp only[VR] at h1
     subst h1
     exact⟨[_],q,rfl,rfl,h2⟩
    ·simp at h
   ·simp at h
 | bool=>
  intro l r vs h hv
  cases l with
  | nil=>simp[jT] at h
  | cons v l=>
   simp only[jT] at h
   split at h
   ·split at h
    ·simp only[Option.some.injEq] at h
     subst h
     simp only[aR] at hv
     obtain⟨z,q,rfl,h1,h2⟩:=hv
     simp only[VR] at h1
     subst h1
     exact⟨[_],q,rfl,rfl,h2⟩
    ·simp at h
   ·simp at h
 | str=>
  intro l r vs h hv
  cases l with
  | nil=>simp[jT] at h
  | cons v l=>
   simp only[jT] at h
   split at h
   ·split at h
    ·simp only[Option.some.injEq] at h
     subst h
     simp only[aR] at hv
     obtain⟨z,q,rfl,h1,h2⟩:=hv
     simp only[VR] at h1
     subst h1
     exact⟨[_],q,rfl,rfl,h2⟩
    ·simp at h
   ·simp at h
 | sl e ih=>
  intro l r vs h hv
  cases l with
  | nil=>simp[jT] at h
  | cons v l=>
   simp only[jT] at h
   split at h
   ·simp only[Option.some.injEq] at h
    subst h
    simp only[aR] at hv
    obtain⟨z,q,rfl,h1,h2⟩:=hv
    simp only[VR] at h1
    subst h1
    exact⟨[_],q,rfl,⟨none,0,rfl,Nat.le_refl _,.inl rfl⟩,h2⟩
   ·simp at h
 | pt e ih=>
  intro l r vs h hv
  cases l<;>simp[jT] at h
 | err=>
  intro l r vs h hv
  cases l with
  | nil=>simp[jT] at h
  | cons v l=>
   simp only[jT] at h
   split at h
   ·simp only[Option.some.injEq] at h
    subst h
    simp only[aR] at hv
    obtain⟨z,q,rfl,h1,h2⟩:=hv
    simp only[VR] at h1
    subst h1
    exact⟨[_],q,rfl,⟨_,rfl,rfl⟩,h2⟩
   ·simp at h
 | unit=>
  intro l r vs h hv
  have:some l=some r:=by cases l<;>simpa only[jT] using h
  simp only[Option.some.injEq] at this
  subst this
  exact⟨[],vs,rfl,rfl,hv⟩
 | pair a b fP fQ=>
  intro l r vs h hv
  have h':(match jT a l with | some r=>jT b r | none=>none)=some r:=by cases l<;>exact h
  split at h'
  ·rename_i r1 h1
   obtain⟨v1,v2,rfl,k1,k2⟩:=fP h1 hv
   obtain⟨v3,v4,rfl,k3,k4⟩:=fQ h' k2
   exact⟨v1++v3,v4,by simp,⟨v1,v3,rfl,k1,k3⟩,k4⟩
  ·simp at h'
 | arr n e ih=>
  intro l r vs h hv
  have key:∀ (n:Nat) (l r:List AV) (vs:List Value),G3 (jT e) n l=some r->aR E l vs->∃ v1 v2,vs=v1++v2/\v1.length=n*e.size/\(∀ i,i<n->aN E.w E.ok e e.ft ((v1.drop (i*e.size)).take e.size))/\aR E r v2:=by
   intro n
   induction n with
   | zero=>
    intro l r vs h hv
    have h':some l=some r:=h
    simp only[Option.some.injEq] at h'
    subst h'
    exact⟨[],vs,rfl,by simp,fun i hi=>by omega,hv⟩
   | succ n ihn=>
    intro l r vs h hv
    have h':(match jT e l with
     | some r=>G3 (jT e) n r
     | none=>none)=some r:=h
    split at h'
    ·rename_i r1 h1
     obtain⟨v1,v2,rfl,k1,k2⟩:=ih h1 hv
     obtain⟨v3,v4,rfl,k3,k4,k5⟩:=ihn _ _ _ h' k2
     have hl:=aN.length e _ _ k1
     refine⟨v1++v3,v4,by simp,by simp[hl,k3,Nat.succ_mul];omega,fun i hi=>?_,k5⟩
     cases i with
     | zero=>
      rw[Nat.zero_mul,List.drop_zero,List.take_append_of_le_length (by omega),<-hl,List.take_length]
      exact k1
     | succ i=>
      have:=k4 i (by omega)
      rwa [show (i+1)*e.size=v1.length+i*e.size by rw[Nat.add_mul,hl];omega,List.drop_length_add_append]
    ·simp at h'
  have h':G3 (jT e) n l=some r:=by cases l<;>exact h
  obtain⟨v1,v2,h1,h2,h3,h4⟩:=key n l r vs h' hv
  refine⟨v1,v2,h1,?_,h4⟩
  simp only[aN,Sh.ft]
  exact⟨by simp,h2,fun i hi=>by simpa using h3 i (by simpa using hi)⟩
end
section
variable {W0:WX} {okIn B us:Nat->Prop} {tm:Nat->Option AV} {ob:Nat->Option AO} {nt:Nat} {E:Env} {a:Act}
theorem Rf{v:AV}{t:kc}{x:Value}(h:Ah v=some t)(hv:VR E v x):eT E.w E.ok t x:=by
 cases v<;>simp only[Ah,reduceCtorEq] at h
 case er t'=>
  simp only[Option.some.injEq] at h
  subst h
  simpa only[VR] using hv
 case nilif=>
  simp only[Option.some.injEq] at h
  subst h
  simpa only[VR,eT] using hv
 case ifc T a=>
  cases a<;>simp only[reduceCtorEq] at h
  case int k n=>
   simp only[Option.some.injEq] at h
   subst h
   simp only[VR] at hv
   obtain⟨y,rfl,rfl⟩:=hv
   simp only[eT]
theorem Rg:∀ (s:Sh) {l r:List AV} {t:s.T} {vs:List Value},iB s l=some (t,r)->aR E l vs->∃ v1 v2,vs=v1++v2/\aN E.w E.ok s t v1/\aR E r v2
 | .int k,[],r,t,vs,h,hv=>by simp[iB] at h
 | .int k,x::l,r,t,vs,h,hv=>by
  simp only[aR] at hv
  obtain⟨v,r',rfl,fI,hr⟩:=hv
  cases x<;>simp only[iB,reduceCtorEq] at h
  split at h
  ·rename_i hk
   subst hk
   simp only[Option.some.injEq,Prod.mk.injEq] at h
   obtain⟨rfl,rfl⟩:=h
   simp only[VR] at fI
   subst fI
   exact⟨[_],r',rfl,by simp[aN],hr⟩
  ·simp at h
 | .bool,[],r,t,vs,h,hv=>by simp[iB] at h
 | .bool,x::l,r,t,vs,h,hv=>by
  simp only[aR] at hv
  obtain⟨v,r',rfl,fI,hr⟩:=hv
  cases x<;>simp only[iB,reduceCtorEq] at h
  simp only[Option.some.injEq,Prod.mk.injEq] at h
  obtain⟨rfl,rfl⟩:=h
  simp only[VR] at fI
  subst fI
  exact⟨[_],r',rfl,by simp[aN],hr⟩
 | .str,[],r,t,vs,h,hv=>by simp[iB] at h
 | .str,x::l,r,t,vs,h,hv=>by
  simp only[aR] at hv
  obtain⟨v,r',rfl,fI,hr⟩:=hv
  cases x<;>simp only[iB,reduceCtorEq] at h
  simp only[Option.some.injEq,Prod.mk.injEq] at h
  obtain⟨rfl,rfl⟩:=h
  simp only[VR] at fI
  subst fI
  exact⟨[_],r',rfl,by simp[aN],hr⟩
 | .unit,l,r,t,vs,h,hv=>by
  have h':l=r:=by
   have:iB Sh.unit l=some ((),l):=by simp[iB]
   rw[this] at h
   exact (Prod.mk.inj (Option.some.inj h)).2
  subst h'
  exact⟨[],vs,rfl,by simp[aN],hv⟩
 | .sl e,[],r,t,vs,h,hv=>by simp[iB] at h
 | .sl e,x::l,r,t,vs,h,hv=>by
  simp only[aR] at hv
  obtain⟨v,r',rfl,fI,hr⟩:=hv
  cases x<;>simp only[iB,reduceCtorEq] at h
  case nilsl=>
   simp only[Option.some.injEq,Prod.mk.injEq] at h
   obtain⟨rfl,rfl⟩:=h
   simp only[VR] at fI
   subst fI
   exact⟨[_],r',rfl,⟨none,0,rfl,Nat.le_refl _,.inl rfl⟩,hr⟩
  case fsl e' xs=>
   split at h
   ·rename_i he
    subst he
    simp only[Option.some.injEq,Prod.mk.injEq] at h
    obtain⟨rfl,rfl⟩:=h
    simp only[VR] at fI
    exact⟨[_],r',rfl,fI,hr⟩
   ·simp at h
 | .arr n e,l,r,t,vs,h,hv=>by cases l<;>simp[iB] at h
 | .pair p q,l,r,t,vs,h,hv=>by
  have h':(match iB p l with
   | some (x,r)=>match iB q r with
    | some (y,r')=>some (((x,y):p.T×q.T),r')
    | none=>none
   | none=>none)=some (t,r):=by
   rw[<-h];cases l<;>simp only[iB]<;>rfl
  split at h'
  ·rename_i x1 r1 h1
   split at h'
   ·rename_i y1 r2 h2
    simp only[Option.some.injEq,Prod.mk.injEq] at h'
    obtain⟨rfl,rfl⟩:=h'
    obtain⟨v1,v2,rfl,g1,g2⟩:=Rg p h1 hv
    obtain⟨v3,v4,rfl,g3,g4⟩:=Rg q h2 g2
    exact⟨v1++v3,v4,by simp,⟨v1,v3,rfl,g1,g3⟩,g4⟩
   ·simp at h'
  ·simp at h'
 | .pt e,[],r,t,vs,h,hv=>by simp[iB] at h
 | .pt e,x::l,r,t,vs,h,hv=>by
  simp only[aR] at hv
  obtain⟨v,r',rfl,fI,hr⟩:=hv
  simp only[iB] at h
  split at h
  ·split at h
   ·split at h
    ·rename_i he
     subst he
     simp only[Option.some.injEq,Prod.mk.injEq] at h
     obtain⟨rfl,rfl⟩:=h
     simp only[VR] at fI
     obtain⟨b,o,cs,rfl,h2,h3,h4,h5⟩:=fI
     exact⟨[_],r',rfl,⟨b,o,cs,by simp,h2,h3,h4,h5⟩,hr⟩
    ·simp at h
   ·simp at h
  ·simp at h
 | .err,[],r,t,vs,h,hv=>by simp[iB] at h
 | .err,x::l,r,t,vs,h,hv=>by
  simp only[aR] at hv
  obtain⟨v,r',rfl,fI,hr⟩:=hv
  simp only[iB] at h
  split at h
  ·rename_i t' ht
   simp only[Option.some.injEq,Prod.mk.injEq] at h
   obtain⟨rfl,rfl⟩:=h
   exact⟨[_],r',rfl,by simp only[aN];exact⟨v,rfl,Rf ht fI⟩,hr⟩
  ·simp at h
theorem DS{s:Sh}{l:List AV}{t:s.T}{vs:List Value}(h:iB s l=some (t,[]))(hv:aR E l vs):aN E.w E.ok s t vs:=by
 obtain⟨v1,v2,rfl,h1,h2⟩:=Rg s h hv
 simp only[aR] at h2
 subst h2
 simpa using h1
theorem DT{e:Sh}{z:List AV}{t:e.T}{vs:List Value}(h:wa e z=some t)(hv:aR E z vs):aN E.w E.ok e t vs:=by
 unfold wa at h
 split at h
 ·split at h
  ·rename_i t' hd
   simp only[Option.some.injEq] at h
   subst h
   exact DS hd hv
  ·simp at h
 ·split at h
  ·rename_i hz
   simp only[Option.some.injEq] at h
   subst h
   obtain⟨v1,v2,rfl,h1,h2⟩:=zmC e hz hv
   simp only[aR] at h2
   subst h2
   simpa using h1
  ·simp at h
theorem YF{s:Sh}{v:AV}{y:s.T}{z:Value}(h:uQ s v=some y)(hv:VR E v z):aN E.w E.ok s y z.cells.toList:=by
 unfold uQ at h
 split at h
 ·split at h
  ·rename_i he
   subst he
   simp only[Option.some.injEq] at h
   subst h
   simp only[VR] at hv
   obtain⟨x,rfl,hx⟩:=hv
   have:(Value.agg x.toArray).cells.toList=x:=by simp[Value.cells]
   rw[this]
   exact hx
  ·simp at h
 ·split at h
  ·rename_i cs gq
   exact DT h (Hr gq hv).1
  ·simp at h
theorem zmE{P:Program}(hs:df W0 okIn B us tm ob nt E a){nm:Nat}(cO:¬ us nm){T:TypeId}{l:List AV}{e:Sh}{x:e.T}(h:lR P T=some l)(hz:wa e l=some x):
  ∃ E' z,(Instr.alloc T true (.tuple #[])).run P E.w=.ok z E'.w/\cK W0 okIn B us (eC us nm) E E' [(nm,some (.rows e [x]))]/\VR E' (.epr nm e 0 0) z:=by
 unfold lR at h
 split at h
 ·rename_i i hi
  split at h
  ·rename_i z lx
   simp only[Option.some.injEq] at h
   subst h
   have hx:=DT (E:=E) hz (Au E z.cells.toList)
   obtain⟨E',hE,hv,hp⟩:=YE hs.env hs.lo cO T (aN.length e _ _ hx) hx
   refine⟨E',_,?_,hv,hp⟩
   rw[hE]
   simp[Instr.alloc,zeroValue,typeInfo,hi,lx,ME]
  ·simp at h
 ·simp at h
theorem YG(off:Nat):∀ (vs:List Value) (k:Nat) (cs:Array Value),off+k+vs.length<=cs.size->
  ((vs.zipIdx k).foldl (fun cs (p:Value×Nat)=>cs.setIfInBounds (off+p.2) p.1) cs).toList=cs.toList.take (off+k)++vs++cs.toList.drop (off+k+vs.length)
 | [],k,cs,h=>by simp
 | v::r,k,cs,h=>by
  simp only[List.length_cons] at h
  have ih:=YG off r (k+1) (cs.setIfInBounds (off+k) v) (by simp;omega)
  simp only[List.zipIdx_cons,List.foldl_cons,ih,Array.toList_setIfInBounds,List.length_cons]
  have e:=list_seg_step cs.toList (off+k) v r (by simp;omega)
  simpa [Nat.add_assoc,Nat.add_comm,Nat.add_left_comm] using e
theorem Rh(off:Nat)(x:Value)(cs:Array Value)(h:off+x.cells.size<=cs.size):
  (x.cells.zipIdx.foldl (fun cs (p:Value×Nat)=>cs.setIfInBounds (off+p.2) p.1) cs).toList=cs.toList.take off++x.cells.toList++cs.toList.drop (off+x.cells.size):=by
 have:=YG off x.cells.toList 0 cs (by simpa using h)
 simp only[Nat.add_zero,Array.length_toList] at this
 rw[<-this]
 congr 1
 rw[<-Array.foldl_toList,Array.toList_zipIdx]
theorem Hs{off:Nat}{vs cells l:List AV}(h:xZ off vs cells=some l):off+vs.length<=cells.length/\l=cells.take off++vs++cells.drop (off+vs.length):=by
 unfold xZ at h
 split at h
 ·rename_i hb
  simp only[lS] at hb
  simp only[Option.some.injEq,iC,yd,ye,lS] at h
  exact⟨Nat.le_of_ble_eq_true hb,by rw[<-h];simp⟩
 ·simp at h
theorem MG{off:Nat}{vs cells l:List AV}(h:xZ off vs cells=some l){xs cs:List Value}(hv:aR E vs xs)(hc:aR E cells cs):
  aR E l (cs.take off++xs++cs.drop (off+xs.length)):=by
 obtain⟨h1,rfl⟩:=Hs h
 rw[hv.length]
 exact ((hc.take off).append hv).append (hc.drop _)
theorem MH{off:Nat}{vs cells l:List AV}(h:xZ off vs cells=some l){p:Nat->Prop}(hv:AV.cI p vs)(hc:AV.cI p cells):AV.cI p l:=by
 obtain⟨h1,rfl⟩:=Hs h
 exact DM (DM (Hi _ hc) hv) (Hj _ hc)
def kJ(E:Env):List (Nat×AV)->List (Nat×Value)->Prop
 | [],vs=>vs=[]
 | (i,a)::l,vs=>∃ v r,vs=(i,v)::r/\VR E a v/\kJ E l r
def ym(p:Nat->Prop):List (Nat×AV)->Prop
 | []=>True
 | (_,a)::l=>a.nm p/\ym p l
theorem MI{α:Type}(hs:df W0 okIn B us tm ob nt E a):∀ {xs:List (Nat×Operand)} {k:List Prop->List (Nat×AV)->Option α} {r:α},sd tm xs k=some r->
  ∃ p vs,k p vs=some r/\((∀ q∈p,q)->kJ E vs (xs.map fun x=>(x.1,a.eval x.2)))/\((∀ q∈p,q)->ym us vs)
 | [],k,r,h=>⟨[],[],h,fun _=>by simp[kJ],fun _=>by simp[ym]⟩
 | (i,x)::xs,k,r,h=>by
  simp only[sd] at h
  obtain⟨p,v,h1,h2,h3⟩:=fR hs h
  obtain⟨q,vs,g1,g2,g3⟩:=MI hs h1
  refine⟨p++q,(i,v)::vs,g1,fun hq=>?_,fun hq=>⟨h3 fun r hr=>hq r (by simp[hr]),g3 fun r hr=>hq r (by simp[hr])⟩⟩
  simp only[List.map_cons,kJ]
  exact⟨_,_,rfl,h2 fun r hr=>hq r (by simp[hr]),g2 fun r hr=>hq r (by simp[hr])⟩
theorem Ri{place placeM:Nat->Option (Nat×Nat)}(hp:∀ i x,place i=some x->placeM i=some x):∀ {l:List (Nat×AV)} {vs:List (Nat×Value)} {cells l':List AV} {cs:Array Value},
  wj place cells l=some l'->kJ E l vs->aR E cells cs.toList->∃ dQ,Instr.fill placeM cs vs=some dQ/\aR E l' dQ.toList
 | [],vs,cells,l',cs,h,hv,hc=>by
  simp only[kJ] at hv
  simp only[wj,Option.some.injEq] at h
  subst hv;subst h
  exact⟨cs,by simp[Instr.fill],hc⟩
 | (i,x)::l,vs,cells,l',cs,h,hv,hc=>by
  simp only[kJ] at hv
  obtain⟨v,r,rfl,fI,hr⟩:=hv
  unfold wj at h
  split at h
  ·rename_i off size cs1 jG wA
   split at h
   ·rename_i QR hb jW
    obtain⟨g1,g2,g3⟩:=Hr wA fI
    have hlen:=g1.length
    have cq:v.cells.size=size:=by
     have:=beq_true hb
     rw[lS] at this
     simp at hlen
     omega
    have hle:=(Hs jW).1
    have dh:=hc.length
    have zmG:=MG jW g1 hc
    have hbound:off+v.cells.size<=cs.size:=by simp at dh hlen;omega
    have heq:=Rh off v cs hbound
    obtain⟨dQ,hf,oZ⟩:=Ri hp (cs:=v.cells.zipIdx.foldl (fun cs (p:Value×Nat)=>cs.setIfInBounds (off+p.2) p.1) cs) h hr (by rw[heq];simpa using zmG)
    refine⟨dQ,?_,oZ⟩
    simp only[Instr.fill,hp _ _ jG]
    rw[if_neg (by simp[cq];omega)]
    exact hf
   ·simp at h
  ·simp at h
theorem YH{place:Nat->Option (Nat×Nat)}{p:Nat->Prop}(dh:∀ (v:AV) (cs:List AV),uN v=some cs->v.nm p->AV.cI p cs):∀ {l:List (Nat×AV)} {cells l':List AV},wj place cells l=some l'->ym p l->AV.cI p cells->AV.cI p l'
 | [],cells,l',h,_,hc=>by simp only[wj,Option.some.injEq] at h;exact h▸hc
 | (i,x)::l,cells,l',h,hn,hc=>by
  unfold wj at h
  split at h
  ·rename_i off size cs1 jG wA
   split at h
   ·rename_i QR hb jW
    simp only[ym] at hn
    exact YH dh h hn.2 (MH jW (dh _ _ wA hn.1) hc)
   ·simp at h
  ·simp at h
theorem zmH{v:AV}{cs:List AV}{p:Nat->Prop}(h:uN v=some cs)(hn:v.nm p):AV.cI p cs:=by
 unfold uN at h
 split at h
 ·split at h
  ·simp only[Option.some.injEq] at h;subst h;exact hn
  ·simp at h
 ·split at h
  ·simp only[Option.some.injEq] at h;subst h;exact⟨hn,trivial⟩
  ·simp at h
end
section
variable {W0:WX} {okIn B us:Nat->Prop} {tm:Nat->Option AV} {ob:Nat->Option AO} {nt:Nat} {E:Env} {a:Act}
theorem Ht{P:Program}{T:TypeId}{l:List AV}(h:lR P T=some l)(w:World):∃ z,(zeroValue T).run P w=.ok z w/\l=tC z.cells.toList:=by
 unfold lR at h
 split at h
 ·rename_i i hi
  split at h
  ·rename_i z hz
   simp only[Option.some.injEq] at h
   exact⟨z,by simp[zeroValue,typeInfo,hi,hz],h.symm⟩
  ·simp at h
 ·simp at h
theorem run_places{P:Program}(w:World):∀ (fs:List Field) (q:List (Nat×Nat)),wk P fs=some q->
  (fs.mapM (fun f:Field=>(do pure (f.offset,<-sizeOf f.type):Sem (Nat×Nat)))).run P w=.ok q w
 | [],q,h=>by simp only[wk,Option.some.injEq] at h;subst h;simp
 | f::r,q,h=>by
  unfold wk at h
  split at h
  ·rename_i s hs
   split at h
   ·rename_i q' wB
    simp only[Option.some.injEq] at h
    subst h
    have ih:=run_places w r q' wB
    simp only[List.mapM_cons,Sem.run_bind,kd w hs,Result.andThen_ok,Sem.run_pure,ih]
   ·simp at h
  ·simp at h
theorem zmI{P:Program}{T:TypeId}{z l':List AV}{pl:Nat->Option (Nat×Nat)}{l:List (Nat×AV)}{vs:List (Nat×Value)}(hz:lR P T=some z)(jG:QT P T=some pl)(h:wj pl z l=some l')
  (hv:kJ E l vs) (hn:ym us l) (w:World):∃ y,(Instr.build T vs.toArray).run P w=.ok y w/\VR E (.agg l') y/\(AV.agg l').nm us:=by
 obtain⟨zv,u6,rfl⟩:=Ht hz w
 have YI:=Au E zv.cells.toList
 have cO:AV.cI us l':=YH (fun v cs=>zmH) h hn (Q3 us _)
 unfold QT at jG
 split at jG
 ·rename_i fs hT
  split at jG
  ·rename_i q hq
   simp only[Option.some.injEq] at jG
   subst jG
   obtain⟨dQ,hf,hr⟩:=Ri (placeM:=fun i=>q.toArray[i]?) (fun i x hx=>by rw[su] at hx;simpa using hx) h hv YI
   refine⟨.agg dQ,?_,⟨dQ.toList,rfl,hr⟩,cO⟩
   have Rj:(fs.mapM (fun f:Field=>(do pure (f.offset,<-sizeOf f.type):Sem (Nat×Nat)))).run P w=.ok q.toArray w:=by
    rw[Array.mapM_eq_mapM_toList,Sem.run_map,run_places w _ _ hq]
    rfl
   simp only[Instr.build,Sem.run_bind,u6,Result.andThen_ok,run_underlying hT,Rj,hf,Sem.run_pure]
  ·simp at jG
 ·rename_i n e hT
  split at jG
  ·rename_i s hs
   simp only[Option.some.injEq] at jG
   subst jG
   obtain⟨dQ,hf,hr⟩:=Ri (placeM:=fun i=>some (i*s,s)) (fun i x hx=>hx) h hv YI
   refine⟨.agg dQ,?_,⟨dQ.toList,rfl,hr⟩,cO⟩
   simp only[Instr.build,Sem.run_bind,u6,Result.andThen_ok,run_underlying hT,kd w hs,hf,Sem.run_pure]
  ·simp at jG
 ·simp at jG
theorem zmJ{l v:List Value}{i s j:Nat}(hv:v.length=s)(hle:i*s+s<=l.length)(hj:j<i):
  ((l.take (i*s)++v++l.drop (i*s+s)).drop (j*s)).take s=(l.drop (j*s)).take s:=by
 have h1:j*s+s<=i*s:=by
  have:=Nat.mul_le_mul_right s (show j+1<=i by omega)
  rw[Nat.add_mul] at this;omega
 rw[List.append_assoc,List.drop_append_of_le_length (by simp;omega),List.take_append_of_le_length (by simp;omega)]
 rw[List.drop_take,List.take_take]
 congr 1
 omega
theorem zmK{l v:List Value}{i s:Nat}(hv:v.length=s)(hle:i*s+s<=l.length):
  ((l.take (i*s)++v++l.drop (i*s+s)).drop (i*s)).take s=v:=by
 have h1:(l.take (i*s)).length=i*s:=by simp;omega
 rw[List.append_assoc,List.drop_append_of_le_length (by omega)]
 have h2:(l.take (i*s)).drop (i*s)=[]:=List.drop_eq_nil_of_le (by omega)
 rw[h2,List.nil_append,List.take_append_of_le_length (by omega)]
 rw[<-hv,List.take_length]
theorem YJ{e:Sh}:∀ {l:List (Nat×AV)} {vs:List (Nat×Value)} {i:Nat} {ts:List e.T} {cs:Array Value},sc e i l=some ts->kJ E l vs->
  (i+l.length)*e.size<=cs.size->∃ dQ,Instr.fill (fun i=>some (i*e.size,e.size)) cs vs=some dQ/\dQ.size=cs.size/\
   (∀ j,j<i->(dQ.toList.drop (j*e.size)).take e.size=(cs.toList.drop (j*e.size)).take e.size)/\
   ts.length=l.length/\∀ j (h:j<ts.length),aN E.w E.ok e (ts[j]'h) ((dQ.toList.drop ((i+j)*e.size)).take e.size)
 | [],vs,i,ts,cs,h,hv,hle=>by
  simp only[kJ] at hv
  simp only[sc,Option.some.injEq] at h
  subst hv;subst h
  exact⟨cs,by simp[Instr.fill],rfl,fun _ _=>rfl,rfl,fun j hj=>by simp at hj⟩
 | (k,x)::l,vs,i,ts,cs,h,hv,hle=>by
  simp only[kJ] at hv
  obtain⟨v,r,rfl,fI,hr⟩:=hv
  unfold sc at h
  split at h
  ·rename_i t hb wA
   have DU:=beq_true hb
   subst DU
   ·split at h
    ·rename_i ts' Rk
     simp only[Option.some.injEq] at h
     subst h
     have hl:=YF wA fI
     have cq:v.cells.size=e.size:=by have:=aN.length e _ _ hl;simpa using this
     simp only[List.length_cons] at hle
     have Hu:i*e.size+e.size<=cs.size:=by
      have:=Nat.mul_le_mul_right e.size (show i+1<=i+(l.length+1) by omega)
      rw[Nat.add_mul i 1] at this;omega
     have heq:=Rh (i*e.size) v cs (by rw[cq];exact Hu)
     rw[cq] at heq
     have o7:(v.cells.zipIdx.foldl (fun cs (p:Value×Nat)=>cs.setIfInBounds (i*e.size+p.2) p.1) cs).size=cs.size:=by
      rw[<-Array.length_toList,heq]
      simp[cq]
      omega
     obtain⟨dQ,f1,f2,f3,f4,f5⟩:=YJ (i:=i+1) (cs:=v.cells.zipIdx.foldl (fun cs (p:Value×Nat)=>cs.setIfInBounds (i*e.size+p.2) p.1) cs) Rk hr
      (by rw[o7,show i+1+l.length=i+(l.length+1) by omega];exact hle)
     have kL:v.cells.toList.length=e.size:=by simpa using cq
     refine⟨dQ,?_,f2.trans o7,?_,by simp[f4],?_⟩
     ·simp only[Instr.fill]
      rw[if_neg (by simp[cq];omega)]
      exact f1
     ·intro j hj
      rw[f3 j (by omega),heq]
      exact zmJ kL (by simpa using Hu) hj
     ·intro j hj
      cases j with
      | zero=>
       simp only[Nat.add_zero,List.getElem_cons_zero]
       rw[f3 i (by omega),heq,zmK kL (by simpa using Hu)]
       exact hl
      | succ j=>
       simp only[List.getElem_cons_succ]
       have:=f5 j (by simpa using hj)
       rwa [show i+1+j=i+(j+1) by omega] at this
    ·simp at h
  ·simp at h
theorem YK{P:Program}(hs:df W0 okIn B us tm ob nt E a){nm:Nat}(cO:¬ us nm){T el:TypeId}{e:Sh}{n:Nat}{l:List (Nat×AV)}{vs:List (Nat×Value)}{ts:List e.T}{z:List AV}
  (hT:P.underlying T=some (.slice el)) (he:oU P el=some e) (hz:lR P el=some z) (hn:l.length=n) (hc:n*e.size<=16777216) (h:sc e 0 l=some ts) (hv:kJ E l vs):
  ∃ E' y,(Instr.buildSlice T n vs.toArray).run P E.w=.ok y E'.w/\cK W0 okIn B us (eC us nm) E E' [(nm,some (.rows e ts))]/\VR E' (.own nm e) y:=by
 obtain⟨zv,u6,_⟩:=Ht hz E.w
 have cq:=kd E.w (yh he).1
 obtain⟨zero,hzero⟩:∃ zero:Array Value,zero=if n*e.size=0 then #[] else zv.cells:=⟨_,rfl⟩
 obtain⟨dQ,f1,f2,f3,f4,f5⟩:=YJ (cs:=(Array.range (n*e.size)).map (zero[· % zero.size]!)) h hv (by simp[hn])
 have gq:dQ.size=n*e.size:=by simp[f2]
 obtain⟨E',hE,iE,wC⟩:=MF hs.env hs.lo cO (xs:=ts) (T:=el) (fr:=(0,0)) (cap:=n) (AE E.w (.cells dQ el)) (AF _ _) (by simp) rfl rfl rfl (fun i _=>by omega) gq (by omega)
  (fun j hj=>by simpa using f5 j hj)
 refine⟨E',_,?_,iE,by rw[f4,hn] at wC;exact wC⟩
 rw[hE]
 simp only[Instr.buildSlice,Sem.run_bind,run_underlying hT,Result.andThen_ok,cq]
 rw[if_neg (by omega)]
 by_cases h0:n*e.size=0
 ·rw[if_pos h0] at hzero
  subst hzero
  rw[if_pos h0]
  simp only[Sem.run_bind,Sem.run_pure,Result.andThen_ok,f1,newRow,run_newObj]
 ·rw[if_neg h0] at hzero
  subst hzero
  rw[if_neg h0]
  simp only[Sem.run_bind,u6,Sem.run_pure,Result.andThen_ok,f1,newRow,run_newObj]
end
end Go.Tr
