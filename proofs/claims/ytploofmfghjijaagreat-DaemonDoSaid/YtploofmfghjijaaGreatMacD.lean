/- The functions that these laws reach, as Lean functions: printed by a program of this session's. Conditions: none. -/
import Derived.Test.YtploofmfghjijaaGreatBE
import Derived.Below
import Derived.Sort.Grow
import Derived.Deep.Draws
import Derived.Lib.LaidTab
import Derived.LaidLaws
import Derived.Deep.DeepHandedRow
import Derived.Lib.PrintData
import Derived.Lib.QuoteLoop
import Derived.Lib.AtoiAll
import Derived.Lib.LaidPrint
import Derived.Shelf.Unicode.DecodeSlow
import Derived.Test.YtploofmfghjijaaGreatBD
import Derived.WalkKit
import Derived.Laws.IdiomCopy
namespace Go.Tr
open Go Go.RowKit
set_option linter.unusedVariables false
set_option linter.unusedSimpArgs false
def S0(P:Program)(name:String)(p:Array Value->Prop)(w:World)(fz:Nat->Prop):Prop:=
 ∃ g c,P.globalNamed name=some g/\fz g/\w.var? P name=some c/\p c
theorem S0.mono{P:Program}{name:String}{p:Array Value->Prop}{w w':World}{fz tG:Nat->Prop}(h:∀ b,fz b->tG b/\w'.heap[b]? =w.heap[b]?)(hv:S0 P name p w fz):S0 P name p w' tG:=by
 obtain⟨g,c,h1,h2,h3,h4⟩:=hv
 refine⟨g,c,h1,(h g h2).1,?_,h4⟩
 unfold World.var? at h3 ⊢
 rw[h1] at h3 ⊢
 simp only[Option.bind_some] at h3 ⊢
 rw[(h g h2).2];exact h3
def IE(g:Nat)(p:Value->Prop)(w:World)(fz:Nat->Prop):Prop:=∃ v,fz g/\w.cell? ⟨g,0,none⟩=some v/\p v
theorem IE.mono{g:Nat}{p:Value->Prop}{w w':World}{fz tG:Nat->Prop}(h:∀ b,fz b->tG b/\w'.heap[b]? =w.heap[b]?)(hv:IE g p w fz):IE g p w' tG:=by
 obtain⟨v,h1,h2,h3⟩:=hv
 refine⟨v,(h g h1).1,?_,h3⟩
 unfold World.cell? at h2 ⊢
 simp only at h2 ⊢
 rw[(h g h1).2];exact h2
theorem IE.of{g:Nat}{p:Value->Prop}{w:World}{v:Value}(h:w.cell? ⟨g,0,none⟩=some v)(hp:p v):IE g p w (fun b=>b<w.heap.size):=by
 refine⟨v,?_,h,hp⟩
 unfold World.cell? at h
 simp only at h
 cases hb:w.heap[g]? with
 | none=>rw[hb] at h;simp at h
 | some o=>exact (Array.getElem?_eq_some_iff.1 hb).1
theorem FnX.none{P:Program}[Tabs P]{F:FuncId}{D:FD}(hc:callable P F):FnX P F D (fun _=>none):=⟨hc,fun x y h=>by simp at h⟩
end Go.Tr
namespace Go.Tr
open Go Go.RowKit
set_option linter.unusedVariables false
set_option linter.unusedSimpArgs false
def kc.sz:kc->Nat
 | .at' _ _ e=>kc.sz e+1
 | .xW _ _ e=>kc.sz e+1
 | _=>0
theorem eT.iface{w:World}{ok:Nat->Prop}{t:kc}{v:Value}(hn:t≠.nil)(h:eT w ok t v):∃ ty x,v=.iface ty x:=by
 cases t with
 | nil=>exact absurd rfl hn
 | num ty k n=>exact⟨_,_,h⟩
 | any ty=>obtain⟨x,h⟩:=h;exact⟨_,_,h⟩
 | at' ty n e=>obtain⟨b,x,h,_⟩:=h;exact⟨_,_,h⟩
 | xW ty s e=>obtain⟨b,x,h,_⟩:=h;exact⟨_,_,h⟩
end Go.Tr
namespace Go.Tr
open Go Go.RowKit
set_option linter.unusedVariables false
set_option linter.unusedSimpArgs false
def KG(p:World->Prop)(w:World)(fz:Nat->Prop):Prop:=∃ gs:List Nat,(∀ g∈gs,fz g)/\∀ w',(∀ g∈gs,w'.heap[g]? =w.heap[g]?)->p w'
theorem KG.mono{p:World->Prop}{w w':World}{fz tG:Nat->Prop}(h:∀ b,fz b->tG b/\w'.heap[b]? =w.heap[b]?)(hv:KG p w fz):KG p w' tG:=by
 obtain⟨gs,h1,h2⟩:=hv
 exact⟨gs,fun g hg=>(h g (h1 g hg)).1,fun w'' hw=>h2 w'' fun g hg=>(hw g hg).trans (h g (h1 g hg)).2⟩
theorem KG.out{p:World->Prop}{w:World}{fz:Nat->Prop}(h:KG p w fz):p w:=by
 obtain⟨gs,h1,h2⟩:=h
 exact h2 w fun _ _=>rfl
theorem KG.and{p q:World->Prop}{w:World}{fz:Nat->Prop}(h:KG p w fz)(k:KG q w fz):KG (fun w=>p w/\q w) w fz:=by
 obtain⟨gs,h1,h2⟩:=h
 obtain⟨gs',k1,k2⟩:=k
 refine⟨gs++gs',fun g hg=>(List.mem_append.1 hg).elim (h1 g) (k1 g),fun w' hw=>⟨h2 w' fun g hg=>hw g (List.mem_append_left _ hg),k2 w' fun g hg=>hw g (List.mem_append_right _ hg)⟩⟩
theorem S1{w:World}{a:Addr}{v:Value}(h:w.cell? a=some v):a.block<w.heap.size:=by
 rcases Nat.lt_or_ge a.block w.heap.size with h1 | h1
 ·exact h1
 ·simp[World.cell?,Array.getElem?_eq_none h1] at h
theorem S2{w w':World}{a:Addr}(h:w'.heap[a.block]? =w.heap[a.block]?):w'.cell? a=w.cell? a:=World.cell?_of_block (w:=w) h
theorem KG.cell{w:World}{a:Addr}{v:Value}{p:Value->Prop}(h:w.cell? a=some v)(hp:p v):KG (fun w=>∃ v,w.cell? a=some v/\p v) w (fun b=>b<w.heap.size):=
 ⟨[a.block],fun g hg=>by simp at hg;subst hg;exact S1 h,fun w' hw=>⟨v,(S2 (hw a.block (by simp))).trans h,hp⟩⟩
theorem KG.slice{g:Nat}{k:IntKind}{t:List Nat}{w:World}(h:Lib.TabSlice g k t w)(ht:0<t.length):KG (Lib.TabSlice g k t) w (fun b=>b<w.heap.size):=by
 obtain⟨R,o,c,h1,h2⟩:=h
 refine⟨[g,R],fun b hb=>?_,fun w' hw=>⟨R,o,c,(S2 (hw g (by simp))).trans h1,fun j hj=>(S2 (hw R (by simp))).trans (h2 j hj)⟩⟩
 simp only[List.mem_cons,List.not_mem_nil,or_false] at hb
 rcases hb with rfl | rfl
 ·exact S1 h1
 ·exact S1 (h2 0 ht)
end Go.Tr
namespace Go.Tr
open Go
def layB(n:Int)(len:Nat):List Int:=(List.range len).map fun j=>IntKind.u8.wrap (n.fdiv (2 ^ (8*(len-1-j))))
set_option linter.unusedVariables false
set_option linter.unusedSimpArgs false
noncomputable def EH(k n:Nat)(args:List AV)(ob:Nat->Option AO)(nm:Nat):Option (List Prop×AV×cx):=
 match args with
 | [.ptr m off]=>match Nat.beq off 0,ob m with
  | true,some (.cells l)=>match Nat.ble (k+n) (iP l)&&xY l with
   | true=>some ([],.agg (qF n (qG k l)),[])
   | false=>none
  | _,_=>none
 | _=>none
noncomputable def H_get(F:FuncId)(k n:Nat):vv:=⟨F,EH k n⟩
noncomputable def EI(args:List AV)(ob:Nat->Option AO)(nm:Nat):Option (List Prop×AV×cx):=
 match args with
 | [.wsl r e i at' m s off len,.int k n]=>match s,k with
  | .int .u8,.i64=>match ob r with
   | some (.rows e' xs)=>if e'=e then match rX (.arr m (.int .u8)) e' (xs.getD i e'.ft) at' with
     | some t=>match rY (.arr m (.int .u8)) (bH off len (layB n len) t) e' (xs.getD i e'.ft) at' with
      | some z=>some ([i<xs.length/\len<=8],.fG [],[(r,some (.rows e' (xs.set i z)))])
      | none=>none
     | none=>none
    else none
   | _=>none
  | _,_=>none
 | _=>none
noncomputable def H_lay(F:FuncId):vv:=⟨F,EI⟩
theorem layB_len(n:Int)(len:Nat):(layB n len).length=len:=by simp[layB]
def zpY(P:Program)(F:FuncId):Prop:=∀ (b o len cap:Nat) (n:Int) (w:World),len<=8->len<=cap->(∀ j,j<len->(w.cell? ⟨b,o+j,none⟩).isSome=true/\w.frozen? ⟨b,o+j,none⟩=false)->
  Calls P F #[.slice (some ⟨b,o,none⟩) len cap,.int .i64 n] w fun e w'=>e=.returned (.tuple #[])/\w'=w.setCells b o ((layB n len).map (Value.int .u8))
theorem H_lay_ok{P:Program}[Tabs P]{F:FuncId}(hc:callable P F)(hw:zpY P F):(H_lay F).OK P:=by
 refine⟨fun args ob nm q v u h hq=>⟨hc,fun W0 okIn B us E vs hT dJ jF wK kg vr eZ hn=>?_⟩,fun args ob ob' nm h=>?_⟩
 ·have h':EI args ob nm=some (q,v,u):=h
  unfold EI at h'
  split at h'
  case h_2=>simp at h'
  rename_i r e i at' m s off len k n
  split at h'
  case h_2=>simp at h'
  split at h'
  case h_2=>simp at h'
  rename_i e' xs b8
  split at h'
  case isFalse=>simp at h'
  rename_i he
  subst he
  split at h'
  case h_2=>simp at h'
  rename_i t ht
  split at h'
  case h_2=>simp at h'
  rename_i zz va
  simp only[Option.some.injEq,Prod.mk.injEq] at h'
  obtain⟨rfl,rfl,rfl⟩:=h'
  obtain⟨hi,IF⟩:i<xs.length/\len<=8:=hq _ (List.Mem.head _)
  simp only[aR] at eZ
  obtain⟨z1,r1,rfl,kf,z2,r2,rfl,o8,rfl⟩:=eZ
  simp only[VR] at o8
  subst o8
  obtain⟨hO,_,yt⟩:=kg r _ b8
  obtain⟨L,k1,kl,k2⟩:=hO
  rcases k2 with k2 | ⟨b,cells,T0,fr,k3,k4,k5,k6,k7,k8,k9⟩
  ·omega
  simp only[VR] at kf
  obtain⟨b',o,cL,rfl,x1,x2⟩:=kf.2 L k1
  rw[k3] at cL
  simp only[Option.some.injEq,Addr.mk.injEq,and_true] at cL
  subst cL
  rw[getD_eq hi] at ht va
  have gL:=layB_len n len
  have hm:min len (layB n len).length=len:=by rw[gL];exact Nat.min_self _
  obtain⟨dQ,hst,iE⟩:=zm4 (P:=P) (nm:=nm) (se:=.int .u8) (ys:=layB n len) (news:=(layB n len).map (Value.int .u8)) (mm:=len) dJ yt k1 kl k3 k4 k5 k6 k7 k8 k9 hi ht va x1 x2 hm (by simp[gL,Sh.size]) (fun v hv=>by
   obtain⟨y,_,rfl⟩:=List.mem_map.1 hv;trivial) (fun j hj=>by
   have ly:j<(layB n len).length:=by rw[gL];exact hj
   simp only[Sh.size,Nat.mul_one,aN]
   rw[List.drop_eq_getElem_cons (by simpa using ly),List.take_succ_cons,List.take_zero,List.getElem_map])
  obtain⟨p1,p2⟩:=Hn e' ht (k9 i hi)
  simp only[Sh.size,Nat.mul_one] at p1 x2
  have o7:i*e'.size+e'.size<=cells.size:=by
   have:=Nat.mul_le_mul_right e'.size (show i+1<=L.cap by omega)
   rw[Nat.add_mul i 1] at this;omega
  have u7:((cells.toList.drop (i*e'.size)).take e'.size).length=e'.size:=by simp;omega
  rw[u7] at p1
  have hcell:∀ j,j<len->(E.w.cell? ⟨b,o+j,none⟩).isSome=true/\E.w.frozen? ⟨b,o+j,none⟩=false:=by
   intro j hj
   have ho:=x2 (by omega)
   have hlt:o+j<cells.size:=by omega
   refine⟨by simp[World.cell?,k5,hlt],?_⟩
   have:=k8 (o+j) hlt
   simp only[World.frozen?,k5]
   by_cases h:fr.1<=o+j
   ·have h2:¬ (o+j<fr.2):=fun hh=>this ⟨h,hh⟩
    simp[h2]
   ·simp[h]
  have dE:=run_storeCells_cells (P:=P) b o ((layB n len).map (Value.int .u8)) 0 E.w (fun j hj=>by
   have:=(hcell j (by simpa [gL] using hj)).1
   simpa using this) (fun j hj=>by
   have:=(hcell j (by simpa [gL] using hj)).2
   simpa using this) (fun v hv=>by obtain⟨y,_,rfl⟩:=List.mem_map.1 hv;rfl)
  rw[hst] at dE
  simp only[Nat.add_zero,Result.ok.injEq,true_and] at dE
  refine Calls.mono (hw b o len (m-off) n E.w IF (by omega) hcell) fun en w' hr=>?_
  obtain⟨rfl,rfl⟩:=hr
  refine⟨⟨E.w.setRow b dQ,E.mu,E.ok⟩,.tuple #[],dE,rfl,iE,?_,by simp[AV.nm,AV.cI]⟩
  simp only[VR]
  exact⟨[],rfl,by simp[aR]⟩
 ·show EI args ob nm=EI args ob' nm
  unfold EI
  split
  ·rename_i r e i at' m s off len k n
   have:ob r=ob' r:=h r (by rw[Ee];simp[AV.dK,AV.has,eV])
   rw[this]
  ·rfl
def GetW(P:Program)(F:FuncId)(k n:Nat):Prop:=∀ (b:Nat) (cs:Array Value) (T:TypeId) (fr:Nat×Nat) (w:World),w.heap[b]? =some (.cells cs T fr)->k+n<=cs.size->(∀ v∈cs.toList,eL v)->
  Calls P F #[.pointer (some ⟨b,0,none⟩)] w fun e w'=>e=.returned (.agg ((cs.toList.drop k).take n).toArray)/\(∀ c,c<w.heap.size->w'.heap[c]? =w.heap[c]?)/\w.heap.size<=w'.heap.size/\w'.os=w.os/\w'.tape=w.tape/\w'.output=w.output
theorem H_get_ok{P:Program}[Tabs P]{F:FuncId}{k n:Nat}(hc:callable P F)(hw:GetW P F k n):(H_get F k n).OK P:=by
 refine⟨fun args ob nm q v u h hq=>⟨hc,fun W0 okIn B us E vs hT dJ jF wK kg vr eZ hn=>?_⟩,fun args ob ob' nm h=>?_⟩
 ·have h':EH k n args ob nm=some (q,v,u):=h
  unfold EH at h'
  split at h'
  case h_2=>simp at h'
  rename_i m off
  split at h'
  case h_2=>simp at h'
  rename_i l hb b8
  split at h'
  case h_2=>simp at h'
  rename_i NX
  simp only[Bool.and_eq_true] at NX
  obtain⟨NX,wz⟩:=NX
  simp only[Option.some.injEq,Prod.mk.injEq] at h'
  obtain⟨rfl,rfl,rfl⟩:=h'
  simp only[aR] at eZ
  obtain⟨z1,r1,rfl,kf,rfl⟩:=eZ
  obtain⟨hO,cO,yt⟩:=kg m _ b8
  obtain⟨b,cs,T,fr,g1,g2,g3,g4⟩:=hO
  simp only[VR] at kf
  obtain⟨b',cL,rfl⟩:=kf.2 _ g1
  simp only[Option.some.injEq,Addr.mk.injEq,and_true] at cL
  subst cL
  have HK:=beq_true hb
  subst HK
  have hle:=Nat.le_of_ble_eq_true NX
  rw[lS] at hle
  have dh:=g4.length
  refine Calls.mono (hw b cs T fr E.w g2 (by simp at dh;omega) (Hq wz g4)) fun en w' hr=>?_
  obtain⟨rfl,h1,h2,h3,h4,h5⟩:=hr
  have zpZ:u0 us E ⟨w',E.mu,E.ok⟩:=⟨fun c hc=>h1 c (dJ.iR c hc).1,fun c hc=>hc,fun i _ L' c9=>⟨L',c9,rfl,rfl,rfl⟩⟩
  refine⟨⟨w',E.mu,E.ok⟩,_,rfl,rfl,?_,?_,?_⟩
  ·refine⟨fun n h=>.inl h,fun _ _=>rfl,fun i _ L' c9=>⟨L',c9,rfl,rfl,rfl⟩,fun i h=>by simp[aQ] at h,fun i o h=>by simp[aQ] at h,fun c hc _=>h1 c hc,fun c hc=>hc,?_⟩
   refine⟨dJ.inj,fun i c hic=>?_,fun c hc=>?_,dJ.sr,fun c hc hB=>?_,Nat.le_trans dJ.sz h2,dJ.new,h3.trans dJ.os,h4.trans dJ.tape,h5.trans dJ.output,dJ.li⟩
   ·obtain⟨a1,a2,a3⟩:=dJ.own i c hic
    exact⟨a1,Nat.lt_of_lt_of_le a2 h2,a3⟩
   ·obtain⟨a1,a2⟩:=dJ.iR c hc
    exact⟨Nat.lt_of_lt_of_le a1 h2,a2⟩
   ·show w'.heap[c]? =_
    rw[h1 c (Nat.lt_of_lt_of_le hc dJ.sz)]
    exact dJ.fr c hc hB
  ·simp only[VR]
   refine⟨_,rfl,?_⟩
   rw[yd,ye]
   exact aR.mono zpZ _ _ (Hi _ (Hj _ cO)) ((g4.drop k).take n)
  ·rw[yd,ye]
   exact Hi _ (Hj _ (AV.u3 (fun i hi=>.inl hi) _ cO))
 ·show EH k n args ob nm=EH k n args ob' nm
  unfold EH
  split
  ·rename_i m off
   have:ob m=ob' m:=h m (by rw[Ee];simp[AV.dK,AV.has,eV])
   rw[this]
  ·rfl
end Go.Tr
namespace Go.Tr
open Go
noncomputable section
set_option linter.unusedVariables false
set_option maxRecDepth 100000
def EJ(bits:Int):Option (Int×Unit):=
 ab (IntKind.i64.wrap ((32:Int)-bits)) fun v0=>
 aj ((0:Int)<=v0)<|
 ab (we IntKind.u32 (4294967295:Int) v0) fun v1=>
 some (v1,())
def vy(b:Int×Int):Option (Bool×Unit):=
 aj (decide (b.2>=(0:Int))=true->decide (b.2>=(0:Int))=true)<|
 aj (decide (b.2>=(0:Int))=true->decide (b.2>=(0:Int))=true)<|
 aj (decide (b.2>=(0:Int))=true->decide (b.2>=(0:Int))=true)<|
 ab (decide (b.2>=(0:Int))&&decide (b.2<=(32:Int))) fun v0=>
 ck v0<|
 ck v0<|
 ck v0<|
 bU v0 (EJ b.2) ((0:Int),()) fun y1=>
 ck v0<|
 ck v0<|
 ab (IntKind.u32.wrap (Mm IntKind.u32 b.1 y1.1)) fun v2=>
 ck v0<|
 ab (v2==(0:Int)) fun v3=>
 ck v0<|
 ab (v0&&v3) fun v4=>
 some (v4,())
def vz(b:Int×Int):Option (Int×Unit):=
 ao (vy b) fun y0=>
 ay (!y0.1) (
 some ((0:Int),())) (
 ab (IntKind.i64.wrap ((32:Int)-b.2)) fun v1=>
 aj ((0:Int)<=v1)<|
 ab (we IntKind.i64 (1:Int) v1) fun v2=>
 some (v2,()))
def IG(a' bits:Int):Option ((Int×Int)×Unit):=
 aj (¬(13:Int)=(0:Int))<|
 ab (bits.tmod (13:Int)) fun v0=>
 ab (IntKind.i64.wrap v0) fun v1=>
 ab (IntKind.i64.wrap ((20:Int)+v1)) fun v2=>
 ab (IntKind.i64.wrap ((32:Int)-v2)) fun v3=>
 aj ((0:Int)<=v3)<|
 ab (rZ IntKind.u32 a' v3) fun v4=>
 ab (IntKind.i64.wrap ((32:Int)-v2)) fun v5=>
 aj ((0:Int)<=v5)<|
 ab (we IntKind.u32 v4 v5) fun v6=>
 some ((v6,v2),())
def IH(b:Int×Int)(a':Int):Option (Bool×Unit):=
 ao (vy b) fun y0=>
 ck y0.1<|
 ck y0.1<|
 bU y0.1 (EJ b.2) ((0:Int),()) fun y1=>
 ck y0.1<|
 ck y0.1<|
 ab (IntKind.u32.wrap (lr IntKind.u32 a' y1.1)) fun v2=>
 ck y0.1<|
 ck y0.1<|
 ck y0.1<|
 ab (v2==b.1) fun v3=>
 ck y0.1<|
 ab (y0.1&&v3) fun v4=>
 some (v4,())
def EK(S3 out:Int×Int):Option (Bool×Unit):=
 ao (vy S3) fun y0=>
 ck y0.1<|
 bU y0.1 (vy out) (false,()) fun y1=>
 ck y0.1<|
 ab (y0.1&&y1.1) fun v2=>
 ck v2<|
 ck v2<|
 ck v2<|
 ck v2<|
 ck v2<|
 ab (v2&&decide (S3.2>=out.2)) fun v3=>
 ck v3<|
 ck v3<|
 ck v3<|
 bU v3 (IH out S3.1) (false,()) fun y4=>
 ck v3<|
 ab (v3&&y4.1) fun v5=>
 some (v5,())
def EL(x y:Int×Int):Option (Bool×Unit):=
 ao (EK x y) fun y0=>
 ck (!y0.1)<|
 ck (!y0.1)<|
 bU (!y0.1) (EK y x) (false,()) fun y1=>
 cn y0.1<|
 ab (y0.1||y1.1) fun v2=>
 some (v2,())
def II(b:Int×Int)(k:Int):Option (Int×Bool×Unit):=
 ck (!decide (k<(0:Int)))<|
 bU (!decide (k<(0:Int))) (vz b) ((0:Int),()) fun y0=>
 ck (!decide (k<(0:Int)))<|
 ck (!decide (k<(0:Int)))<|
 aj (decide (k<(0:Int))=false->(!decide (k<(0:Int)))=true)<|
 ab (decide (k<(0:Int))||decide (k>=y0.1)) fun v1=>
 ay v1 (
 some ((0:Int),false,())) (
 ab (IntKind.u32.wrap k) fun v2=>
 ab (IntKind.u32.wrap (b.1+v2)) fun v3=>
 some (v3,true,()))
end
end Go.Tr
namespace Go.Tr
open Go
noncomputable section
set_option linter.unusedVariables false
set_option maxRecDepth 100000
def IJ(m:Int×Int×Int×Int×Int×Int):Option (Bool×Unit):=
 aj ((0:Int)<=(0:Int)/\(0:Int)<(6:Int))<|
 ab (IntKind.u8.wrap (lr IntKind.u8 m.1 (1:Int))) fun v0=>
 ab (v0==(1:Int)) fun v1=>
 some (v1,())
def yO(m:Int×Int×Int×Int×Int×Int):Option (Bool×Unit):=
 ab (m.1==(0:Int)&&(m.2.1==(0:Int)&&(m.2.2.1==(0:Int)&&(m.2.2.2.1==(0:Int)&&(m.2.2.2.2.1==(0:Int)&&m.2.2.2.2.2==(0:Int)))))) fun v0=>
 some (v0,())
end
end Go.Tr
