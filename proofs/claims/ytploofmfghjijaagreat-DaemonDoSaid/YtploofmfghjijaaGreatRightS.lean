/- Rows of a state: when they are right. Rows of a state: when they are right: prefixes that are swept, sightings, cases. Rows of a state: sightings; a state that is right. Conditions: none but those that each theorem states. -/
import Derived.Test.YtploofmfghjijaaGreatCodecS
import Derived.Test.YtploofmfghjijaaGreatCodec2D
namespace Go.Tr
open Go
set_option linter.unusedVariables false
set_option linter.unusedSimpArgs false
set_option maxRecDepth 100000
set_option maxHeartbeats 4000000
theorem fi{α:Type}(z:α)(o:Option α):Option.rec (motive:=fun _=>α) z (fun v=>v) o=o.getD z:=by cases o<;>rfl
theorem fT{α:Type}(l:List α)(i:Nat)(z:α):(l[(i:Int).toNat]?).getD z=l.getD i z:=by simp[List.getD_eq_getElem?_getD]
theorem PU{α:Type}(l:List α)(i:Nat)(h:0<i)(z:α):(l[((i:Int)-1).toNat]?).getD z=l.getD (i-1) z:=by
 rw[show ((i:Int)-1).toNat=i-1 from by omega];simp[List.getD_eq_getElem?_getD]
def fD(n:Int):Int:=if n<0 then 0 else if n>1099511627776 then 1099511627776 else n
theorem oL(n:Int):kW n=some (fD n,()):=zBy
theorem Ly{α X:Type}(f:(List α×List α×Int×Int×Unit)->Option ((List α×List α×Int×Int×Unit)⊕((List α×Unit)⊕(Bool×Unit))))(l:List α)(p:Nat->Bool)
  (h:∀ i,i<l.length->f (l,l,(l.length:Int),(i:Int),())=ay (p i) (some (.inl (l,l,(l.length:Int),((i+1:Nat):Int),()))) (some (.inr (.inr (false,())))))
  (he:f (l,l,(l.length:Int),(l.length:Int),())=some (.inr (.inl (l,())))):
  ct f (l,l,(l.length:Int),0,())=some (if (List.range' 0 l.length).all p=true then .inl (l,()) else .inr (false,())):=by
 have:=NU (f:=f) (fun i=>(l,l,(l.length:Int),(i:Int),())) p (.inr (false,())) (.inl (l,())) l.length (fun i hi=>by rw[h i hi,oi]) he l.length 0 (by omega)
 exact this
def CF(l:List aX)(i:Nat):Bool:=rQ (l.getD i fC).2.1&&(decide (i=0)||decide ((l.getD (i-1) fC).1<(l.getD i fC).1))
def zM(l:List aX):Bool:=(List.range' 0 l.length).all (CF l)&&decide (l.length<=48)
theorem zB8{l:List aX}(hl:∀ h∈l,h.2.1.length<=140737488355328)(hn:l.length<=140737488355328)(i:Nat)(hi:i<l.length):
  Ja l l (l.length:Int) (i:Int)=ay (CF l i) (some (.inl (l,l,(l.length:Int),((i+1:Nat):Int),()))) (some (.inr (.inr (false,())))):=by
 unfold Ja
 have ho:(l.getD i fC).2.1.length<=140737488355328:=by
  rw[List.getD_eq_getElem?_getD,List.getElem?_eq_getElem hi];exact hl _ (List.getElem_mem hi)
 rw[decide_eq_true (by omega),bz,aC (by omega)]
 simp only[aW,fi,fT,cc,dI]
 rw[WI ho]
 simp only[au]
 rw[bA (n:=(i:Int)-1) (by omega) (by omega),bA (n:=(i:Int)+1) (by omega) (by omega)]
 unfold CF
 cases hm:rQ (l.getD i fC).2.1 with
 | false=>simp[aj]
 | true=>
  by_cases h0:i=0
  ·subst h0;simp[aj]
  ·rw[PU l i (by omega)]
   generalize l.getD (i-1) fC=y
   generalize l.getD i fC=x
   have d1:decide ((i:Int)>0)=true:=decide_eq_true (by omega)
   rw[d1]
   simp only[Bool.not_true,Bool.not_false,Bool.true_and,Bool.and_true,Bool.false_or]
   rw[aC (by intro _;omega)]
   by_cases hc:y.1<x.1
   ·have d2:decide (y.1>=x.1)=false:=decide_eq_false (by omega)
    have d3:decide (y.1<x.1)=true:=decide_eq_true hc
    rw[d2,d3]
    simp[aj,h0]
   ·have d2:decide (y.1>=x.1)=true:=decide_eq_true (by omega)
    have d3:decide (y.1<x.1)=false:=decide_eq_false hc
    rw[d2,d3]
    simp[aj,h0]
theorem zB9{l:List aX}(hl:∀ h∈l,h.2.1.length<=140737488355328)(hn:l.length<=140737488355328):Jb l=some (zM l,()):=by
 unfold Jb zbG
 rw[Ly (X:=Unit) _ l (CF l) (fun i hi=>zB8 hl hn i hi) (by
  show Ja l l (l.length:Int) (l.length:Int)=_
  unfold Ja
  rw[decide_eq_false (by omega)];rfl)]
 unfold zM
 cases (List.range' 0 l.length).all (CF l) with
 | false=>rfl
 | true=>
  simp only[if_true,au,dV,Bool.true_and]
  congr 2
  rw[show decide (((l.length:Nat):Int)<=48)=decide (l.length<=48) from by simp;omega]
def CG(l:List aM)(i:Nat):Bool:=
 let p:=l.getD i (0,0,0,0,0)
 decide (p.2.1=p.1 % 65536)&&(decide (0<=p.2.2.1)&&decide (p.2.2.1<=65535)&&(decide (p.2.2.2.1=fD p.2.2.2.1)&&(decide (0<=p.2.2.2.2)&&decide (p.2.2.2.2<=8))))&&!((l.take i).any fun x=>x.1==p.1)
def zN(l:List aM):Bool:=(List.range' 0 l.length).all (CG l)&&decide (l.length<=16)
def iO{α:Type}(p:α->Bool):List α->Nat->Int
 | [],_=>-1
 | x::l,k=>if p x=true then (k:Int) else iO p l (k+1)
theorem CH{α:Type}{p:α->Bool}{x:α}{l:List α}{k:Nat}(h:p x=true):iO p (x::l) k=(k:Int):=by
 unfold iO;rw[if_pos h]
theorem CI{α:Type}{p:α->Bool}{x:α}{l:List α}{k:Nat}(h:¬ p x=true):iO p (x::l) k=iO p l (k+1):=by
 conv=>lhs;unfold iO
 rw[if_neg h]
theorem CJ{α:Type}{p:α->Bool}:∀ {l:List α} {k:Nat},0<=iO p l k ↔ l.any p=true
 | [],k=>by simp[iO]
 | x::l,k=>by
  have ih:=CJ (p:=p) (l:=l) (k:=k+1)
  simp only[List.any_cons,Bool.or_eq_true]
  by_cases h:p x=true
  ·rw[CH h];simp[h]
  ·rw[CI h,ih];simp[h]
def rT(v:Int):Unit⊕(Int×Unit):=if v=-1 then .inl () else .inr (v,())
theorem PV{α:Type}{p:α->Bool}{l:List α}{k:Nat}:(decide (iO p l k>=0))=l.any p:=by
 rw[Bool.eq_iff_iff,decide_eq_true_eq]
 exact CJ
theorem zkb(l:List aM)(x:aM)(hn:l.length<=140737488355328):∀ (m k:Nat),k+m=l.length->
  Jk (l,x,(l.length:Int),(k:Int),())=some (rT (iO (fun y:aM=>y.1==x.1) (l.drop k) k))
 | 0,k,hk=>by
  unfold Jk
  rw[List.drop_of_length_le (by omega)]
  rw[dm (y:=.inl ())]
  ·rfl
  ·show Jj l x (l.length:Int) (k:Int)=_
   unfold Jj
   rw[decide_eq_false (by omega)];rfl
 | m+1,k,hk=>by
  have hkl:k<l.length:=by omega
  have ih:=zkb l x hn m (k+1) (by omega)
  rw[List.drop_eq_getElem_cons hkl]
  unfold Jk at ih ⊢
  have hb:Jj l x (l.length:Int) (k:Int)=if (l[k].1==x.1)=true then some (.inr (.inr ((k:Int),()))) else some (.inl (l,x,(l.length:Int),((k+1:Nat):Int),())):=by
   unfold Jj
   rw[decide_eq_true (by omega),bz,aC (by omega)]
   simp only[aW,fi,fT]
   have:l.getD k (0,0,0,0,0)=l[k]:=by rw[List.getD_eq_getElem?_getD,List.getElem?_eq_getElem hkl];rfl
   rw[this]
   unfold N0
   simp only[aW,au,oi]
   rw[bA (by omega) (by omega)];rfl
  by_cases h:(l[k].1==x.1)=true
  ·rw[if_pos h] at hb
   rw[dm (y:=.inr ((k:Int),())) hb,CH (p:=fun y:aM=>y.1==x.1) h]
   unfold rT;rw[if_neg (by omega)]
  ·rw[if_neg h] at hb
   rw[iI (s':=(l,x,(l.length:Int),((k+1:Nat):Int),())) hb,ih,CI (p:=fun y:aM=>y.1==x.1) h]
theorem zCa(l:List aM)(x:aM)(hn:l.length<=140737488355328):Jl l x=some (l.any fun y=>y.1==x.1,()):=by
 unfold Jl N1
 have L:=zkb l x hn l.length 0 (by omega)
 have L':Jk (l,x,(l.length:Int),0,())=_:=L
 rw[L',List.drop_zero]
 have hi:=PV (p:=fun y:aM=>y.1==x.1) (l:=l) (k:=0)
 rw[<-hi]
 generalize iO (fun y:aM=>y.1==x.1) l 0=v
 unfold rT
 by_cases h:v=-1
 ·subst h;rfl
 ·rw[if_neg h];rfl
theorem zCb{l:List aM}(hl:∀ p∈l,cd p.1)(hn:l.length<=140737488355328)(i:Nat)(hi:i<l.length):
  Jm l l (l.length:Int) (i:Int)=ay (CG l i) (some (.inl (l,l,(l.length:Int),((i+1:Nat):Int),()))) (some (.inr (.inr (false,())))):=by
 unfold Jm
 have hp:cd (l.getD i (0,0,0,0,0)).1:=by
  rw[List.getD_eq_getElem?_getD,List.getElem?_eq_getElem hi];exact hl _ (List.getElem_mem hi)
 rw[decide_eq_true (by omega),bz,aC (by omega)]
 simp only[aW,fi,fT,cc,dI]
 unfold CG
 simp only
 generalize l.getD i (0,0,0,0,0)=p at hp
 have h0:=hp.1
 have h1:=hp.2
 have hb:lr .u32 p.1 65535=p.1 % 65536:=IA (k:=.u32) 16 h0 rfl (by show 16<=32;omega)
 rw[hb,qY (by omega) (by omega),bA (n:=p.1 % 65536) (by omega) (by omega),oL,bA (n:=(i:Int)+1) (by omega) (by omega)]
 simp only[gX,cc,dI]
 have hs:cE 0 (i:Int).toNat l=l.take i:=by simp[cE]
 rw[hs,zCa _ _ (by rw[List.length_take];omega),oi]
 simp only[au]
 by_cases hg:p.2.1=p.1 % 65536/\0<=p.2.2.1/\p.2.2.1<=65535/\p.2.2.2.1=fD p.2.2.2.1/\0<=p.2.2.2.2/\p.2.2.2.2<=8
 ·obtain⟨g1,g2,g3,g4,g5,g6⟩:=hg
  rw[if_neg (by simp[<-g1,<-g4];omega),aC (by omega)]
  have:(decide (p.2.1=p.1 % 65536)&&(decide (0<=p.2.2.1)&&decide (p.2.2.1<=65535)&&(decide (p.2.2.2.1=fD p.2.2.2.1)&&(decide (0<=p.2.2.2.2)&&decide (p.2.2.2.2<=8)))))=true:=by
   simp[<-g1,<-g4,g2,g3,g5,g6]
  rw[this,Bool.true_and]
  cases zkc:(l.take i).any fun y=>y.1==p.1 with
  | true=>rfl
  | false=>rfl
 ·have hf:(decide (p.2.1=p.1 % 65536)&&(decide (0<=p.2.2.1)&&decide (p.2.2.1<=65535)&&(decide (p.2.2.2.1=fD p.2.2.2.1)&&(decide (0<=p.2.2.2.2)&&decide (p.2.2.2.2<=8)))))=false:=by
   rw[<-Bool.not_eq_true]
   intro hx
   simp only[Bool.and_eq_true,decide_eq_true_eq] at hx
   obtain⟨g1,⟨g2,g3⟩,g4,g5,g6⟩:=hx
   exact hg ⟨g1,g2,g3,g4,g5,g6⟩
  rw[hf,Bool.false_and,bn,if_pos]
  apply Classical.byContradiction
  intro hx
  apply hg
  simp only[Bool.or_eq_true,decide_eq_true_eq,bne_iff_ne,ne_eq,not_or,Decidable.not_not] at hx
  obtain⟨⟨⟨⟨⟨g1,g2⟩,g3⟩,g4⟩,g5⟩,g6⟩:=hx
  exact⟨g1,by omega,by omega,g4,by omega,by omega⟩
theorem zCc{l:List aM}(hl:∀ p∈l,cd p.1)(hn:l.length<=140737488355328):Jn l=some (zN l,()):=by
 unfold Jn zbO
 rw[Ly (X:=Unit) _ l (CG l) (fun i hi=>zCb hl hn i hi) (by
  show Jm l l (l.length:Int) (l.length:Int)=_
  unfold Jm
  rw[decide_eq_false (by omega)];rfl)]
 unfold zN
 cases (List.range' 0 l.length).all (CG l) with
 | false=>rfl
 | true=>
  simp only[if_true,au,dV,Bool.true_and]
  congr 2
  rw[show decide (((l.length:Nat):Int)<=16)=decide (l.length<=16) from by simp;omega]
def vQ(s:aH):Bool:=rB s.1&&(decide (fa s.1<=256)&&(decide (s.2.1=fD s.2.1)&&(decide (0<=s.2.2)&&decide (s.2.2<fa s.1))))
def Lz(t s:aH):Bool:=decide (t.1.1<s.1.1)&&!(pH t.1 s.1||pH s.1 t.1)
def CK(l:List aH)(i:Nat):Bool:=vQ (l.getD i c8)&&(decide (i=0)||Lz (l.getD (i-1) c8) (l.getD i c8))
def Gr(l:List aH):Bool:=(List.range' 0 l.length).all (CK l)&&decide (l.length<=16)
theorem zkd{α:Type}{p:α->Prop}{l:List α}(h:∀ x∈l,p x){i:Nat}(hi:i<l.length)(z:α):p (l.getD i z):=by
 rw[List.getD_eq_getElem?_getD,List.getElem?_eq_getElem hi];exact h _ (List.getElem_mem hi)
theorem zCd{l:List aH}(hl:∀ s∈l,cd s.1.1)(hn:l.length<=140737488355328)(i:Nat)(hi:i<l.length):
  Jc l l (l.length:Int) (i:Int)=ay (CK l i) (some (.inl (l,l,(l.length:Int),((i+1:Nat):Int),()))) (some (.inr (.inr (false,())))):=by
 unfold Jc
 have hs:cd (l.getD i c8).1.1:=zkd (p:=fun s:aH=>cd s.1.1) hl hi c8
 have ht:cd (l.getD (i-1) c8).1.1:=zkd (p:=fun s:aH=>cd s.1.1) hl (by omega) c8
 rw[decide_eq_true (by omega),bz,aC (by omega)]
 simp only[aW,fi,fT,cc,dI]
 unfold CK
 rw[Gb hs,Gc hs,oL,bA (n:=(i:Int)-1) (by omega) (by omega),bA (n:=(i:Int)+1) (by omega) (by omega)]
 simp only[au,gX,cc,dI]
 by_cases h0:i=0
 ·subst h0
  generalize l.getD 0 c8=s at hs ⊢
  have d0:decide (((0:Nat):Int)>0)=false:=decide_eq_false (by omega)
  rw[d0]
  simp only[Bool.false_and,decide_true,Bool.true_or,Bool.and_true,wY,bn]
  rw[aC (by simp),aC (by simp)]
  have e:(!rB s.1||decide (fa s.1>256)||s.2.1 != fD s.2.1||decide (s.2.2<0)||decide (s.2.2>=fa s.1))=!vQ s:=by
   unfold vQ
   rw[Bool.eq_iff_iff]
   simp only[Bool.or_eq_true,Bool.not_eq_true',Bool.and_eq_false_iff,decide_eq_true_eq,decide_eq_false_iff_not,bne_iff_ne,ne_eq]
   constructor
   ·rintro ((((h | h) | h) | h) | h)
    ·exact .inl h
    ·exact .inr (.inl (by omega))
    ·exact .inr (.inr (.inl h))
    ·exact .inr (.inr (.inr (.inl (by omega))))
    ·exact .inr (.inr (.inr (.inr (by omega))))
   ·rintro (h | h | h | h | h)
    ·exact .inl (.inl (.inl (.inl h)))
    ·exact .inl (.inl (.inl (.inr (by omega))))
    ·exact .inl (.inl (.inr h))
    ·exact .inl (.inr (by omega))
    ·exact .inr (by omega)
  rw[e]
  cases vQ s<;>simp[aj]
 ·rw[PU l i (by omega)]
  generalize l.getD (i-1) c8=t at ht ⊢
  generalize l.getD i c8=s at hs ⊢
  have d0:decide ((i:Int)>0)=true:=decide_eq_true (by omega)
  have d1:decide (i=0)=false:=decide_eq_false h0
  rw[d0,d1,zjm ht hs]
  simp only[Bool.true_and,Bool.false_or,gX,cc]
  have e:(!rB s.1||decide (fa s.1>256)||s.2.1 != fD s.2.1||decide (s.2.2<0)||decide (s.2.2>=fa s.1))=!vQ s:=by
   unfold vQ
   rw[Bool.eq_iff_iff]
   simp only[Bool.or_eq_true,Bool.not_eq_true',Bool.and_eq_false_iff,decide_eq_true_eq,decide_eq_false_iff_not,bne_iff_ne,ne_eq]
   constructor
   ·rintro ((((h | h) | h) | h) | h)
    ·exact .inl h
    ·exact .inr (.inl (by omega))
    ·exact .inr (.inr (.inl h))
    ·exact .inr (.inr (.inr (.inl (by omega))))
    ·exact .inr (.inr (.inr (.inr (by omega))))
   ·rintro (h | h | h | h | h)
    ·exact .inl (.inl (.inl (.inl h)))
    ·exact .inl (.inl (.inl (.inr (by omega))))
    ·exact .inl (.inl (.inr h))
    ·exact .inl (.inr (by omega))
    ·exact .inr (by omega)
  have e2:(decide (t.1.1>=s.1.1)||(pH t.1 s.1||pH s.1 t.1))=!Lz t s:=by
   unfold Lz
   rw[Bool.eq_iff_iff]
   simp only[Bool.or_eq_true,Bool.not_eq_true',Bool.and_eq_false_iff,decide_eq_true_eq,decide_eq_false_iff_not,Bool.not_eq_false']
   constructor
   ·rintro (h | h)
    ·exact .inl (by omega)
    ·exact .inr h
   ·rintro (h | h)
    ·exact .inl (by omega)
    ·exact .inr h
  rw[e,e2,aC (by intro _;omega),aC (by intro _;omega)]
  cases vQ s<;>cases Lz t s<;>simp[aj]
theorem zCe{l:List aH}(hl:∀ s∈l,cd s.1.1)(hn:l.length<=140737488355328):Jd l=some (Gr l,()):=by
 unfold Jd zbI
 rw[Ly (X:=Unit) _ l (CK l) (fun i hi=>zCd hl hn i hi) (by
  show Jc l l (l.length:Int) (l.length:Int)=_
  unfold Jc
  rw[decide_eq_false (by omega)];rfl)]
 unfold Gr
 cases (List.range' 0 l.length).all (CK l) with
 | false=>rfl
 | true=>
  simp only[if_true,au,dV,Bool.true_and]
  congr 2
  rw[show decide (((l.length:Nat):Int)<=16)=decide (l.length<=16) from by simp;omega]
def eN(c:cD):Bool:=c.2.2.2==0||c.2.2.2==1
theorem PW(c:cD):xd c=some (eN c,()):=by
 unfold xd
 simp only[aW,cc,dI];rfl
theorem zke(l:List cD)(a:Int)(hn:l.length<=140737488355328):∀ (m k:Nat),k+m=l.length->
  Jp (l,a,(l.length:Int),(k:Int),())=some (rT (iO (fun c:cD=>c.1==a&&eN c) (l.drop k) k))
 | 0,k,hk=>by
  unfold Jp
  rw[List.drop_of_length_le (by omega)]
  rw[dm (y:=.inl ())]
  ·rfl
  ·show Jo l a (l.length:Int) (k:Int)=_
   unfold Jo
   rw[decide_eq_false (by omega)];rfl
 | m+1,k,hk=>by
  have hkl:k<l.length:=by omega
  have ih:=zke l a hn m (k+1) (by omega)
  rw[List.drop_eq_getElem_cons hkl]
  unfold Jp at ih ⊢
  have hb:Jo l a (l.length:Int) (k:Int)=ay (l[k].1==a&&eN l[k]) (some (.inr (.inr ((k:Int),())))) (some (.inl (l,a,(l.length:Int),((k+1:Nat):Int),()))):=by
   unfold Jo
   rw[decide_eq_true (by omega),bz,aC (by omega)]
   simp only[aW,fi,fT]
   have:l.getD k (0,0,0,0)=l[k]:=by rw[List.getD_eq_getElem?_getD,List.getElem?_eq_getElem hkl];rfl
   rw[this]
   unfold N2
   rw[PW]
   simp only[aW,au,gX,cc]
   rw[bA (by omega) (by omega)];rfl
  by_cases h:(l[k].1==a&&eN l[k])=true
  ·rw[h,bz] at hb
   rw[dm (y:=.inr ((k:Int),())) hb,CH (p:=fun c:cD=>c.1==a&&eN c) h]
   unfold rT;rw[if_neg (by omega)]
  ·rw[Bool.not_eq_true] at h
   rw[h,bn] at hb
   rw[iI (s':=(l,a,(l.length:Int),((k+1:Nat):Int),())) hb,ih,CI (p:=fun c:cD=>c.1==a&&eN c) (by simp[h])]
def dU(l:List cD)(a:Int):Int:=iO (fun c:cD=>c.1==a&&eN c) l 0
theorem find_eq(l:List cD)(a:Int)(hn:l.length<=140737488355328):yU l a=some (dU l a,()):=by
 unfold yU N3
 have L:=zke l a hn l.length 0 (by omega)
 have L':Jp (l,a,(l.length:Int),0,())=_:=L
 rw[L',List.drop_zero]
 unfold dU
 generalize iO (fun c:cD=>c.1==a&&eN c) l 0=v
 unfold rT
 by_cases h:v=-1
 ·subst h;rfl
 ·rw[if_neg h];rfl
def Gs(l:List cD)(i:Nat)(c:cD):Bool:=
 decide (0<=c.2.2.2)&&(decide (c.2.2.2<=5)&&(decide (c.2.1=fD c.2.1)&&(decide (c.2.2.1=fD c.2.2.1)&&(if eN c=true then decide (c.2.2.1=0)&&decide (dU l c.1=(i:Int)) else decide (c.2.1<=c.2.2.1)))))
def CL(l:List cD)(i:Nat):Bool:=Gs l i (l.getD i (0,0,0,0))
def zO(l:List cD):Bool:=(List.range' 0 l.length).all (CL l)&&decide (l.length<=16)
theorem zCf{l:List cD}(hn:l.length<=140737488355328)(i:Nat)(hi:i<l.length):
  Jq l l (l.length:Int) (i:Int)=ay (CL l i) (some (.inl (l,l,(l.length:Int),((i+1:Nat):Int),()))) (some (.inr (.inr (false,())))):=by
 unfold Jq
 rw[decide_eq_true (by omega),bz,aC (by omega)]
 simp only[aW,fi,fT,cc,dI]
 unfold CL
 generalize l.getD i (0,0,0,0)=c
 rw[oL,oL,PW,find_eq _ _ hn,bA (n:=(i:Int)+1) (by omega) (by omega)]
 simp only[gX,cc,dI]
 have key:∀ b x y:Bool,(b=true->x=false->(b&&!x)=true):=by intro b x y h1 h2;rw[h1,h2];rfl
 have PX:∀ b x:Bool,(b=true->x=true->(b&&x)=true):=by intro b x h1 h2;rw[h1,h2];rfl
 rw[aC (key _ _ true),aC (PX _ _),aC (PX _ _)]
 have e:((decide (c.2.2.2<0)||decide (c.2.2.2>5)||c.2.1 != fD c.2.1||c.2.2.1 != fD c.2.2.1)||eN c&&(c.2.2.1 != 0||dU l c.1 != (i:Int))||!eN c&&decide (c.2.2.1<c.2.1))=!Gs l i c:=by
  unfold Gs
  rw[Bool.eq_iff_iff]
  cases ho:eN c with
  | true=>
   simp only[Bool.true_and,Bool.not_true,Bool.false_and,Bool.or_false,if_true,Bool.or_eq_true,Bool.not_eq_true',Bool.and_eq_false_iff,decide_eq_true_eq,decide_eq_false_iff_not,bne_iff_ne,ne_eq]
   constructor
   ·rintro ((((h | h) | h) | h) | h | h)
    ·exact .inl (by omega)
    ·exact .inr (.inl (by omega))
    ·exact .inr (.inr (.inl h))
    ·exact .inr (.inr (.inr (.inl h)))
    ·exact .inr (.inr (.inr (.inr (.inl h))))
    ·exact .inr (.inr (.inr (.inr (.inr h))))
   ·rintro (h | h | h | h | h | h)
    ·exact .inl (.inl (.inl (.inl (by omega))))
    ·exact .inl (.inl (.inl (.inr (by omega))))
    ·exact .inl (.inl (.inr h))
    ·exact .inl (.inr h)
    ·exact .inr (.inl h)
    ·exact .inr (.inr h)
  | false=>
   simp only[Bool.true_and,Bool.not_false,Bool.false_and,Bool.or_false,Bool.false_eq_true,if_false,Bool.or_eq_true,Bool.not_eq_true',Bool.and_eq_false_iff,decide_eq_true_eq,decide_eq_false_iff_not,bne_iff_ne,ne_eq]
   constructor
   ·rintro ((((h | h) | h) | h) | h)
    ·exact .inl (by omega)
    ·exact .inr (.inl (by omega))
    ·exact .inr (.inr (.inl h))
    ·exact .inr (.inr (.inr (.inl h)))
    ·exact .inr (.inr (.inr (.inr (by omega))))
   ·rintro (h | h | h | h | h)
    ·exact .inl (.inl (.inl (.inl (by omega))))
    ·exact .inl (.inl (.inl (.inr (by omega))))
    ·exact .inl (.inl (.inr h))
    ·exact .inl (.inr h)
    ·exact .inr (by omega)
 rw[e]
 cases Gs l i c<;>rfl
theorem zCg{l:List cD}(hn:l.length<=140737488355328):Jr l=some (zO l,()):=by
 unfold Jr zbR
 rw[Ly (X:=Unit) _ l (CL l) (fun i hi=>zCf hn i hi) (by
  show Jq l l (l.length:Int) (l.length:Int)=_
  unfold Jq
  rw[decide_eq_false (by omega)];rfl)]
 unfold zO
 cases (List.range' 0 l.length).all (CL l) with
 | false=>rfl
 | true=>
  simp only[if_true,au,dV,Bool.true_and]
  congr 2
  rw[show decide (((l.length:Nat):Int)<=16)=decide (l.length<=16) from by simp;omega]
def Gt(s:List aL)(j:Nat):Bool:=
 decide (0<=(s.getD j ko).1)&&(decide ((s.getD j ko).1<4)&&(decide (0<=(s.getD j ko).2.2)&&(decide (j=0)||decide ((s.getD (j-1) ko).2.2<=(s.getD j ko).2.2))))
def zP(s:List aL):Bool:=(List.range' 0 s.length).all (Gt s)
theorem zCh{ks t7:List ep}{t8 t9 x0:Int}{s:List aL}(hn:s.length<=140737488355328)(j:Nat)(hj:j<s.length):
  E3 ks t7 t8 t9 s (s.length:Int) (j:Int) x0 s=ay (Gt s j) (some (.inl (ks,t7,t8,t9,s,(s.length:Int),((j+1:Nat):Int),x0,s,()))) (some (.inr (.inr (false,())))):=by
 unfold E3
 rw[decide_eq_true (by omega),bz,aC (by omega)]
 simp only[aW,fi,fT,cc,dI]
 unfold Gt
 rw[bA (n:=(j:Int)-1) (by omega) (by omega),bA (n:=(j:Int)+1) (by omega) (by omega)]
 have PX:∀ b x:Bool,(b=true->x=true->(b&&x)=true):=by intro b x h1 h2;rw[h1,h2];rfl
 rw[aC (by intro h;simp at h;omega),aC (PX _ _)]
 by_cases h0:j=0
 ·subst h0
  generalize s.getD 0 ko=x
  have e:(decide (x.1<0)||decide (x.1>=4)||decide (x.2.2<0))=!(decide (0<=x.1)&&(decide (x.1<4)&&(decide (0<=x.2.2)&&true))):=by
   rw[Bool.eq_iff_iff];simp;omega
  have d0:decide (((0:Nat):Int)>0)=false:=decide_eq_false (by omega)
  rw[d0,Bool.false_and,Bool.or_false,e,show decide ((0:Nat)=0)=true from rfl,Bool.true_or]
  cases (decide (0<=x.1)&&(decide (x.1<4)&&(decide (0<=x.2.2)&&true)))<;>rfl
 ·rw[PU s j (by omega)]
  generalize s.getD (j-1) ko=y
  generalize s.getD j ko=x
  have d0:decide ((j:Int)>0)=true:=decide_eq_true (by omega)
  have d1:decide (j=0)=false:=decide_eq_false h0
  have e:(decide (x.1<0)||decide (x.1>=4)||decide (x.2.2<0)||decide (y.2.2>x.2.2))=!(decide (0<=x.1)&&(decide (x.1<4)&&(decide (0<=x.2.2)&&decide (y.2.2<=x.2.2)))):=by
   rw[Bool.eq_iff_iff];simp;omega
  rw[d0,d1,Bool.true_and,Bool.false_or,e]
  cases (decide (0<=x.1)&&(decide (x.1<4)&&(decide (0<=x.2.2)&&decide (y.2.2<=x.2.2))))<;>rfl
theorem zCi{ks t7:List ep}{t8 t9 x0:Int}{s:List aL}(hn:s.length<=140737488355328):
  NZ (ks,t7,t8,t9,s,(s.length:Int),0,x0,s,())=some (if zP s=true then .inl (ks,t7,t8,t9,()) else .inr (false,())):=by
 unfold NZ
 have:=NU (f:=fun s:(List ep)×(List ep)×Int×Int×(List aL)×Int×Int×Int×(List aL)×Unit=>E3 s.1 s.2.1 s.2.2.1 s.2.2.2.1 s.2.2.2.2.1 s.2.2.2.2.2.1 s.2.2.2.2.2.2.1 s.2.2.2.2.2.2.2.1 s.2.2.2.2.2.2.2.2.1)
  (fun j=>(ks,t7,t8,t9,s,(s.length:Int),(j:Int),x0,s,())) (Gt s) (.inr (false,())) (.inl (ks,t7,t8,t9,())) s.length
  (fun j hj=>by
   have:=zCh (ks:=ks) (t7:=t7) (t8:=t8) (t9:=t9) (x0:=x0) hn j hj
   simp only at this ⊢
   rw[this,oi])
  (by
   show E3 ks t7 t8 t9 s (s.length:Int) (s.length:Int) x0 s=_
   unfold E3
   rw[decide_eq_false (by omega)];rfl) s.length 0 (by omega)
 exact this
def CM(l:List ep)(i:Nat):Bool:=
 (decide (i=0)||decide ((l.getD (i-1) (0,[])).1<(l.getD i (0,[])).1))&&(decide ((l.getD i (0,[])).2.length≠0)&&(decide ((l.getD i (0,[])).2.length<=8)&&zP (l.getD i (0,[])).2))
def zQ(l:List ep):Bool:=(List.range' 0 l.length).all (CM l)&&decide (l.length<=96)
theorem zCj{l:List ep}(hn:l.length<=140737488355328)(i:Nat)(hi:i<l.length):
  Jf l l (l.length:Int) (i:Int)=ay (CM l i) (some (.inl (l,l,(l.length:Int),((i+1:Nat):Int),()))) (some (.inr (.inr (false,())))):=by
 unfold Jf
 rw[decide_eq_true (by omega),bz,aC (by omega)]
 simp only[aW,fi,fT,cc,dI]
 unfold CM
 rw[bA (n:=(i:Int)-1) (by omega) (by omega),aC (by intro h;simp at h;omega)]
 have step:∀ (x:ep) (q:Bool),(decide (q=true)=q)->ay (!q||((x.2.length:Int)==0)||decide ((x.2.length:Int)>8)) (some (.inr (.inr (false,()))))
   (ao (NZ (l,l,(l.length:Int),(i:Int),x.2,(x.2.length:Int),0,x.1,x.2,())) fun gN=>cC gN (fun t16=>some (.inl (t16.1,t16.2.1,t16.2.2.1,IntKind.i64.wrap (t16.2.2.2.1+1),()))) (fun Jg=>some (.inr (.inr Jg))))=
   (ay (q&&(decide (x.2.length≠0)&&(decide (x.2.length<=8)&&zP x.2))) (some (.inl (l,l,(l.length:Int),((i+1:Nat):Int),()))) (some (.inr (.inr (false,())))):Option (((List ep)×(List ep)×Int×Int×Unit)⊕(((List ep)×Unit)⊕(Bool×Unit)))):=by
  intro x q _
  cases q with
  | false=>rfl
  | true=>
   simp only[Bool.not_true,Bool.false_or,Bool.true_and]
   by_cases h1:x.2.length=0
   ·have e1:((x.2.length:Int)==0)=true:=by rw[h1];rfl
    have e2:decide (x.2.length≠0)=false:=decide_eq_false (by omega)
    rw[e1,e2];rfl
   ·have e1:((x.2.length:Int)==0)=false:=by rw[beq_eq_false_iff_ne];omega
    rw[e1,decide_eq_true h1,Bool.true_and,Bool.false_or]
    by_cases h2:x.2.length<=8
    ·rw[decide_eq_false (by omega),decide_eq_true h2,Bool.true_and,bn,zCi (by omega)]
     cases zP x.2 with
     | true=>
      simp only[if_true,au,dV,bz]
      rw[bA (by omega) (by omega)];rfl
     | false=>rfl
    ·rw[decide_eq_true (by omega),decide_eq_false h2];rfl
 by_cases h0:i=0
 ·subst h0
  have d0:decide (((0:Nat):Int)>0)=false:=decide_eq_false (by omega)
  rw[d0,Bool.false_and,show decide ((0:Nat)=0)=true from rfl,Bool.true_or]
  exact step (l.getD 0 (0,[])) true rfl
 ·rw[PU l i (by omega)]
  have d0:decide ((i:Int)>0)=true:=decide_eq_true (by omega)
  have d1:decide (i=0)=false:=decide_eq_false h0
  have e:decide ((l.getD (i-1) (0,[])).1>=(l.getD i (0,[])).1)=!decide ((l.getD (i-1) (0,[])).1<(l.getD i (0,[])).1):=by
   rw[Bool.eq_iff_iff];simp
  rw[d0,d1,Bool.true_and,Bool.false_or,e]
  exact step (l.getD i (0,[])) _ (by simp)
theorem zCk{l:List ep}(hn:l.length<=140737488355328):Jh l=some (zQ l,()):=by
 unfold Jh zbL
 rw[Ly (X:=Unit) _ l (CM l) (fun i hi=>zCj hn i hi) (by
  show Jf l l (l.length:Int) (l.length:Int)=_
  unfold Jf
  rw[decide_eq_false (by omega)];rfl)]
 unfold zQ
 cases (List.range' 0 l.length).all (CM l) with
 | false=>rfl
 | true=>
  simp only[if_true,au,dV,Bool.true_and]
  congr 2
  rw[show decide (((l.length:Nat):Int)<=96)=decide (l.length<=96) from by simp;omega]
structure PY(s:bj):Prop where
 h:∀ x∈s.2.2.1,cd x.1/\x.2.1.length<=140737488355328/\iZ x.2.2
 hn:s.2.2.1.length<=140737488355328
 w:∀ x∈s.2.2.2.1,cd x.1.1
 wn:s.2.2.2.1.length<=140737488355328
 k:∀ x∈s.2.2.2.2.1,cd x.1/\∀ y∈x.2,iZ y.2.1
 kn:s.2.2.2.2.1.length<=140737488355328
 p:∀ x∈s.2.2.2.2.2.1,cd x.1
 pn:s.2.2.2.2.2.1.length<=140737488355328
 c:∀ x∈s.2.2.2.2.2.2,cd x.1
 cn:s.2.2.2.2.2.2.length<=140737488355328
def qA(s:bj):Bool:=
 decide (0<=s.1)&&(decide (s.1<=1099511627776)&&(decide (0<=s.2.1)&&(decide (s.2.1<=65535)&&(zM s.2.2.1&&(Gr s.2.2.2.1&&(zQ s.2.2.2.2.1&&(zN s.2.2.2.2.2.1&&zO s.2.2.2.2.2.2)))))))
theorem zCl{s:bj}(h:PY s):E4 s=some (qA s,()):=by
 unfold E4
 rw[oL,zB9 (fun x hx=>(h.h x hx).2.1) h.hn,zCe h.w h.wn,zCk h.kn,zCc h.p h.pn,zCg h.cn]
 simp only[au,gX,aW,cc]
 unfold qA
 have:(s.1==fD s.1)=(decide (0<=s.1)&&decide (s.1<=1099511627776)):=by
  unfold fD
  rw[Bool.eq_iff_iff]
  simp only[beq_iff_eq,Bool.and_eq_true,decide_eq_true_eq]
  split
  ·constructor<;>omega
  ·split<;>omega
 rw[this]
 simp only[Bool.and_assoc]
end Go.Tr
