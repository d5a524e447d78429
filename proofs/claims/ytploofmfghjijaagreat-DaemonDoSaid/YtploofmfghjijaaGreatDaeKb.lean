/- The log's calls that read: a number's bytes, a row, and which rows there are. Which rows a disk has, and a log that is opened, exactly. A disk that neither stops nor fails: what its sectors are behind calls; rows that were written are read. A log's sectors: what Append and Begin lay there, Open finds. Conditions: none but those that each theorem states. -/
import Derived.Test.YtploofmfghjijaaGreatDaeKa
namespace Go.Tr
open Go
set_option linter.unusedVariables false
set_option linter.unusedSimpArgs false
set_option maxRecDepth 100000
theorem zjN{l:List Int}(hl:bN l)(hlen:l.length<=6):zg l=some (de l,()):=by
 have hde:∀ l:List Int,bN l->l.length<=6->0<=de l/\de l<=281474976710655:=by
  intro l hl hlen
  have:=Cx l hl 0 (by omega)
  refine⟨this.1,?_⟩
  have h2:=this.2
  have h3:(256:Int) ^ l.length<=256 ^ 6:=by
   have:(256:Nat) ^ l.length<=256 ^ 6:=Nat.pow_le_pow_right (by omega) hlen
   exact_mod_cast this
  unfold de
  omega
 have WW:UP ((0:Int),l,((l.length:Nat):Int),(0:Int),())=some (.inl (IntKind.i64.wrap (de l),())):=by
  unfold UP
  have h0:(((0:Int),l,((l.length:Nat):Int),(0:Int),()):Int×(List Int)×Int×Int×Unit)=(fun i:Nat=>(IntKind.i64.wrap (de (l.take i)),l,((l.length:Nat):Int),(i:Int),())) 0:=by simp[de,qS]
  rw[h0,jL (n:=l.length) (fun i:Nat=>(IntKind.i64.wrap (de (l.take i)),l,((l.length:Nat):Int),(i:Int),())) (Nat.zero_le _) fun i _ hi=>?_]
  ·refine dm ?_
   show Kn (IntKind.i64.wrap (de (l.take l.length))) l ((l.length:Nat):Int) ((l.length:Nat):Int)=_
   unfold Kn
   rw[decide_eq_false (by omega),List.take_length];rfl
  ·show Kn (IntKind.i64.wrap (de (l.take i))) l ((l.length:Nat):Int) (i:Int)=_
   unfold Kn
   simp only[aW]
   have hg:l.getD (i:Int).toNat 0=l[i]:=by simp[List.getD_eq_getElem?_getD,hi]
   rw[decide_eq_true (by omega),bz,aC (by omega),aC (by omega),hg,zjr (hl _ (List.getElem_mem hi)),bA (n:=(i:Int)+1) (by omega) (by omega),<-zjq,List.take_append_getElem]
   rfl
 unfold zg
 rw[WW,au,dV]
 have:=hde l hl hlen
 rw[bA (by omega) (by omega)]
def iN(s:List Int):Int:=de (s.take 2)
def xG(s:List Int):Int:=de ((s.drop 2).take 4)
theorem zjO{s:List Int}(h:qz s):0<=iN s/\iN s<=65535/\0<=xG s/\xG s<=4294967295:=by
 have h1:=Cx (s.take 2) (fun c hc=>h.2 c (List.mem_of_mem_take hc)) 0 (by omega)
 have h2:=Cx ((s.drop 2).take 4) (fun c hc=>h.2 c (List.mem_of_mem_drop (List.mem_of_mem_take hc))) 0 (by omega)
 have l1:(s.take 2).length=2:=by simp[h.1]
 have l2:((s.drop 2).take 4).length=4:=by simp[h.1]
 rw[l1] at h1
 rw[l2] at h2
 unfold iN xG de
 omega
def nc(d:Dk)(a:Int)(m:Nat):List Int:=((List.range m).map fun j:Nat=>d.dC (a+(j:Int))).flatten
theorem zjP(d:Dk)(a:Int)(m:Nat):nc d a (m+1)=nc d a m++d.dC (a+(m:Int)):=by
 unfold nc
 rw[List.range_succ,List.map_append,List.flatten_append]
 simp
theorem PM{d:Dk}{N:Nat}(h:d.Ok N)(a:Int):∀ m,(nc d a m).length=64*m
 | 0=>rfl
 | m+1=>by rw[zjP,List.length_append,PM h a m,(h.dC _).1];omega
theorem zBN{d:Dk}{N:Nat}(h:d.Ok N)(a:Int)(m:Nat):bN (nc d a m):=by
 intro c hc
 obtain⟨l,hl,hc⟩:=List.mem_flatten.1 hc
 obtain⟨j,_,rfl⟩:=List.mem_map.1 hl
 exact (h.dC _).2 c hc
def Dk.gC(d:Dk)(a:Int):List Int:=(nc d (a+1) (((iN (d.dC a)).toNat+63) / 64)).take (iN (d.dC a)).toNat
def Dk.row(d:Dk)(rg at' kind:Int):Int×List Int×Bool:=
 if at'>=d.half\/iN (d.dC (rg*d.half+at'))>16384\/at'+sec (iN (d.dC (rg*d.half+at')))>d.half then (0,[],false) else
 (xG (d.dC (rg*d.half+at')),d.gC (rg*d.half+at'),d.dC (rg*d.half+at')==jy kind (xG (d.dC (rg*d.half+at'))) (d.gC (rg*d.half+at')))
theorem zjQ{d:Dk}{a:Int}(hd:d.down=false)(h0:0<=a)(h1:a<d.kept.length):d.read a=(d.dC a,0):=by
 unfold Dk.read
 rw[hd,if_neg (by simp),if_neg (by omega)]
theorem WY(d:Dk):2*d.half<=d.kept.length:=by unfold Dk.half;omega
theorem zBO{d:Dk}{N:Nat}(h:d.Ok N)(hN:N<=100000000000)(lJ:d.down=false){rg at' n:Int}(iM:0<=rg)(gV:rg<=1)(ha:0<=at')(jq:0<=n)(jd:n<=16384)(hin:at'+sec n<=d.half)(kind:Int)(hh:Nat)(id l1 l2 l3:Int)(l5:Bool)(rc h':List (List Int)):
  UX (rg,at',kind,hh,n,id,1,[],l1,l2,l3,l5,d.left,d.fail,d.down,d.calls,d.kept,d.wait,rc,h',())=
   some (.inl (kind,hh,n,id,l1,l2,l3,l5,d.left,d.fail,d.down,d.calls,d.kept,d.wait,rc,h',nc d (rg*d.half+at'+1) ((n.toNat+63) / 64),())):=by
 have hk1:=h.k1
 have j7:d.half=(d.kept.length:Int) / 2:=rfl
 have Cg:=PJ iM gV (b:=d.half) (by omega) (by omega)
 have xF:sec n=1+(n+63) / 64:=rfl
 have h2:=WY d
 have hrh:rg*d.half+d.half<=d.kept.length:=by
  have:rg=0\/rg=1:=by omega
  rcases this with rfl | rfl<;>omega
 unfold UX
 have h0:((rg,at',kind,hh,n,id,1,[],l1,l2,l3,l5,d.left,d.fail,d.down,d.calls,d.kept,d.wait,rc,h',()):Int×Int×Int×Nat×Int×Int×Int×(List Int)×Int×Int×Int×Bool×Int×Int×Bool×Int×(List (List Int))×(List (Int×List Int))×(List (List Int))×(List (List Int))×Unit)=
  (fun i:Nat=>(rg,at',kind,hh,n,id,((i+1:Nat):Int),nc d (rg*d.half+at'+1) i,l1,l2,l3,l5,d.left,d.fail,d.down,d.calls,d.kept,d.wait,rc,h',())) 0:=by simp[nc]
 rw[h0,jL (n:=(n.toNat+63) / 64) (fun i:Nat=>(rg,at',kind,hh,n,id,((i+1:Nat):Int),nc d (rg*d.half+at'+1) i,l1,l2,l3,l5,d.left,d.fail,d.down,d.calls,d.kept,d.wait,rc,h',())) (Nat.zero_le _) fun i _ hi=>?_]
 ·refine dm ?_
  show Kr rg at' kind hh n id ((((n.toNat+63) / 64)+1:Nat):Int) (nc d (rg*d.half+at'+1) ((n.toNat+63) / 64)) l1 l2 l3 l5 d.left d.fail d.down d.calls d.kept d.wait rc h'=_
  unfold Kr
  rw[zH jq (by omega),au,decide_eq_false (by simp only;omega),bn]
 ·show Kr rg at' kind hh n id ((i+1:Nat):Int) (nc d (rg*d.half+at'+1) i) l1 l2 l3 l5 d.left d.fail d.down d.calls d.kept d.wait rc h'=some (.inl (rg,at',kind,hh,n,id,((i+1+1:Nat):Int),nc d (rg*d.half+at'+1) (i+1),l1,l2,l3,l5,d.left,d.fail,d.down,d.calls,d.kept,d.wait,rc,h',()))
  have jD:rg*d.half+at'+((i+1:Nat):Int)=rg*d.half+at'+1+(i:Int):=by omega
  have gL:=PM h (rg*d.half+at'+1) i
  unfold Kr
  simp only[zH jq (show n<=1000000000 by omega),au,zI _ hk1,aW,<-j7]
  rw[decide_eq_true (by omega),bz,bA (n:=rg*d.half) (by omega) (by omega),bA (n:=rg*d.half+at') (by omega) (by omega),bA (n:=rg*d.half+at'+((i+1:Nat):Int)) (by omega) (by omega),bA (n:=((i+1:Nat):Int)+1) (by omega) (by omega),jD,zjA h (by omega),au,zjQ lJ (by omega) (by omega)]
  have vN:=h.dC (rg*d.half+at'+1+(i:Int))
  have n5:cE 0 64 (d.dC (rg*d.half+at'+1+(i:Int)))=d.dC (rg*d.half+at'+1+(i:Int)):=by
   unfold cE
   rw[List.drop_zero,List.take_of_length_le (by rw[vN.1];omega)]
  simp only[List.set_cons_zero,List.getD_cons_zero,List.length_singleton,bne_self_eq_false,bn,n5]
  rw[aC (by omega),aC (by omega),aC (by omega),aC (by simp only[kj];rw[gL,vN.1];omega),zjP]
  rfl
theorem PN{d:Dk}{N:Nat}(h:d.Ok N)(hN:N<=100000000000)(lJ:d.down=false){rg at':Int}(iM:0<=rg)(gV:rg<=1)(ha:0<=at')(ha1:at'<=1000)(kind:Int)(l1 l2 l3:Int)(l5:Bool)(rc:List (List Int)):
  Fw rg at' kind l1 l2 l3 l5 d.left d.fail d.down d.calls d.kept d.wait rc=some ((d.row rg at' kind).1,(d.row rg at' kind).2.1,(d.row rg at' kind).2.2,l1,l2,l3,l5,d.left,d.fail,d.down,d.calls,d.kept,d.wait,rc,()):=by
 have hk1:=h.k1
 have j7:d.half=(d.kept.length:Int) / 2:=rfl
 have Cg:=PJ iM gV (b:=d.half) (by omega) (by omega)
 have h2:=WY d
 have hrh:rg*d.half+d.half<=d.kept.length:=by
  have:rg=0\/rg=1:=by omega
  rcases this with rfl | rfl<;>omega
 unfold Fw Dk.row
 simp only[au,zI _ hk1,aW,<-j7]
 by_cases FN:at'>=d.half
 ·rw[decide_eq_true FN,bz,if_pos (.inl FN)]
 ·rw[decide_eq_false FN,bn,bA (n:=rg*d.half) (by omega) (by omega),bA (n:=rg*d.half+at') (by omega) (by omega),zjA h (by omega),au,zjQ lJ (by omega) (by omega)]
  have vN:=h.dC (rg*d.half+at')
  generalize hs:d.dC (rg*d.half+at')=s at*
  have hb:=zjO vN
  have e1:cE 0 2 s=s.take 2:=by unfold cE;rw[List.drop_zero]
  have e2:cE 2 6 s=(s.drop 2).take 4:=rfl
  have n1:zg (s.take 2)=some (iN s,()):=zjN (fun c hc=>vN.2 c (List.mem_of_mem_take hc)) (by simp;omega)
  have n2:zg ((s.drop 2).take 4)=some (xG s,()):=zjN (fun c hc=>vN.2 c (List.mem_of_mem_drop (List.mem_of_mem_take hc))) (by simp;omega)
  simp only[List.set_cons_zero,List.getD_cons_zero,List.length_singleton,bne_self_eq_false,e1,e2,cc,dI,Bool.false_or]
  rw[aC (by omega),aC (by omega),aC (by omega),n1,au,aC (by omega),aC (by omega),n2,au]
  rw[aC (by simp)]
  by_cases pd:iN s>16384
  ·simp only[decide_eq_true pd,Bool.not_true,wY,Bool.true_or,bz]
   rw[if_pos (.inr (.inl pd))]
  ·simp only[decide_eq_false pd,Bool.not_false,Bool.false_or,zH hb.1 (show iN s<=1000000000 by omega),gX]
   have xF:1<=sec (iN s)/\sec (iN s)<=1000:=by unfold sec;omega
   rw[bA (n:=at'+sec (iN s)) (by omega) (by omega)]
   by_cases CE:at'+sec (iN s)>d.half
   ·rw[decide_eq_true CE,bz,if_pos (.inr (.inr CE))]
   ·rw[decide_eq_false CE,bn,if_neg (by omega),zBO h hN lJ iM gV ha hb.1 (by omega) (by omega),au,dV]
    have gL:=PM h (rg*d.half+at'+1) (((iN s).toNat+63) / 64)
    have PL:d.gC (rg*d.half+at')=(nc d (rg*d.half+at'+1) (((iN s).toNat+63) / 64)).take (iN s).toNat:=by unfold Dk.gC;rw[hs]
    have e3:cE 0 (0+((iN s).toNat-0)) (nc d (rg*d.half+at'+1) (((iN s).toNat+63) / 64))=d.gC (rg*d.half+at'):=by
     rw[PL];unfold cE;simp
    simp only[e3]
    rw[aC (by omega),aC (by simp),aC (by omega),zjE _ _ (by rw[PL];simp;omega),au,aC (by omega)]
    simp
def Dk.my(d:Dk)(p:Int×Int)(r:Int):Int×Int:=
 if ((d.row r 0 1).2.2&&((d.row r 0 1).2.1.length:Int)==0)&&decide ((d.row r 0 1).1>p.2) then (r,(d.row r 0 1).1) else p
def Dk.nd(d:Dk)(rg:Int):Nat->Int->List (List Int)->Int×List (List Int)
 | 0,nx,rc=>(nx,rc)
 | f+1,nx,rc=>if (d.row rg nx 2).2.2=true/\(d.row rg nx 2).1=rc.length then d.nd rg f (nx+sec (d.row rg nx 2).2.1.length) (rc++[(d.row rg nx 2).2.1]) else (nx,rc)
theorem WZ{d:Dk}{N:Nat}(h:d.Ok N)(rg at' kind:Int)(ha:0<=at')(cR:(d.row rg at' kind).2.2=true):
  0<=(d.row rg at' kind).1/\(d.row rg at' kind).1<=4294967295/\(d.row rg at' kind).2.1.length<=16384/\at'+sec (d.row rg at' kind).2.1.length<=d.half/\bN (d.row rg at' kind).2.1:=by
 unfold Dk.row at cR ⊢
 split at cR
 ·simp at cR
 ·rename_i hc
  rw[if_neg hc]
  have hb:=zjO (h.dC (rg*d.half+at'))
  have hl:(d.gC (rg*d.half+at')).length=(iN (d.dC (rg*d.half+at'))).toNat:=by
   unfold Dk.gC
   rw[List.length_take,PM h]
   omega
  refine⟨hb.2.2.1,hb.2.2.2,by show (d.gC _).length<=_;omega,?_,fun c hc=>zBN h _ _ c (List.mem_of_mem_take hc)⟩
  show at'+sec ((d.gC (rg*d.half+at')).length:Int)<=d.half
  rw[hl,show (((iN (d.dC (rg*d.half+at'))).toNat:Nat):Int)=iN (d.dC (rg*d.half+at')) by omega]
  omega
theorem xH(n:Nat):1<=sec (n:Int):=by unfold sec;omega
theorem zBQ{d:Dk}{N:Nat}(h:d.Ok N)(hN:N<=100000000000)(lJ:d.down=false){rg tn:Int}(iM:0<=rg)(gV:rg<=1)(ht:0<tn)(br:Bool):∀ (f:Nat) (nx:Int) (rc:List (List Int)),1<=nx->nx<=257->d.half-nx<=f->(rc.length:Int)<=nx->
  BW (rg,tn,nx,br,d.left,d.fail,d.down,d.calls,d.kept,rc,d.wait,())=some (.inl (rg,tn,(d.nd rg f nx rc).1,br,d.left,d.fail,d.down,d.calls,d.kept,(d.nd rg f nx rc).2,d.wait,())):=by
 intro f
 have hk1:=h.k1
 have j7:d.half=(d.kept.length:Int) / 2:=rfl
 induction f with
 | zero=>
  intro nx rc h1 h2 h3 h4
  have fx:(d.row rg nx 2).2.2=false:=by unfold Dk.row;rw[if_pos (.inl (by omega))]
  unfold BW
  refine dm ?_
  show xj rg tn nx br d.left d.fail d.down d.calls d.kept rc d.wait=_
  unfold xj
  rw[decide_eq_true (by omega),bz,PN h hN lJ iM gV (by omega) (by omega),au]
  simp only[cc,aW,fx,Bool.not_false,Bool.true_or,bz]
  rw[aC (by simp)]
  rfl
 | succ f ih=>
  intro nx rc h1 h2 h3 h4
  unfold BW
  by_cases hc:(d.row rg nx 2).2.2=true/\(d.row rg nx 2).1=rc.length
  ·have hb:=WZ h rg nx 2 (by omega) hc.1
   have jY:=xH (d.row rg nx 2).2.1.length
   have W7:d.nd rg (f+1) nx rc=d.nd rg f (nx+sec (d.row rg nx 2).2.1.length) (rc++[(d.row rg nx 2).2.1]):=by
    show (if _ then _ else _)=_
    rw[if_pos hc]
   rw[W7]
   have:=ih (nx+sec (d.row rg nx 2).2.1.length) (rc++[(d.row rg nx 2).2.1]) (by omega) (by omega) (by omega) (by simp;omega)
   unfold BW at this
   rw[<-this]
   refine iI ?_
   show xj rg tn nx br d.left d.fail d.down d.calls d.kept rc d.wait=_
   unfold xj
   rw[decide_eq_true (by omega),bz,PN h hN lJ iM gV (by omega) (by omega),au]
   simp only[cc,aW,hc.1,hc.2,Bool.not_true,Bool.false_or,bne_self_eq_false,bn]
   rw[aC (by simp),aC (by show (rc.length+1)*24<=_;omega),zH (by omega) (by omega),au,bA (by simp only;omega) (by simp only;omega)]
  ·have W7:d.nd rg (f+1) nx rc=(nx,rc):=by
    show (if _ then _ else _)=_
    rw[if_neg hc]
   rw[W7]
   refine dm ?_
   show xj rg tn nx br d.left d.fail d.down d.calls d.kept rc d.wait=_
   unfold xj
   rw[decide_eq_true (by omega),bz,PN h hN lJ iM gV (by omega) (by omega),au]
   have Iz:(!(d.row rg nx 2).2.2||(d.row rg nx 2).1 != (rc.length:Int))=true:=by
    cases hh:(d.row rg nx 2).2.2
    ·rfl
    ·rw[hh] at hc
     have:(d.row rg nx 2).1≠(rc.length:Int):=fun hx=>hc ⟨rfl,hx⟩
     simpa using this
   simp only[cc,aW,Iz,bz]
   rw[aC (by simp)]
theorem zjR{d:Dk}{N:Nat}(h:d.Ok N)(hN:N<=100000000000)(lJ:d.down=false)(r:Nat)(hr:r<2)(p:Int×Int)(nx:Int)(br:Bool)(rc:List (List Int)):
  Ks (r:Int) p.1 p.2 nx br d.left d.fail d.down d.calls d.kept rc d.wait=some (.inl (((r+1:Nat):Int),(d.my p r).1,(d.my p r).2,nx,br,d.left,d.fail,d.down,d.calls,d.kept,rc,d.wait,())):=by
 unfold Ks Dk.my
 rw[decide_eq_true (by omega),bz,PN h hN lJ (by omega) (by omega) (by omega) (by omega),au]
 simp only[cc,aW]
 have hw:IntKind.i64.wrap ((r:Int)+1)=((r+1:Nat):Int):=by rw[bA (by omega) (by omega)];omega
 rw[hw]
 cases hc:(((d.row r 0 1).2.2&&((d.row r 0 1).2.1.length:Int)==0)&&decide ((d.row r 0 1).1>p.2))
 ·rw[bn,if_neg (by simp)]
 ·rw[bz,if_pos rfl]
def Dk.fp(d:Dk):Int×Int:=d.my (d.my (0,0) 0) 1
def Dk.found(d:Dk):Int×List (List Int):=if d.fp.2>0 then d.nd d.fp.1 256 1 [] else (1,[])
theorem W8{d:Dk}{N:Nat}(h:d.Ok N):0<=d.fp.1/\d.fp.1<=1/\0<=d.fp.2/\d.fp.2<=4294967295:=by
 have key:∀ (p:Int×Int) (r:Int),0<=r->r<=1->(0<=p.1/\p.1<=1/\0<=p.2/\p.2<=4294967295)->(0<=(d.my p r).1/\(d.my p r).1<=1/\0<=(d.my p r).2/\(d.my p r).2<=4294967295):=by
  intro p r h0 h1 hp
  unfold Dk.my
  split
  ·rename_i hc
   simp only[Bool.and_eq_true] at hc
   have:=WZ h r 0 1 (by omega) hc.1.1
   exact⟨h0,h1,this.1,this.2.1⟩
  ·exact hp
 exact key _ 1 (by omega) (by omega) (key _ 0 (by omega) (by omega) ⟨by omega,by omega,by omega,by omega⟩)
theorem zBR{d:Dk}{N:Nat}(h:d.Ok N)(hN:N<=100000000000)(lJ:d.down=false):
  Kt 0 0 0 false d.left d.fail d.down d.calls d.kept d.wait []=some (decide (((d.found).2.length:Int)>0),d.fp.1,d.fp.2,d.found.1,false,d.left,d.fail,d.down,d.calls,d.kept,d.found.2,d.wait,()):=by
 have hk1:=h.k1
 have j7:d.half=(d.kept.length:Int) / 2:=rfl
 have vc:UZ (0,0,0,0,false,d.left,d.fail,d.down,d.calls,d.kept,[],d.wait,())=some (.inl (d.fp.1,d.fp.2,0,false,d.left,d.fail,d.down,d.calls,d.kept,[],d.wait,())):=by
  unfold UZ
  refine (iI (show _=_ from zjR h hN lJ 0 (by omega) (0,0) 0 false [])).trans ?_
  refine (iI (show _=_ from zjR h hN lJ 1 (by omega) (d.my (0,0) 0) 0 false [])).trans ?_
  refine dm ?_
  show Ks ((2:Nat):Int) d.fp.1 d.fp.2 0 false d.left d.fail d.down d.calls d.kept [] d.wait=_
  unfold Ks
  rw[decide_eq_false (by omega),bn]
 have hb:=W8 h
 unfold Kt
 rw[vc,au,dV]
 simp only
 by_cases ht:d.fp.2>0
 ·have hf:d.found=d.nd d.fp.1 256 1 []:=if_pos ht
  rw[zBQ h hN lJ hb.1 hb.2.1 ht false 256 1 [] (by omega) (by omega) (by omega) (by simp),au,dV,hf]
 ·have hf:d.found=(1,[]):=if_neg ht
  have:BW (d.fp.1,d.fp.2,1,false,d.left,d.fail,d.down,d.calls,d.kept,[],d.wait,())=some (.inl (d.fp.1,d.fp.2,1,false,d.left,d.fail,d.down,d.calls,d.kept,[],d.wait,())):=by
   unfold BW
   refine dm ?_
   show xj d.fp.1 d.fp.2 1 false d.left d.fail d.down d.calls d.kept [] d.wait=_
   unfold xj
   rw[decide_eq_false ht,bn]
  rw[this,au,dV,hf]
def Dk.j8(d:Dk):Lg:=⟨d,d.fp.1,d.fp.2,d.found.1,d.found.2,false⟩
def Dk.bK(d:Dk):Int×Lg:=
 if d.half<4 then (12,d.j8) else if d.down=true then (9,d.j8) else
 if (d.found.2.length:Int)>0 then ((runs (i6 d.half d.fp.1 d.found.1) d).1,d.j8.set (runs (i6 d.half d.fp.1 d.found.1) d).2) else d.j8.dM []
theorem zBS{d:Dk}{N:Nat}(h:d.Ok N)(rg:Int):∀ (f:Nat) (nx:Int) (rc:List (List Int)),1<=nx->nx<=257->(rc.length:Int)<=nx->(∀ b∈rc,bN b/\b.length<=16384)->
  1<=(d.nd rg f nx rc).1/\(d.nd rg f nx rc).1<=257/\((d.nd rg f nx rc).2.length:Int)<=(d.nd rg f nx rc).1/\(∀ b∈(d.nd rg f nx rc).2,bN b/\b.length<=16384):=by
 intro f
 have hk1:=h.k1
 have j7:d.half=(d.kept.length:Int) / 2:=rfl
 induction f with
 | zero=>intro nx rc h1 h2 h3 h4;exact⟨h1,h2,h3,h4⟩
 | succ f ih=>
  intro nx rc h1 h2 h3 h4
  unfold Dk.nd
  split
  ·rename_i hc
   have hb:=WZ h rg nx 2 (by omega) hc.1
   have jY:=xH (d.row rg nx 2).2.1.length
   refine ih _ _ (by omega) (by omega) (by simp;omega) fun b Gl=>?_
   rcases List.mem_append.1 Gl with Gl | Gl
   ·exact h4 b Gl
   ·simp at Gl;subst Gl;exact⟨hb.2.2.2.2,hb.2.2.1⟩
  ·exact⟨h1,h2,h3,h4⟩
theorem PO{d:Dk}{N:Nat}(h:d.Ok N):1<=d.found.1/\d.found.1<=257/\(d.found.2.length:Int)<=d.found.1/\(∀ b∈d.found.2,bN b/\b.length<=16384):=by
 unfold Dk.found
 split
 ·exact zBS h _ 256 1 [] (by omega) (by omega) (by simp) (by simp)
 ·exact⟨by simp,by simp,by simp,by simp⟩
theorem zjS{d:Dk}{N:Nat}(h:d.Ok N):d.j8.Ok (N+4294967295):=by
 have a:=W8 h
 have b:=PO h
 exact⟨h.mono (by omega),a.1,a.2.1,by show 0<=d.found.1;omega,by show d.found.1<=1000;omega,a.2.2.1,by have:=a.2.2.2;show d.fp.2<=_;omega,b.2.2.1,b.2.2.2⟩
theorem zjT{d:Dk}{N:Nat}(h:d.Ok N)(hN:N<=1000000000):
  B1 d.left d.fail d.down d.calls d.kept d.wait=some (if d.bK.1=0 then
    .inl ((0:Int),d.bK.2.dk.left,d.bK.2.dk.fail,d.bK.2.dk.down,d.bK.2.dk.calls,d.bK.2.dk.kept,d.bK.2.rg,d.bK.2.tn,d.bK.2.nx,d.bK.2.br,d.bK.2.dk.wait,d.bK.2.rc,())
   else .inr (d.bK.1,d.bK.2.dk.left,d.bK.2.dk.fail,d.bK.2.dk.down,d.bK.2.dk.calls,d.bK.2.dk.kept,d.bK.2.dk.wait,())):=by
 have hk1:=h.k1
 have j7:d.half=(d.kept.length:Int) / 2:=rfl
 have vc:=zjS h
 unfold B1 Dk.bK
 rw[zI _ hk1,au]
 by_cases h4:d.half<4
 ·rw[decide_eq_true (by simp only;omega),bz,if_pos h4,if_neg (by simp)];rfl
 ·rw[decide_eq_false (by simp only;omega),bn,if_neg h4]
  unfold OJ
  rw[au]
  cases lJ:d.down
  ·simp only[bn,Bool.false_eq_true,if_false]
   have hf:=zBR h (by omega) lJ
   rw[lJ] at hf
   rw[hf,au]
   have a:=W8 h
   have b:=PO h
   by_cases kz:(d.found.2.length:Int)>0
   ·simp only[decide_eq_true kz,bz,if_pos kz]
    have c:=zjH (l:=d.j8) (rg:=d.fp.1) (at':=d.found.1) h (by omega) a.1 a.2.1 (by omega) (by omega)
    have c':BZ d.fp.1 d.found.1 d.fp.1 d.fp.2 d.found.1 false d.left d.fail false d.calls d.kept d.wait d.found.2=some (Lg.out (runs (i6 d.half d.fp.1 d.found.1) d).1 (d.j8.set (runs (i6 d.half d.fp.1 d.found.1) d).2)):=by
     rw[show d.j8.dk.down=false from lJ] at c;exact c
    rw[c',au]
    generalize runs (i6 d.half d.fp.1 d.found.1) d=r
    by_cases he:r.1=0
    ·simp only[Lg.out,Lg.set,aW,he,bne_self_eq_false,bn,if_true]
    ·simp only[Lg.out,Lg.set,aW,rS he,bz,if_neg he]
   ·simp only[decide_eq_false kz,bn,if_neg kz]
    have c:=WU (l:=d.j8) vc (by omega) CB (by simp)
    have c':zi [] d.fp.1 d.fp.2 d.found.1 false d.left d.fail false d.calls d.kept d.wait d.found.2=some (Lg.out (d.j8.dM []).1 (d.j8.dM []).2):=by
     rw[show d.j8.dk.down=false from lJ] at c;exact c
    rw[c',au]
    generalize d.j8.dM []=r
    by_cases he:r.1=0
    ·simp only[Lg.out,Lg.set,aW,he,bne_self_eq_false,bn,if_true]
    ·simp only[Lg.out,Lg.set,aW,rS he,bz,if_neg he]
  ·rw[bz,if_pos rfl,if_neg (by simp)]
   simp[Dk.j8,lJ]
structure Dk.Quiet(d:Dk):Prop where
 left:d.left=-1
 fail:d.fail=-1
 down:d.down=false
def fO.In(K:Int):fO->Prop
 | .w a _=>0<=a/\a<K
 | .f=>True
def fO.lA(f:Int->List Int):fO->Int->List Int
 | .w a s=>fun x=>if a=x then s else f x
 | .f=>f
def pJ(os:List fO)(f:Int->List Int):Int->List Int:=os.foldl (fun f o=>o.lA f) f
theorem Gm(a b:List fO)(f:Int->List Int):pJ (a++b) f=pJ b (pJ a f):=List.foldl_append ..
theorem zBT(x:Int)(hx:0<=x):∀ (ws:List (Int×List Int)) (k:List (List Int)),(∀ p∈ws,0<=p.1/\p.1<k.length)->(ws.foldl qy k).getD x.toNat zS=ws.foldl (pI x) (k.getD x.toNat zS):=by
 intro ws
 induction ws with
 | nil=>intro k _;rfl
 | cons w ws ih=>
  intro k h
  have hw:=h w (by simp)
  rw[List.foldl_cons,List.foldl_cons,ih _ (fun p hp=>by
   have:=h p (by simp[hp])
   unfold qy
   rw[List.length_set];exact this)]
  congr 1
  unfold qy pI
  rw[List.getD_eq_getElem?_getD,List.getD_eq_getElem?_getD,List.getElem?_set]
  by_cases NT:w.1=x
  ·subst NT
   rw[if_pos rfl,if_pos (by omega)]
   simp
  ·rw[if_neg (by omega)]
   rw[if_neg (by simpa using NT)]
theorem zBU{d:Dk}{N:Nat}(h:d.Ok N)(hq:d.Quiet)(o:fO)(hi:o.In d.kept.length):
  (o.run d).1=0/\(o.run d).2.Quiet/\(∀ x,0<=x->(o.run d).2.dC x=o.lA d.dC x)/\(o.run d).2.calls=d.calls+1:=by
 have hl:=hq.left
 have hf:=hq.fail
 have hd:=hq.down
 have he:d.err=0:=by unfold Dk.err;rw[hl,hf,hd];decide
 have Gn:d.called.Quiet:=by
  refine⟨?_,?_,?_⟩
  ·show less d.left=-1;rw[hl];decide
  ·show less d.fail=-1;rw[hf];decide
  ·show (d.down||d.left==0)=false;rw[hl,hd];decide
 cases o with
 | w a s=>
  have dD:¬ (a<0\/a>=(d.kept.length:Int)):=by have:=hi.1;have:=hi.2;omega
  have hr:fO.run d (.w a s)=(0,d.called.put a s):=by
   show d.dT a s=_
   unfold Dk.dT
   rw[hd,if_neg (by simp),if_neg dD,if_neg (by omega),he]
  rw[hr]
  refine⟨rfl,⟨Gn.left,Gn.fail,Gn.down⟩,fun x hx=>?_,rfl⟩
  show (d.wait++[(a,s)]).foldl (pI x) (d.kept.getD x.toNat zS)=_
  rw[List.foldl_append]
  show pI x (d.dC x) (a,s)=if a=x then s else d.dC x
  unfold pI
  by_cases hax:a=x
  ·simp[hax]
  ·simp[hax]
 | f=>
  have hr:fO.run d .f=(0,d.called.laid):=by
   show d.ix=_
   unfold Dk.ix
   rw[hd,if_neg (by simp),if_pos he]
  rw[hr]
  refine⟨rfl,⟨Gn.left,Gn.fail,Gn.down⟩,fun x hx=>?_,rfl⟩
  show (d.wait.foldl qy d.kept).getD x.toNat zS=_
  exact zBT x hx _ _ h.wi
theorem PQ:∀ (os:List fO) {d:Dk} {N:Nat},d.Ok N->d.Quiet->(∀ o∈os,o.Ok/\o.In d.kept.length)->
  (runs os d).1=0/\(runs os d).2.Quiet/\(∀ x,0<=x->(runs os d).2.dC x=pJ os d.dC x)/\(runs os d).2.calls=d.calls+os.length
 | [],d,N,h,hq,hi=>⟨rfl,hq,fun x hx=>rfl,by simp[runs]⟩
 | o::t,d,N,h,hq,hi=>by
  obtain⟨h1,h2,h3,h4⟩:=zBU h hq o (hi o (by simp)).2
  rw[uy,if_pos h1]
  have hk:=PI d o
  obtain⟨g1,g2,g3,g4⟩:=PQ t (h.run o (hi o (by simp)).1) h2 (fun p hp=>⟨(hi p (by simp[hp])).1,by rw[hk];exact (hi p (by simp[hp])).2⟩)
  refine⟨g1,g2,fun x hx=>?_,by rw[g4,h4];simp;omega⟩
  rw[g3 x hx]
  have key:∀ (os:List fO) (f g:Int->List Int),(∀ x,0<=x->f x=g x)->∀ x,0<=x->pJ os f x=pJ os g x:=by
   intro os
   induction os with
   | nil=>intro f g PR x hx;exact PR x hx
   | cons p t ih=>
    intro f g PR x hx
    show pJ t (p.lA f) x=pJ t (p.lA g) x
    refine ih _ _ (fun y hy=>?_) x hx
    cases p with
    | w a s=>show (if a=y then s else f y)=if a=y then s else g y;rw[PR y hy]
    | f=>exact PR y hy
  exact key t _ _ h3 x hx
theorem zjV(h rg:Int):∀ (m:Nat) (at':Int) (f:Int->List Int) (x:Int),pJ (iL h rg at' m) f x=if rg*h+at'<=x/\x<rg*h+at'+m then zS else f x
 | 0,at',f,x=>by
  rw[if_neg (by omega)];rfl
 | m+1,at',f,x=>by
  rw[zjF]
  show pJ (iL h rg (at'+1) m) (fO.lA f (.w (rg*h+at') zS)) x=_
  rw[zjV h rg m (at'+1)]
  show (if _ then zS else if rg*h+at'=x then zS else f x)=_
  by_cases h1:rg*h+(at'+1)<=x/\x<rg*h+(at'+1)+m
  ·rw[if_pos h1,if_pos (by omega)]
  ·rw[if_neg h1]
   by_cases h2:rg*h+at'=x
   ·rw[if_pos h2,if_pos (by omega)]
   ·rw[if_neg h2,if_neg (by omega)]
theorem W9(h rg at':Int)(f:Int->List Int)(x:Int):pJ (i6 h rg at') f x=if rg*h+at'<=x/\x<rg*h+at'+(h-at').toNat then zS else f x:=by
 unfold i6
 rw[Gm,<-zjV];rfl
theorem zjW(fr:Int)(b:List Int):∀ (m k:Nat) (f:Int->List Int) (x:Int),pJ (i7 fr b k m) f x=if fr+1+k<=x/\x<fr+1+k+m then gQ b (x-fr-1).toNat else f x
 | 0,k,f,x=>by rw[if_neg (by omega)];rfl
 | m+1,k,f,x=>by
  rw[zjK]
  show pJ (i7 fr b (k+1) m) (fO.lA f (.w (fr+1+(k:Int)) (gQ b k))) x=_
  rw[zjW fr b m (k+1)]
  show (if _ then _ else if fr+1+(k:Int)=x then gQ b k else f x)=_
  by_cases h1:fr+1+((k+1:Nat):Int)<=x/\x<fr+1+((k+1:Nat):Int)+m
  ·rw[if_pos h1,if_pos (by omega)]
  ·rw[if_neg h1]
   by_cases h2:fr+1+(k:Int)=x
   ·rw[if_pos h2,if_pos (by omega),show (x-fr-1).toNat=k by omega]
   ·rw[if_neg h2,if_neg (by omega)]
def kA(kind id:Int)(b:List Int):List (List Int):=jy kind id b::(List.range ((b.length+63) / 64)).map (gQ b)
theorem zL(kind id:Int)(b:List Int):((kA kind id b).length:Int)=sec b.length:=by
 unfold kA sec
 simp
 omega
theorem zjX(kind id:Int)(b:List Int)(k:Nat)(h:k<(b.length+63) / 64):(kA kind id b).getD (k+1) zS=gQ b k:=by
 unfold kA
 rw[List.getD_cons_succ,List.getD_eq_getElem?_getD,List.getElem?_map,List.getElem?_range h]
 rfl
theorem Gp(fr kind id:Int)(b:List Int)(f:Int->List Int)(x:Int):pJ (ij fr kind id b) f x=if fr<=x/\x<fr+sec b.length then (kA kind id b).getD (x-fr).toNat zS else f x:=by
 unfold ij
 rw[Gm]
 show (if fr=x then jy kind id b else pJ (i7 fr b 0 ((b.length+63) / 64)) f x)=_
 rw[zjW]
 have hs:sec b.length=1+(((b.length+63) / 64:Nat):Int):=by unfold sec;omega
 by_cases h1:fr=x
 ·rw[if_pos h1,if_pos (by omega),show (x-fr).toNat=0 by omega];rfl
 ·rw[if_neg h1]
  by_cases h2:fr+1+((0:Nat):Int)<=x/\x<fr+1+((0:Nat):Int)+(((b.length+63) / 64:Nat):Int)
  ·rw[if_pos h2,if_pos (by omega),show (x-fr).toNat=(x-fr-1).toNat+1 by omega,zjX _ _ _ _ (by omega)]
  ·rw[if_neg h2,if_neg (by omega)]
theorem zBV{n:Int}(h0:0<=n)(h1:n<65536):de (be n 2)=n:=by
 simp only[be,de,List.foldl_cons,List.foldl_nil]
 omega
theorem zBW{n:Int}(h0:0<=n)(h1:n<4294967296):de (be n 4)=n:=by
 simp only[be,de,List.foldl_cons,List.foldl_nil]
 omega
theorem zBX(kind id:Int){b:List Int}(hb:b.length<=16384):iN (jy kind id b)=b.length:=by
 have:(jy kind id b).take 2=be b.length 2:=by unfold jy;simp[List.take_append,cU]
 unfold iN
 rw[this]
 exact zBV (by omega) (by omega)
theorem zBY(kind:Int){id:Int}(h0:0<=id)(h1:id<4294967296)(b:List Int):xG (jy kind id b)=id:=by
 have:((jy kind id b).drop 2).take 4=be id 4:=by unfold jy;simp[List.take_append,List.drop_append,cU]
 unfold xG
 rw[this]
 exact zBW h0 h1
theorem zjY(b:List Int):∀ m:Nat,((List.range m).map (gQ b)).flatten=b.take (64*m)++List.replicate (64*m-b.length) 0
 | 0=>by simp
 | m+1=>by
  rw[List.range_succ,List.map_append,List.flatten_append,zjY b m]
  simp only[List.map_cons,List.map_nil,List.flatten_cons,List.flatten_nil,List.append_nil]
  unfold gQ bH
  simp only[List.take_zero,List.nil_append,List.length_drop]
  by_cases h:64*m<=b.length
  ·rw[show 64*m-b.length=0 by omega,List.replicate_zero,List.append_nil,<-List.append_assoc]
   rw[show 64*(m+1)=64*m+64 by omega,List.take_add]
   rw[List.drop_replicate]
   congr 2
   omega
  ·rw[List.drop_eq_nil_of_le (by omega),List.take_nil,List.nil_append,List.take_of_length_le (by omega),List.take_of_length_le (by omega),List.append_assoc,List.drop_replicate,List.replicate_append_replicate]
   congr 2
   omega
theorem zjZ{d:Dk}{rg at' kind id:Int}{b:List Int}(ha:0<=at')(gL:b.length<=16384)(yl:0<=id)(AU:id<4294967296)(hin:at'+sec b.length<=d.half)
  (fx:∀ j:Nat,(j:Int)<sec b.length->d.dC (rg*d.half+at'+j)=(kA kind id b).getD j zS):d.row rg at' kind=(id,b,true):=by
 have hs:sec b.length=1+(((b.length+63) / 64:Nat):Int):=by unfold sec;omega
 have h0:d.dC (rg*d.half+at')=jy kind id b:=by
  have:=fx 0 (by omega)
  rw[show rg*d.half+at'+((0:Nat):Int)=rg*d.half+at' by omega] at this
  exact this
 have hN:=zBX kind id gL
 have hI:=zBY kind yl AU b
 have hB:d.gC (rg*d.half+at')=b:=by
  unfold Dk.gC
  rw[h0,hN,Int.toNat_natCast]
  have:nc d (rg*d.half+at'+1) ((b.length+63) / 64)=((List.range ((b.length+63) / 64)).map (gQ b)).flatten:=by
   unfold nc
   congr 1
   refine List.map_congr_left fun j hj=>?_
   have hj:=List.mem_range.1 hj
   have:=fx (j+1) (by omega)
   rw[zjX _ _ _ _ hj] at this
   rw[<-this]
   congr 1
   omega
  rw[this,zjY,List.take_append,List.take_take]
  rw[show min b.length (64*((b.length+63) / 64))=b.length by omega,List.take_length]
  have hz:b.length-(b.take (64*((b.length+63) / 64))).length=0:=by rw[List.length_take];omega
  rw[hz,List.take_zero,List.append_nil]
 unfold Dk.row
 rw[h0,hN,if_neg (by omega),hI,hB]
 simp
theorem Xa{d:Dk}{rg at' kind:Int}(h:at'<d.half->d.dC (rg*d.half+at')=zS):(d.row rg at' kind).2.2=false:=by
 unfold Dk.row
 split
 ·rfl
 ·rename_i hc
  rw[h (by omega)]
  show (zS==jy kind (xG zS) (d.gC (rg*d.half+at')))=false
  rw[beq_eq_false_iff_ne]
  intro he
  have h11:zS.getD 11 0=197:=by
   rw[he]
   unfold jy
   simp only[be]
   rfl
  exact absurd h11 (by decide)
theorem zB0{d e:Dk}(hk:e.kept.length=d.kept.length){rg:Int}(hs:∀ j:Int,0<=j->j<d.half->e.dC (rg*d.half+j)=d.dC (rg*d.half+j)){at':Int}(ha:0<=at')(kind:Int):e.row rg at' kind=d.row rg at' kind:=by
 have hh:e.half=d.half:=by unfold Dk.half;rw[hk]
 unfold Dk.row
 rw[hh]
 by_cases h1:at'>=d.half
 ·rw[if_pos (.inl h1),if_pos (.inl h1)]
 ·rw[hs at' ha (by omega)]
  by_cases h2:at'>=d.half\/iN (d.dC (rg*d.half+at'))>16384\/at'+sec (iN (d.dC (rg*d.half+at')))>d.half
  ·rw[if_pos h2,if_pos h2]
  ·rw[if_neg h2,if_neg h2]
   have hB:e.gC (rg*d.half+at')=d.gC (rg*d.half+at'):=by
    unfold Dk.gC
    rw[hs at' ha (by omega)]
    congr 1
    unfold nc
    congr 1
    refine List.map_congr_left fun j hj=>?_
    have hj:=List.mem_range.1 hj
    have xF:sec (iN (d.dC (rg*d.half+at')))=1+(iN (d.dC (rg*d.half+at'))+63) / 64:=rfl
    have:=hs (at'+1+j) (by omega) (by omega)
    rw[show rg*d.half+(at'+1+(j:Int))=rg*d.half+at'+1+j by omega] at this
    exact this
   rw[hB]
def jR:Nat->List (List Int)->List (List Int)
 | _,[]=>[]
 | i,b::t=>kA 2 i b++jR (i+1) t
def gD(tn:Int)(rc:List (List Int)):List (List Int):=kA 1 tn []++jR 0 rc
theorem zj0(b:List Int):∀ (rc:List (List Int)) (i:Nat),jR i (rc++[b])=jR i rc++kA 2 ((i+rc.length:Nat):Int) b
 | [],i=>by simp[jR]
 | c::t,i=>by
  rw[List.cons_append,jR,jR,zj0 b t (i+1),List.append_assoc]
  rw[show i+1+t.length=i+(c::t).length by simp;omega]
theorem Xb(tn:Int)(rc:List (List Int))(b:List Int):gD tn (rc++[b])=gD tn rc++kA 2 rc.length b:=by
 unfold gD
 rw[zj0,<-List.append_assoc,Nat.zero_add]
theorem Lw{α:Type}(a b:List α)(k:Nat)(z:α):(a++b).getD k z=if k<a.length then a.getD k z else b.getD (k-a.length) z:=by
 rw[List.getD_eq_getElem?_getD,List.getD_eq_getElem?_getD,List.getD_eq_getElem?_getD,List.getElem?_append]
 split<;>rfl
theorem PS{α:Type}(a:List α){k:Nat}(z:α)(h:a.length<=k):a.getD k z=z:=by
 rw[List.getD_eq_getElem?_getD,List.getElem?_eq_none h];rfl
structure tp(d:Dk)(rg tn:Int)(rc:List (List Int)):Prop where
 r0:0<=rg
 r1:rg<=1
 t0:1<=tn
 t1:tn<4294967296
 len:((gD tn rc).length:Int)<=d.half
 Gq:∀ k:Nat,(k:Int)<d.half->d.dC (rg*d.half+k)=(gD tn rc).getD k zS
 other:(d.row (1-rg) 0 1).2.2=true->(d.row (1-rg) 0 1).2.1.length=0->(d.row (1-rg) 0 1).1<tn
 ig:∀ b∈rc,bN b/\b.length<=16384
theorem zj1(kind id:Int)(b:List Int):1<=(kA kind id b).length:=by unfold kA;simp
theorem zj2:∀ (rc:List (List Int)) (i:Nat),rc.length<=(jR i rc).length
 | [],i=>by simp
 | b::t,i=>by
  rw[jR,List.length_append,List.length_cons]
  have:=zj2 t (i+1)
  have:=zj1 2 i b
  omega
theorem zB1{d:Dk}(rg:Int)(hk:d.half<=256):∀ (rest:List (List Int)) (f:Nat) (nx:Int) (pre:List (List Int)),0<=nx->rest.length<=f->(∀ b∈rest,b.length<=16384)->pre.length+rest.length<=100000->nx+(jR pre.length rest).length<=d.half->
  (∀ j:Nat,nx+(j:Int)<d.half->d.dC (rg*d.half+nx+j)=(jR pre.length rest).getD j zS)->d.nd rg f nx pre=(nx+(jR pre.length rest).length,pre++rest):=by
 intro rest
 induction rest with
 | nil=>
  intro f nx pre h0 hf hb hl hn hs
  have fx:(d.row rg nx 2).2.2=false:=Xa fun h=>by
   have:=hs 0 (by omega)
   rw[show rg*d.half+nx+((0:Nat):Int)=rg*d.half+nx by omega] at this
   exact this
  cases f with
  | zero=>simp[Dk.nd,jR]
  | succ f=>
   unfold Dk.nd
   rw[fx,if_neg (by simp)]
   simp[jR]
 | cons b t ih=>
  intro f nx pre h0 hf hb hl hn hs
  cases f with
  | zero=>simp at hf
  | succ f=>
   have uz:=zL 2 (pre.length:Int) b
   have hlen:((jR pre.length (b::t)).length:Int)=sec b.length+(jR (pre.length+1) t).length:=by
    rw[jR,List.length_append];omega
   have fx:d.row rg nx 2=((pre.length:Int),b,true):=by
    refine zjZ h0 (hb b (by simp)) (by omega) (by simp at hl;omega) (by omega) fun j hj=>?_
    rw[hs j (by omega),jR,Lw,if_pos (by omega)]
   unfold Dk.nd
   rw[fx,if_pos ⟨rfl,rfl⟩]
   simp only
   have:=ih f (nx+sec b.length) (pre++[b]) (by have:=xH b.length;omega) (by simp at hf;omega) (fun c hc=>hb c (by simp[hc])) (by simp at hl ⊢;omega)
    (by rw[show (pre++[b]).length=pre.length+1 by simp];omega) (fun j hj=>by
     have jY:=xH b.length
     have h3:=hs ((kA 2 (pre.length:Int) b).length+j) (by omega)
     rw[jR,Lw,if_neg (by omega),show (kA 2 (pre.length:Int) b).length+j-(kA 2 (pre.length:Int) b).length=j by omega] at h3
     rw[show (pre++[b]).length=pre.length+1 by simp,<-h3]
     congr 1
     omega)
   rw[this,show (pre++[b]).length=pre.length+1 by simp,hlen]
   refine Prod.ext ?_ ?_
   ·show nx+sec b.length+_=nx+(sec b.length+_);omega
   ·simp
theorem tp.zj3{d:Dk}{rg tn:Int}{rc:List (List Int)}(h:tp d rg tn rc):d.row rg 0 1=(tn,[],true):=by
 have hl:=h.len
 have:1<=(gD tn rc).length:=by unfold gD;rw[List.length_append];have:=zj1 1 tn [];omega
 have hs:sec (([]:List Int).length:Int)=1:=by unfold sec;simp
 refine zjZ (by omega) (by simp) (by have:=h.t0;omega) h.t1 (by rw[hs];omega) fun j hj=>?_
 rw[hs] at hj
 have o9:j=0:=by omega
 subst o9
 have:=h.Gq 0 (by omega)
 rw[show rg*d.half+0+((0:Nat):Int)=rg*d.half+((0:Nat):Int) by omega,this]
 rfl
theorem tp.find{d:Dk}{rg tn:Int}{rc:List (List Int)}(h:tp d rg tn rc)(hk:d.half<=256):d.fp=(rg,tn)/\d.found=(((gD tn rc).length:Int),rc):=by
 have hh:=h.zj3
 have zJ:=h.t0
 have yn:d.fp=(rg,tn):=by
  have hr:rg=0\/rg=1:=by have:=h.r0;have:=h.r1;omega
  have oth:∀ p:Int×Int,p.2<tn->∀ r,r=1-rg->(d.my p r).2<tn:=by
   intro p hp r hr
   unfold Dk.my
   split
   ·rename_i hc
    simp only[Bool.and_eq_true,beq_iff_eq] at hc
    subst hr
    exact h.other hc.1.1 (by have:=hc.1.2;omega)
   ·exact hp
  have zj4:∀ p:Int×Int,p.2<tn->d.my p rg=(rg,tn):=by
   intro p hp
   unfold Dk.my
   rw[hh,if_pos (by simp;omega)]
  have keep:∀ r,r=1-rg->d.my (rg,tn) r=(rg,tn):=by
   intro r hr
   unfold Dk.my
   rw[if_neg]
   intro hc
   simp only[Bool.and_eq_true,beq_iff_eq,decide_eq_true_eq] at hc
   subst hr
   have:=h.other hc.1.1 (by have:=hc.1.2;omega)
   omega
  unfold Dk.fp
  rcases hr with rfl | rfl
  ·rw[zj4 (0,0) (by show (0:Int)<tn;omega)]
   exact keep 1 (by omega)
  ·exact zj4 _ (oth (0,0) (by show (0:Int)<tn;omega) 0 (by omega))
 refine⟨yn,?_⟩
 unfold Dk.found
 rw[yn,if_pos (show tn>0 by omega)]
 have uz:=zj2 rc 0
 have h1:(kA 1 tn ([]:List Int)).length=1:=by unfold kA;simp
 have RS:(gD tn rc).length=1+(jR 0 rc).length:=by unfold gD;rw[List.length_append,h1]
 have hl:=h.len
 have:=zB1 (d:=d) rg hk rc 256 1 [] (by omega) (by omega) (fun b hb=>(h.ig b hb).2) (by simp;omega) (by simp;omega) (fun j hj=>by
  have:=h.Gq (1+j) (by omega)
  unfold gD at this
  rw[Lw,h1,if_neg (by omega),show 1+j-1=j by omega] at this
  rw[show rg*d.half+1+(j:Int)=rg*d.half+((1+j:Nat):Int) by omega,this]
  rfl)
 rw[this,RS]
 refine Prod.ext ?_ (by simp)
 show 1+((jR 0 rc).length:Int)=_
 omega
theorem Xc{d e:Dk}{rg tn tn':Int}(hk:e.kept.length=d.kept.length)(hs:∀ j:Int,0<=j->j<d.half->e.dC (rg*d.half+j)=d.dC (rg*d.half+j))(ht:tn<=tn')
  (h:(d.row rg 0 1).2.2=true->(d.row rg 0 1).2.1.length=0->(d.row rg 0 1).1<tn):(e.row rg 0 1).2.2=true->(e.row rg 0 1).2.1.length=0->(e.row rg 0 1).1<tn':=by
 rw[zB0 hk hs (by omega)]
 intro h1 h2
 have:=h h1 h2
 omega
theorem xI{d:Dk}{rg j:Int}(h0:0<=rg)(h1:rg<=1)(o9:0<=j)(hj:j<d.half):0<=rg*d.half+j/\rg*d.half+j<d.kept.length:=by
 have h2:=WY d
 have:rg=0\/rg=1:=by omega
 rcases this with rfl | rfl<;>omega
theorem zj6{d:Dk}{rg at':Int}(h0:0<=rg)(h1:rg<=1)(ha:0<=at'):∀ o∈i6 d.half rg at',o.Ok/\o.In d.kept.length:=by
 intro o ho
 refine⟨Ls _ _ _ o ho,?_⟩
 rcases List.mem_append.1 ho with ho | ho
 ·obtain⟨k,hk,rfl⟩:=List.mem_map.1 ho
  have hk:=List.mem_range.1 hk
  exact xI h0 h1 (by omega) (by omega)
 ·simp at ho;subst ho;trivial
theorem Xd{d:Dk}{rg at' kind id:Int}{b:List Int}(hb:bN b)(h0:0<=rg)(h1:rg<=1)(ha:0<=at')(hin:at'+sec b.length<=d.half):∀ o∈ij (rg*d.half+at') kind id b,o.Ok/\o.In d.kept.length:=by
 have hs:sec b.length=1+(((b.length+63) / 64:Nat):Int):=by unfold sec;omega
 intro o ho
 refine⟨Lt hb _ _ _ o ho,?_⟩
 rcases List.mem_append.1 ho with ho | ho
 ·obtain⟨k,hk,rfl⟩:=List.mem_map.1 ho
  have hk:=List.mem_range.1 hk
  have:=xI (d:=d) (j:=at'+1+((0+k:Nat):Int)) h0 h1 (by omega) (by omega)
  show 0<=rg*d.half+at'+1+((0+k:Nat):Int)/\rg*d.half+at'+1+((0+k:Nat):Int)<_
  omega
 ·simp at ho
  rcases ho with rfl | rfl | rfl
  ·trivial
  ·exact xI h0 h1 ha (by have:=xH b.length;omega)
  ·trivial
theorem zj7{d:Dk}{rg j k:Int}(h0:0<=rg)(h1:rg<=1)(o9:0<=j)(hj:j<d.half)(NP:0<=k)(hk:k<d.half):(1-rg)*d.half+j≠rg*d.half+k:=by
 have:rg=0\/rg=1:=by omega
 rcases this with rfl | rfl<;>omega
theorem tp.app{l:Lg}{N:Nat}(hl:l.Ok N)(hq:l.dk.Quiet)(h:tp l.dk l.rg l.tn l.rc)(hnx:l.nx=(gD l.tn l.rc).length)(vP:l.br=false){b:List Int}(hb:bN b)(gL:b.length<=16384)(hin:l.nx+sec b.length<=l.dk.half):
  (l.app b).1=0/\(l.app b).2.dk.Quiet/\(l.app b).2.rg=l.rg/\(l.app b).2.tn=l.tn/\(l.app b).2.rc=l.rc++[b]/\(l.app b).2.br=false/\(l.app b).2.nx=(gD l.tn (l.rc++[b])).length/\tp (l.app b).2.dk l.rg l.tn (l.rc++[b])/\(l.app b).2.dk.kept.length=l.dk.kept.length/\(l.app b).2.dk.calls>l.dk.calls/\(l.app b).2.dk.calls<=l.dk.calls+1000:=by
 have hs:=xH b.length
 have jq:0<=l.nx:=hl.n0
 have r:=PQ (ij (l.rg*l.dk.half+l.nx) 2 l.rc.length b) hl.dk hq (Xd hb h.r0 h.r1 jq hin)
 have hkl:=Cz (ij (l.rg*l.dk.half+l.nx) 2 l.rc.length b) l.dk
 have hA:runs (ij (l.rg*l.dk.half+l.nx) 2 l.rc.length b) l.dk=l.kx b:=rfl
 rw[hA] at r hkl
 have zB4:l.app b=(0,{ l with dk:=(l.kx b).2,nx:=l.nx+sec b.length,rc:=l.rc++[b] }):=by
  unfold Lg.app
  rw[vP,if_neg (by simp),if_neg (by omega),if_neg (by omega),if_pos r.1]
 rw[zB4]
 have jG:(ij (l.rg*l.dk.half+l.nx) 2 l.rc.length b).length<=1000:=CC _ _ _ _ gL
 have zGE:1<=(ij (l.rg*l.dk.half+l.nx) 2 l.rc.length b).length:=by simp[ij]
 have uz:=zL 2 (l.rc.length:Int) b
 have sy:((gD l.tn (l.rc++[b])).length:Int)=l.nx+sec b.length:=by rw[Xb,List.length_append,hnx];omega
 have j7:(l.kx b).2.half=l.dk.half:=by unfold Dk.half;show ((l.kx b).2.kept.length:Int) / 2=_;rw[show (l.kx b).2.kept.length=l.dk.kept.length from hkl]
 refine⟨rfl,r.2.1,rfl,rfl,rfl,vP,sy.symm,⟨h.r0,h.r1,h.t0,h.t1,by show _<=(l.kx b).2.half;rw[j7];omega,fun k hk=>?_,?_,fun c hc=>?_⟩,hkl,?_,?_⟩
 ·show (l.kx b).2.dC (l.rg*(l.kx b).2.half+k)=_
  have hk:(k:Int)<(l.kx b).2.half:=hk
  rw[j7] at hk ⊢
  have jD:=xI (d:=l.dk) h.r0 h.r1 (show 0<=(k:Int) by omega) hk
  rw[r.2.2.1 _ jD.1,Gp,Xb,Lw]
  by_cases h1:(k:Int)<l.nx
  ·rw[if_neg (by omega),if_pos (by omega)]
   exact h.Gq k hk
  ·rw[if_neg (show ¬ k<(gD l.tn l.rc).length by omega)]
   by_cases h2:(k:Int)<l.nx+sec b.length
   ·rw[if_pos (by omega),show (l.rg*l.dk.half+(k:Int)-(l.rg*l.dk.half+l.nx)).toNat=k-(gD l.tn l.rc).length by omega]
   ·rw[if_neg (by omega),h.Gq k hk,PS _ _ (by omega),PS _ _ (by omega)]
 ·refine Xc (d:=l.dk) hkl (fun j o9 hj=>?_) (Int.le_refl _) h.other
  have jD:=xI (d:=l.dk) (rg:=1-l.rg) (by have:=h.r1;omega) (by have:=h.r0;omega) o9 hj
  show (l.kx b).2.dC _=_
  rw[r.2.2.1 _ jD.1,Gp,if_neg]
  intro hc
  have:=zj7 (d:=l.dk) (rg:=l.rg) (j:=j) (k:=(1-l.rg)*l.dk.half+j-l.rg*l.dk.half) h.r0 h.r1 o9 hj (by omega) (by omega)
  omega
 ·rcases List.mem_append.1 hc with hc | hc
  ·exact h.ig c hc
  ·simp at hc;subst hc;exact⟨hb,gL⟩
 ·show (l.kx b).2.calls>_;rw[show (l.kx b).2.calls=_ from r.2.2.2];omega
 ·show (l.kx b).2.calls<=_;rw[show (l.kx b).2.calls=_ from r.2.2.2];omega
theorem zj8{l:Lg}{N:Nat}(hl:l.Ok N)(hq:l.dk.Quiet)(ht:l.tn+1<4294967296)(zB5:(l.dk.row l.rg 0 1).2.2=true->(l.dk.row l.rg 0 1).2.1.length=0->(l.dk.row l.rg 0 1).1<l.tn+1)(vP:l.br=false){b:List Int}(hb:bN b)(gL:b.length<=16384)(hin:1+sec b.length<=l.dk.half):
  (l.dM b).1=0/\(l.dM b).2.dk.Quiet/\(l.dM b).2.rg=1-l.rg/\(l.dM b).2.tn=l.tn+1/\(l.dM b).2.rc=[b]/\(l.dM b).2.br=false/\(l.dM b).2.nx=(gD (l.tn+1) [b]).length/\tp (l.dM b).2.dk (1-l.rg) (l.tn+1) [b]/\(l.dM b).2.dk.kept.length=l.dk.kept.length/\(l.dM b).2.dk.calls>l.dk.calls/\(l.dM b).2.dk.calls<=l.dk.calls+4000:=by
 have hs:=xH b.length
 have iM:=hl.r0
 have gV:=hl.r1
 have zJ:=hl.t0
 have hk1:=hl.dk.k1
 have zB6:l.dk.half=(l.dk.kept.length:Int) / 2:=rfl
 have hU:sec (([]:List Int).length:Int)=1:=by unfold sec;simp
 have r:=PQ (l.oK b) hl.dk hq (fun o ho=>by
  rcases List.mem_append.1 ho with ho | ho
  ·exact zj6 (by omega) (by omega) (by omega) o ho
  ·rcases List.mem_append.1 ho with ho | ho
   ·exact Xd hb (by omega) (by omega) (by omega) (by omega) o ho
   ·exact Xd CB (by omega) (by omega) (by omega) (by rw[hU];omega) o ho)
 have hkl:=Cz (l.oK b) l.dk
 have hA:runs (l.oK b) l.dk=l.ky b:=rfl
 rw[hA] at r hkl
 have zB7:l.dM b=(0,⟨(l.ky b).2,1-l.rg,l.tn+1,1+sec b.length,[b],l.br⟩):=by
  unfold Lg.dM
  rw[vP,if_neg (by simp),if_neg (by omega),if_neg (by omega),if_pos r.1]
 rw[zB7]
 have Lx:=Gk l.dk.half (1-l.rg) 0 (by omega)
 have PT:=CC ((1-l.rg)*l.dk.half+1) 2 0 b gL
 have hc3:=CC ((1-l.rg)*l.dk.half+0) 1 (l.tn+1) [] (by simp)
 have hc4:1<=(i6 l.dk.half (1-l.rg) 0).length:=by simp[i6]
 have dh:(l.oK b).length=(i6 l.dk.half (1-l.rg) 0).length+((ij ((1-l.rg)*l.dk.half+1) 2 0 b).length+(ij ((1-l.rg)*l.dk.half+0) 1 (l.tn+1) []).length):=by unfold Lg.oK;rw[List.length_append,List.length_append]
 have uz:=zL 2 (0:Int) b
 have h1:(kA 1 (l.tn+1) ([]:List Int)).length=1:=by unfold kA;simp
 have zj9:gD (l.tn+1) [b]=kA 1 (l.tn+1) []++kA 2 0 b:=by unfold gD;simp[jR]
 have sy:((gD (l.tn+1) [b]).length:Int)=1+sec b.length:=by rw[zj9,List.length_append,h1];omega
 have j7:(l.ky b).2.half=l.dk.half:=by unfold Dk.half;show ((l.ky b).2.kept.length:Int) / 2=_;rw[show (l.ky b).2.kept.length=l.dk.kept.length from hkl]
 refine⟨rfl,r.2.1,rfl,rfl,rfl,vP,sy.symm,⟨by omega,by omega,by omega,ht,by show _<=(l.ky b).2.half;rw[j7];omega,fun k hk=>?_,?_,fun c hc=>?_⟩,hkl,?_,?_⟩
 ·show (l.ky b).2.dC ((1-l.rg)*(l.ky b).2.half+k)=_
  have hk:(k:Int)<(l.ky b).2.half:=hk
  rw[j7] at hk ⊢
  have jD:=xI (d:=l.dk) (rg:=1-l.rg) (by omega) (by omega) (show 0<=(k:Int) by omega) hk
  rw[r.2.2.1 _ jD.1]
  unfold Lg.oK
  rw[Gm,Gm,Gp,Gp,W9,zj9,Lw,h1,hU]
  by_cases h2:k=0
  ·subst h2
   rw[if_pos (by omega),if_pos (by omega),show ((1-l.rg)*l.dk.half+((0:Nat):Int)-((1-l.rg)*l.dk.half+0)).toNat=0 by omega]
  ·rw[if_neg (by omega),if_neg (show ¬ k<1 by omega)]
   by_cases h3:(k:Int)<1+sec b.length
   ·rw[if_pos (by omega),show ((1-l.rg)*l.dk.half+(k:Int)-((1-l.rg)*l.dk.half+1)).toNat=k-1 by omega]
   ·rw[if_neg (by omega),if_pos (by omega),PS _ _ (by omega)]
 ·rw[show 1-(1-l.rg)=l.rg by omega]
  refine Xc (d:=l.dk) hkl (fun j o9 hj=>?_) (Int.le_refl _) zB5
  have jD:=xI (d:=l.dk) (rg:=l.rg) iM gV o9 hj
  show (l.ky b).2.dC _=_
  have mM:∀ k,0<=k->k<l.dk.half->l.rg*l.dk.half+j≠(1-l.rg)*l.dk.half+k:=fun k h0 h1 hh=>zj7 (d:=l.dk) (rg:=l.rg) (j:=k) (k:=j) iM gV h0 h1 o9 hj hh.symm
  rw[r.2.2.1 _ jD.1]
  unfold Lg.oK
  have e1:=mM (l.rg*l.dk.half+j-(1-l.rg)*l.dk.half)
  rw[Gm,Gm,Gp,Gp,W9,hU]
  rw[if_neg (fun hc=>e1 (by omega) (by omega) (by omega)),if_neg (fun hc=>e1 (by omega) (by omega) (by omega)),if_neg (fun hc=>e1 (by omega) (by omega) (by omega))]
 ·simp at hc;subst hc;exact⟨hb,gL⟩
 ·show (l.ky b).2.calls>_;rw[show (l.ky b).2.calls=_ from r.2.2.2];omega
 ·show (l.ky b).2.calls<=_;rw[show (l.ky b).2.calls=_ from r.2.2.2];omega
theorem tp.bK{d:Dk}{N:Nat}(hd:d.Ok N)(hq:d.Quiet){rg tn:Int}{rc:List (List Int)}(h:tp d rg tn rc)(h4:4<=d.half)(eW:rc≠[]):
  d.bK.1=0/\d.bK.2.dk.Quiet/\d.bK.2.rg=rg/\d.bK.2.tn=tn/\d.bK.2.rc=rc/\d.bK.2.br=false/\d.bK.2.nx=(gD tn rc).length/\tp d.bK.2.dk rg tn rc/\d.bK.2.dk.kept.length=d.kept.length/\d.bK.2.dk.calls>=d.calls/\d.bK.2.dk.calls<=d.calls+1001:=by
 have hk1:=hd.k1
 have zB6:d.half=(d.kept.length:Int) / 2:=rfl
 obtain⟨f1,f2⟩:=h.find (by omega)
 have kz:(rc.length:Int)>0:=by
  cases rc with
  | nil=>exact absurd rfl eW
  | cons b t=>simp
 have iM:=h.r0
 have gV:=h.r1
 have hlen:=h.len
 have r:=PQ (i6 d.half rg ((gD tn rc).length:Int)) hd hq (zj6 iM gV (by omega))
 have hkl:=Cz (i6 d.half rg ((gD tn rc).length:Int)) d
 have bT:d.bK=(0,⟨(runs (i6 d.half rg ((gD tn rc).length:Int)) d).2,rg,tn,(gD tn rc).length,rc,false⟩):=by
  unfold Dk.bK
  rw[if_neg (by omega),hq.down,if_neg (by simp),f2,if_pos kz,f1]
  simp only
  rw[r.1]
  unfold Dk.j8 Lg.set
  rw[f1,f2]
 rw[bT]
 have Lx:=Gk d.half rg ((gD tn rc).length:Int) (by omega)
 generalize hD:(runs (i6 d.half rg ((gD tn rc).length:Int)) d).2=e at*
 have j7:e.half=d.half:=by unfold Dk.half;rw[hkl]
 have zka:∀ x:Int,0<=x->x<d.kept.length->e.dC x=d.dC x:=by
  intro x h0 hx
  rw[r.2.2.1 x h0,W9]
  split
  ·rename_i hc
   have:=h.Gq (x-rg*d.half).toNat (by omega)
   rw[show rg*d.half+(((x-rg*d.half).toNat:Nat):Int)=x by omega,PS _ _ (by omega)] at this
   exact this.symm
  ·rfl
 refine⟨rfl,r.2.1,rfl,rfl,rfl,rfl,rfl,⟨iM,gV,h.t0,h.t1,by rw[j7];exact hlen,fun k hk=>?_,?_,h.ig⟩,hkl,?_,?_⟩
 ·show e.dC (rg*e.half+k)=_
  have hk:(k:Int)<e.half:=hk
  rw[j7] at hk ⊢
  have jD:=xI (d:=d) iM gV (show 0<=(k:Int) by omega) hk
  rw[zka _ jD.1 jD.2]
  exact h.Gq k hk
 ·refine Xc (d:=d) hkl (fun j o9 hj=>?_) (Int.le_refl _) h.other
  have jD:=xI (d:=d) (rg:=1-rg) (by omega) (by omega) o9 hj
  exact zka _ jD.1 jD.2
 ·show e.calls>=_;rw[r.2.2.2];omega
 ·show e.calls<=_;rw[r.2.2.2];omega
end Go.Tr
