/- Regions, in the order of the text. Regions whose order is open: whatever the order, they come to what the order of the text comes to. Code: what the evaluator says of it is what the model does; loops; states that say less. Conditions: none but those that each theorem states. -/
import Derived.Test.YtploofmfghjijaaGreatBB
import Derived.Tactics
import Derived.Deep.LoopGhost
namespace Go.Tr
open Go
universe u
set_option linter.unusedVariables false
set_option linter.unusedSimpArgs false
def Ef:AV->AV
 | .ite true a _=>a
 | .ite false _ b=>b
 | v=>v
theorem zn1{E:Env}{v:AV}{x:Value}(h:VR E v x):VR E (Ef v) x:=by
 cases v<;>try exact h
 case ite c a b=>
  simp only[VR] at h
  cases c
  ·exact h.2 rfl
  ·exact h.1 rfl
theorem zn2{p:Nat->Prop}{v:AV}(h:v.nm p):(Ef v).nm p:=by
 cases v<;>try exact h
 case ite c a b=>
  simp only[AV.nm] at h
  cases c
  ·exact h.2
  ·exact h.1
theorem zn3{v:AV}{k:AV->Prop}(h:Aq v k):k (Ef v):=by
 unfold Aq at h
 split at h
 ·rename_i c a b
  cases c
  ·have:=h.2 rfl;rwa [jU] at this
  ·have:=h.1 rfl;rwa [jU] at this
 ·rename_i eW
  cases v<;>first | exact h | exact absurd rfl (eW _ _ _)
theorem Ob.iff{p:Prop}:Ob p ↔ p:=⟨fun h=>h.out,fun h=>⟨h⟩⟩
theorem HS{eU:List Prop}{q:Prop}:Ao eU q ↔ (∀ p∈eU,p)/\q:=by
 induction eU with
 | nil=>simp[zl7]
 | cons p r ih=>simp only[zl8,Ob.iff,ih,List.mem_cons,forall_eq_or_imp,and_assoc]
theorem wL{c:Bool}{eU:List Prop}{q:Prop}:DE c eU q ↔ (c=true->∀ p∈eU,p)/\q:=by
 induction eU with
 | nil=>simp[zl9]
 | cons p r ih=>
  simp only[zma,Ob.iff,ih,List.mem_cons,forall_eq_or_imp]
  constructor
  ·rintro ⟨h1,h2,h3⟩;exact⟨fun hc=>⟨h1 hc,h2 hc⟩,h3⟩
  ·rintro ⟨h1,h2⟩;exact⟨fun hc=>(h1 hc).1,fun hc=>(h1 hc).2,h2⟩
def vh(g:Ga)(d:Option Nat)(v:AV)(u:cx):Ga:=
 match d with
 | some d=>⟨(d,v)::g.tmps,bQ u g.eB,g.next,g.nt⟩
 | none=>⟨g.tmps,bQ u g.eB,g.next,g.nt⟩
theorem qP{α:Sort u}(n:Nat)(k:Nat->α):sg n k=k n:=by
 cases n<;>rfl
theorem RH{α:Sort u}:∀ (l m:cx) (k:cx->α),Mt l m k=k (bQ l m)
 | [],m,k=>rfl
 | x::r,m,k=>by rw[zl6,RH r m];rfl
theorem vi{α:Sort u}(g:Ga)(d:Option Nat)(v:AV)(w:cx)(k:Ga->α):g.app d v w k=k (vh g d v w):=by
 unfold Ga.app vh
 cases d<;>simp only[RH]
theorem RI(g:Ga)(d:Option Nat)(v:AV)(u:cx):aQ (vh g d v u).tmps=u4 d v (aQ g.tmps):=by
 funext t
 cases d with
 | none=>rfl
 | some d=>first
  | (simp only[vh,aQ,u4];done)
  | (simp only[vh,aQ,u4];rfl)
theorem zn4{α:Type}(u w:List (Nat×α))(n:Nat):aQ (bQ u w) n=match aQ u n with | some r=>some r | none=>aQ w n:=by
 induction u with
 | nil=>rfl
 | cons x r ih=>
  obtain⟨m,y⟩:=x
  simp only[bQ,aQ]
  cases Nat.beq n m with
  | true=>rfl
  | false=>exact ih
theorem RJ(g:Ga)(d:Option Nat)(v:AV)(u:cx):dP (vh g d v u).eB=oW u (dP g.eB):=by
 funext n
 have:(vh g d v u).eB=bQ u g.eB:=by cases d<;>rfl
 simp only[dP,this,zn4,oW]
 cases aQ u n<;>rfl
theorem Eg(g:Ga)(d:Option Nat)(v:AV)(u:cx):(vh g d v u).next=g.next:=by cases d<;>rfl
theorem wM(g:Ga)(d:Option Nat)(v:AV)(u:cx):(vh g d v u).nt=g.nt:=by cases d<;>rfl
structure Met(P:Program)(C:Ctx)(all:List Oper)(nm:Nat)(tm:Nat->Option AV)(ob:Nat->Option AO)(nt:Nat)(x:Tr):Prop where
 dst:G9 nt x.o.dst=true
 args:x.a=kI x.o.op ob (ir tm x.o.op.operands.toList)
 step:(tF all tm x.o=some none/\∃ eU v,mH P C tm ob nm x.o=some ⟨eU,v,x.u⟩/\(∀ p∈eU,p)/\x.v=Ef v)\/
  (∃ c eU v u,tF all tm x.o=some (some c)/\mH P C tm ob nm x.o=some ⟨eU,v,u⟩/\(c=true->∀ p∈eU,p)/\x.v=.when c v/\x.u=sq u)\/
  (∃ v,tF all tm x.o=some (some false)/\x.v=.when false v/\x.u=[])
inductive Eh (P:Program) (C:Ctx) (all:List Oper) (base:Nat):Nat->List Oper->Ga->List Tr->Ga->Prop where
 | nil (i:Nat) (g:Ga):Eh P C all base i [] g [] g
 | cons (i:Nat) (r:List Oper) (g:Ga) (x:Tr) (tr:List Tr) (g':Ga):Met P C all (base+16*i) (aQ g.tmps) (dP g.eB) g.nt x->
   Eh P C all base (i+1) r (vh g x.o.dst x.v x.u) tr g'->Eh P C all base i (x.o::r) g (x::tr) g'
theorem HT{P:Program}{C:Ctx}{all:List Oper}:∀ (ops:List Oper) (i:Nat) (g:Ga) (k:List Tr->Ga->Prop),uZ P C all i ops g k->
  ∃ tr g',Eh P C all g.next i ops g tr g'/\k tr ⟨g'.tmps,g'.eB,g.next+16*(i+ops.length),g.nt⟩/\g'.next=g.next/\g'.nt=g.nt
 | [],i,⟨tm,ob,nx,nt⟩,k,h=>⟨[],⟨tm,ob,nx,nt⟩,.nil i _,h,rfl,rfl⟩
 | o::r,i,⟨tm,ob,nx,nt⟩,k,h=>by
  rw[QX] at h
  simp only[Hb,qP] at h
  generalize hg:(⟨tm,ob,nx,nt⟩:Ga)=g at h
  obtain rfl:g.tmps=tm:=by rw[<-hg]
  obtain rfl:g.eB=ob:=by rw[<-hg]
  obtain rfl:g.next=nx:=by rw[<-hg]
  obtain rfl:g.nt=nt:=by rw[<-hg]
  split at h
  ·exact h.elim
  ·rename_i hd
   split at h
   ·exact h.elim
   ·rename_i sE
    split at h
    ·exact h.elim
    ·rename_i eU v u bT
     obtain⟨h1,h2⟩:=HS.1 h
     have h3:=zn3 h2
     rw[vi] at h3
     obtain⟨tr,g',g1,g2,g3,g4⟩:=HT r (i+1) _ _ h3
     rw[Eg,wM] at g2
     rw[Eg] at g1 g3
     rw[wM] at g4
     refine⟨⟨o,Ef v,u,kI o.op (dP g.eB) (ir (aQ g.tmps) o.op.operands.toList)⟩::tr,g',.cons i r g ⟨o,Ef v,u,kI o.op (dP g.eB) (ir (aQ g.tmps) o.op.operands.toList)⟩ tr g' ⟨hd,rfl,.inl ⟨sE,eU,v,bT,h1,rfl⟩⟩ g1,?_,g3,g4⟩
     rw[List.length_cons,show i+(r.length+1)=i+1+r.length by omega]
     exact g2
   ·rename_i c sE
    split at h
    ·rename_i eU v u bT
     obtain⟨h1,h3⟩:=wL.1 h
     rw[vi] at h3
     obtain⟨tr,g',g1,g2,g3,g4⟩:=HT r (i+1) _ _ h3
     rw[Eg,wM] at g2
     rw[Eg] at g1 g3
     rw[wM] at g4
     refine⟨⟨o,.when c v,sq u,kI o.op (dP g.eB) (ir (aQ g.tmps) o.op.operands.toList)⟩::tr,g',.cons i r g ⟨o,.when c v,sq u,kI o.op (dP g.eB) (ir (aQ g.tmps) o.op.operands.toList)⟩ tr g' ⟨hd,rfl,.inr (.inl ⟨c,eU,v,u,sE,bT,h1,rfl,rfl⟩)⟩ g1,?_,g3,g4⟩
     rw[List.length_cons,show i+(r.length+1)=i+1+r.length by omega]
     exact g2
    ·rename_i bT
     obtain⟨h1,h3⟩:=wL.1 h
     obtain rfl:c=false:=by
      cases c with
      | false=>rfl
      | true=>exact (h1 rfl False (by simp)).elim
     rw[vi] at h3
     obtain⟨tr,g',g1,g2,g3,g4⟩:=HT r (i+1) _ _ h3
     rw[Eg,wM] at g2
     rw[Eg] at g1 g3
     rw[wM] at g4
     refine⟨⟨o,.when false (DF P o.type),[],kI o.op (dP g.eB) (ir (aQ g.tmps) o.op.operands.toList)⟩::tr,g',.cons i r g ⟨o,.when false (DF P o.type),[],kI o.op (dP g.eB) (ir (aQ g.tmps) o.op.operands.toList)⟩ tr g' ⟨hd,rfl,.inr (.inr ⟨_,sE,rfl,rfl⟩)⟩ g1,?_,g3,g4⟩
     rw[List.length_cons,show i+(r.length+1)=i+1+r.length by omega]
     exact g2
section
variable {W0:WX} {okIn B us:Nat->Prop} {tm:Nat->Option AV} {ob:Nat->Option AO} {nt:Nat} {E:Env} {a:Act}
theorem ZG{tmps:Array Value}{t:Nat}{b:Bool}(h:tmps.getD t undef=.bool b):tmps[t]? =some (.bool b):=by
 rw[Array.getD_eq_getD_getElem?] at h
 cases hh:tmps[t]? with
 | none=>rw[hh] at h;simp[undef] at h
 | some v=>rw[hh] at h;simp at h;rw[h]
theorem zn5{all:List Oper}(hs:df W0 okIn B us tm ob nt E a){o:Oper}:
  (tF all tm o=some none->Region.wanted o (yielded all.toArray a.tmps)=true)/\(∀ c,tF all tm o=some (some c)->Region.wanted o (yielded all.toArray a.tmps)=c):=by
 unfold tF Region.wanted
 cases hg:o.guard with
 | none=>exact⟨fun _=>rfl,fun c h=>by simp at h⟩
 | some jw=>
  obtain⟨j,want⟩:=jw
  simp only
  cases hj:nth all j with
  | none=>exact⟨fun h=>by simp at h,fun c h=>by simp at h⟩
  | some oj=>
   rw[su] at hj
   simp only
   cases hd:oj.dst with
   | none=>exact⟨fun h=>by simp at h,fun c h=>by simp at h⟩
   | some t=>
    simp only
    have hy:∀ v,a.tmps[t]? =v->yielded all.toArray a.tmps j=match v with | some (.bool b)=>some b | _=>none:=by
     intro v hv
     have ly:all.toArray[j]? =some oj:=by simpa using hj
     simp only[yielded,ly,Option.bind_some,hd,hv]
     cases v with
     | none=>rfl
     | some v=>cases v<;>rfl
    cases ht:tm t with
    | none=>exact⟨fun h=>by simp at h,fun c h=>by simp at h⟩
    | some v=>
     have hv:=(hs.tmp t v ht).1
     refine⟨fun h=>?_,fun c h=>?_⟩
     ·split at h<;>first | (split at h<;>simp at h;done) | simp at h
     ·split at h
      ·rename_i b heq
       simp only[Option.some.injEq] at heq
       subst heq
       simp only[VR] at hv
       have:=hy _ (ZG hv)
       rw[this]
       split at h<;>simp only[Option.some.injEq] at h<;>subst h<;>cases b<;>rfl
      ·rename_i g b heq
       simp only[Option.some.injEq] at heq
       subst heq
       simp only[VR] at hv
       cases g with
       | true=>
        have:=hy _ (ZG (hv.1 rfl))
        rw[this]
        split at h<;>simp only[Option.some.injEq] at h<;>subst h<;>cases b<;>rfl
       | false=>
        have hu:=hv.2 rfl
        have RL:yielded all.toArray a.tmps j=none:=by
         cases hh:a.tmps[t]? with
         | none=>rw[hy _ hh]
         | some z=>
          rw[Array.getD_eq_getD_getElem?,hh] at hu
          simp at hu
          rw[hy _ hh,hu]
          rfl
        rw[RL]
        split at h<;>simp only[Option.some.injEq] at h<;>subst h<;>simp
      ·simp at h
theorem M9:∀ (u:cx) (n:Nat),aQ (sq u) n=(aQ u n).map fun _=>none
 | [],n=>rfl
 | (m,o)::r,n=>by
  simp only[sq,aQ]
  cases Nat.beq n m with
  | true=>rfl
  | false=>exact M9 r n
def yx(E:Env)(u:cx):Env:=⟨E.w,fun n=>match aQ u n with | some _=>none | none=>E.mu n,E.ok⟩
theorem Na{E:Env}{u:cx}{n:Nat}{L:Loc}(h:(yx E u).mu n=some L):E.mu n=some L:=by
 simp only[yx] at h
 split at h
 ·simp at h
 ·exact h
theorem RM{E:Env}{u:cx}{n b:Nat}(h:cV (yx E u) n b):cV E n b:=by
 obtain⟨L,h1,h2⟩:=h
 exact⟨L,Na h1,h2⟩
theorem zn6(us:Nat->Prop)(E:Env)(u:cx):u0 us E (yx E u):=
 ⟨fun _ _=>rfl,fun _ h=>h,fun n _ L h=>⟨L,Na h,rfl,rfl,rfl⟩⟩
theorem zn7{W0:WX}{okIn B:Nat->Prop}{E:Env}(h:jm W0 okIn B E)(u:cx):jm W0 okIn B (yx E u):=
 ⟨fun n m b h1 h2=>h.inj n m b (RM h1) (RM h2),fun n b h1=>h.own n b (RM h1),h.iR,h.sr,h.fr,h.sz,h.new,h.os,h.tape,h.output,fun n L h1=>h.li n L (Na h1)⟩
theorem cK.drop{W0:WX}{okIn B us gG:Nat->Prop}{E E':Env}{u v:cx}(h:cK W0 okIn B us gG E E' v)(hs:∀ n,aQ u n=none->aQ v n=none):cK W0 okIn B us gG E (yx E' u) (sq u):=by
 have hn:∀ n,aQ (sq u) n=none->aQ u n=none:=fun n hn=>by
  rw[M9] at hn
  cases hh:aQ u n with
  | none=>rfl
  | some o=>rw[hh] at hn;simp at hn
 refine⟨h.sub,fun n h1=>?_,fun n h1 L h2=>h.My n h1 L (Na h2),fun n h1=>?_,fun n o h1=>?_,fun b h1 h2=>h.keep b h1 fun n h3=>hs n (hn n (h2 n h3)),h.ho,zn7 h.env u⟩
 ·show (match aQ u n with | some _=>none | none=>E'.mu n)=_
  rw[hn n h1]
  exact h.mu n (hs n (hn n h1))
 ·rw[M9] at h1
  show (match aQ u n with | some _=>none | none=>E'.mu n)=_
  cases hh:aQ u n with
  | none=>rw[hh] at h1;simp at h1
  | some o=>rfl
 ·rw[M9] at h1
  cases hh:aQ u n with
  | none=>rw[hh] at h1;simp at h1
  | some o=>rw[hh] at h1;simp at h1
theorem ZH{P:Program}[Tabs P]{C:Ctx}(hC:CtxOK1 P C)(hT:yc P W0 B){all:List Oper}{nm:Nat}{x:Tr}(hs:df W0 okIn B us tm ob nt E a)(cO:∀ n,nm<=n->n<nm+16->¬ us n)(hm:Met P C all nm tm ob nt x)(K:Act->World->Prop)(Q:Exit->Act->World->Prop)
  (hK:∀ E' a',df W0 okIn B (eC us nm) (u4 x.o.dst x.v tm) (oW x.u ob) nt E' a'->K a' E'.w):
  (if Region.wanted x.o (yielded all.toArray a.tmps) then x.o.wp P a E.w K Q\/(x.o.asks P a E.w/\LetsOut Q) else K (a.put x.o.dst undef) E.w):=by
 obtain⟨hd,ha,tM⟩:=hm
 obtain⟨w1,w2⟩:=zn5 (all:=all) (o:=x.o) hs
 rcases tM with⟨sE,eU,v,bT,tN,hv⟩ | ⟨c,eU,v,u,sE,bT,tN,hv,hu⟩ | ⟨v,sE,hv,hu⟩
 ·rw[w1 sE,if_pos rfl]
  refine .inl ?_
  refine Zt hC hT hs cO bT tN K Q fun E' z iE hz D9=>hK _ _ ?_
  rw[hv]
  exact hs.Hg iE hd (zn1 hz) (zn2 D9)
 ·rw[w2 c sE]
  cases c with
  | true=>
   rw[if_pos rfl]
   refine .inl ?_
   refine Zt hC hT hs cO bT (tN rfl) K Q fun E' z iE hz D9=>hK (yx E' u) _ ?_
   rw[hv,hu]
   exact hs.Hg (iE.drop fun _ h=>h) hd (by rw[VR];exact⟨fun _=>VR.mono (zn6 _ E' u) _ _ D9 hz,fun h=>by simp at h⟩) (by rw[AV.nm];exact fun _=>D9)
  | false=>
   simp only[Bool.false_eq_true,if_false]
   refine hK (yx E u) _ ?_
   rw[hv,hu]
   exact hs.Hg ((cK.pX hs.env).drop fun _ _=>rfl) hd (by rw[VR];exact⟨fun h=>by simp at h,fun _=>rfl⟩) (by rw[AV.nm];exact fun h=>by simp at h)
 ·rw[w2 false sE]
  simp only[Bool.false_eq_true,if_false]
  refine hK E _ ?_
  rw[hv,hu]
  exact hs.Hg (cK.pX hs.env) hd (by rw[VR];exact⟨fun h=>by simp at h,fun _=>rfl⟩) (by rw[AV.nm];exact fun h=>by simp at h)
end
theorem df.AJ{W0:WX}{okIn B us gG:Nat->Prop}{tm:Nat->Option AV}{ob:Nat->Option AO}{nt:Nat}{E:Env}{a:Act}(h:df W0 okIn B us tm ob nt E a)(hu:∀ n,us n->gG n):df W0 okIn B gG tm ob nt E a:=
 { h with tmp:=fun t v ht=>⟨(h.tmp t v ht).1,AV.nX hu _ (h.tmp t v ht).2⟩,obj:=fun n o ho=>⟨(h.obj n o ho).1,AO.nX hu _ (h.obj n o ho).2.1,hu _ (h.obj n o ho).2.2⟩,lo:=fun n hn=>hu _ (h.lo n hn) }
theorem zn8{P:Program}[Tabs P]{C:Ctx}(hC:CtxOK1 P C){W0:WX}{okIn B:Nat->Prop}(hT:yc P W0 B){all:List Oper}{base:Nat}{Q:Exit->Act->World->Prop}:∀ {i:Nat} {ops:List Oper} {g g':Ga} {tr:List Tr},Eh P C all base i ops g tr g'->
  ∀ (E:Env) (a:Act),df W0 okIn B (fun n=>n<base+16*i) (aQ g.tmps) (dP g.eB) g.nt E a->
  (∀ E' a',df W0 okIn B (fun n=>n<base+16*(i+ops.length)) (aQ g'.tmps) (dP g'.eB) g.nt E' a'->Q .normal a' E'.w)->wpList P all.toArray Q ops a E.w:=by
 intro i ops g g' tr h
 induction h with
 | nil i g=>intro E a hs hQ;exact hQ E a (by simpa using hs)
 | cons i r g x tr g' hm hr ih=>
  intro E a hs hQ
  unfold wpList
  refine ZH hC hT hs (by intro n h1 h2;omega) hm _ Q fun E' a' gJ=>?_
  refine ih E' a' ?_ fun oc a'' ZI=>hQ oc a'' ?_
  ·rw[RI,RJ,wM]
   exact gJ.AJ fun n hn=>by rcases hn with hn | hn<;>omega
  ·rw[wM] at ZI
   rw[List.length_cons,show i+(r.length+1)=i+1+r.length by omega]
   exact ZI
section fold
variable {V:Type} (W:Tr->Nat->Option V)
def kO:(Nat->V)->List Tr->Nat->(Nat->Bool)->Nat->V
 | f,[],_,_=>f
 | f,x::r,i,S=>kO (if S i then (fun k=>(W x k).getD (f k)) else f) r (i+1) S
theorem HU{k:Nat}:∀ (tr:List Tr) (i:Nat) (S S':Nat->Bool) (f f':Nat->V),f k=f' k->(∀ j x,tr[j]? =some x->(W x k).isSome=true->S (i+j)=S' (i+j))->kO W f tr i S k=kO W f' tr i S' k
 | [],i,S,S',f,f',hf,_=>hf
 | x::r,i,S,S',f,f',hf,h=>by
  simp only[kO]
  refine HU r (i+1) S S' _ _ ?_ fun j y hj hy=>by have:=h (j+1) y (by simpa using hj) hy;rwa [show i+(j+1)=i+1+j by omega] at this
  cases hw:W x k with
  | none=>
   have e1:(if S i then (fun k=>(W x k).getD (f k)) else f) k=f k:=by split<;>simp[hw]
   have e2:(if S' i then (fun k=>(W x k).getD (f' k)) else f') k=f' k:=by split<;>simp[hw]
   rw[e1,e2,hf]
  | some v=>
   have:=h 0 x rfl (by simp[hw])
   simp only[Nat.add_zero] at this
   rw[this]
   split
   ·simp[hw]
   ·exact hf
theorem RN{k:Nat}(tr:List Tr)(i:Nat)(S:Nat->Bool)(f:Nat->V)(h:∀ j x,tr[j]? =some x->(W x k).isSome=true->S (i+j)=false):kO W f tr i S k=f k:=by
 have h0:∀ (tr:List Tr) (i:Nat) (f:Nat->V),kO W f tr i (fun _=>false)=f:=by
  intro tr
  induction tr with
  | nil=>intro i f;rfl
  | cons x r ih=>intro i f;simp only[kO,Bool.false_eq_true,if_false];exact ih _ _
 rw[HU W tr i S (fun _=>false) f f rfl h,h0]
theorem ZJ{k:Nat}{v:V}:∀ (tr:List Tr) (i j:Nat) (S:Nat->Bool) (f:Nat->V) (x:Tr),tr[j]? =some x->W x k=some v->S (i+j)=true->(∀ m y,j<m->tr[m]? =some y->(W y k).isSome=true->S (i+m)=false)->
  kO W f tr i S k=v
 | [],i,j,S,f,x,hj,_,_,_=>by simp at hj
 | y::r,i,0,S,f,x,hj,hw,hS,h=>by
  simp only[List.getElem?_cons_zero,Option.some.injEq] at hj
  subst hj
  simp only[Nat.add_zero] at hS
  simp only[kO,hS,if_true]
  rw[RN W r (i+1) S _ fun m z hm hz=>by have:=h (m+1) z (by omega) (by simpa using hm) hz;rwa [show i+(m+1)=i+1+m by omega] at this]
  simp[hw]
 | y::r,i,j+1,S,f,x,hj,hw,hS,h=>by
  simp only[kO]
  refine ZJ r (i+1) j S _ x (by simpa using hj) hw (by rwa [show i+1+j=i+(j+1) by omega]) fun m z hlt hm hz=>?_
  have:=h (m+1) z (by omega) (by simpa using hm) hz
  rwa [show i+(m+1)=i+1+m by omega] at this
theorem RO:∀ (tr:List Tr) (i:Nat) (S:Nat->Bool) (f:Nat->V),kO W f tr (i+1) S=kO W f tr i fun k=>S (k+1)
 | [],i,S,f=>rfl
 | x::r,i,S,f=>by simp only[kO];exact RO r (i+1) S _
end fold
def wT(x:Tr)(t:Nat):Option (Option AV):=
 match x.o.dst with
 | some d=>match Nat.beq t d with
  | true=>some (some x.v)
  | false=>none
 | none=>none
def wO(x:Tr)(n:Nat):Option (Option AO):=aQ x.u n
theorem ZK(x:Tr)(tm:Nat->Option AV):u4 x.o.dst x.v tm=fun t=>(wT x t).getD (tm t):=by
 funext t
 unfold u4 wT
 cases x.o.dst with
 | none=>rfl
 | some d=>simp only;cases Nat.beq t d<;>rfl
theorem ZL(x:Tr)(ob:Nat->Option AO):oW x.u ob=fun n=>(wO x n).getD (ob n):=by
 funext n
 unfold oW wO
 cases aQ x.u n<;>rfl
def vT(tm:Nat->Option AV)(tr:List Tr)(S:Nat->Bool):Nat->Option AV:=kO wT tm tr 0 S
def vO(ob:Nat->Option AO)(tr:List Tr)(S:Nat->Bool):Nat->Option AO:=kO wO ob tr 0 S
theorem zoa{P:Program}{C:Ctx}{all:List Oper}{base i:Nat}{ops:List Oper}{g g':Ga}{tr:List Tr}(h:Eh P C all base i ops g tr g'):
  tr.map (·.o)=ops/\(∀ j x,tr[j]? =some x->Met P C all (base+16*(i+j)) (vT (aQ g.tmps) tr fun k=>decide (k<j)) (vO (dP g.eB) tr fun k=>decide (k<j)) g.nt x)/\
   aQ g'.tmps=vT (aQ g.tmps) tr (fun k=>decide (k<tr.length))/\dP g'.eB=vO (dP g.eB) tr (fun k=>decide (k<tr.length)):=by
 have AT:∀ {V:Type} (W:Tr->Nat->Option V) (tr:List Tr) (i:Nat) (f:Nat->V),kO W f tr i (fun k=>decide (k<0))=f:=by
  intro V W tr i f
  funext k
  exact RN W tr i _ f fun _ _ _ _=>by simp
 induction h with
 | nil i g=>exact⟨rfl,fun j x hj=>by simp at hj,(AT _ _ _ _).symm,(AT _ _ _ _).symm⟩
 | cons i r g x tr g' hm hr ih=>
  obtain⟨h1,h2,h3,h4⟩:=ih
  rw[RI,wM,RJ] at h2
  rw[RI] at h3
  rw[RJ] at h4
  have stepT:∀ (S:Nat->Bool),S 0=true->vT (aQ g.tmps) (x::tr) S=vT (u4 x.o.dst x.v (aQ g.tmps)) tr fun k=>S (k+1):=by
   intro S hS
   simp only[vT,kO,hS,if_true,ZK]
   exact RO wT tr 0 S _
  have ZM:∀ (S:Nat->Bool),S 0=true->vO (dP g.eB) (x::tr) S=vO (oW x.u (dP g.eB)) tr fun k=>S (k+1):=by
   intro S hS
   simp only[vO,kO,hS,if_true,ZL]
   exact RO wO tr 0 S _
  refine⟨by simp[h1],fun j y hj=>?_,?_,?_⟩
  ·cases j with
   | zero=>
    simp only[List.getElem?_cons_zero,Option.some.injEq] at hj
    subst hj
    have e1:vT (aQ g.tmps) (x::tr) (fun k=>decide (k<0))=aQ g.tmps:=AT _ _ _ _
    have e2:vO (dP g.eB) (x::tr) (fun k=>decide (k<0))=dP g.eB:=AT _ _ _ _
    rw[e1,e2]
    exact hm
   | succ j=>
    have:=h2 j y (by simpa using hj)
    rw[stepT _ (by simp),ZM _ (by simp)]
    simp only[Nat.add_lt_add_iff_right]
    rwa [show base+16*(i+1+j)=base+16*(i+(j+1)) by omega] at this
  ·rw[h3,stepT _ (by simp)]
   simp only[List.length_cons,Nat.add_lt_add_iff_right]
  ·rw[h4,ZM _ (by simp)]
   simp only[List.length_cons,Nat.add_lt_add_iff_right]
def vj(S:Nat->Bool)(o:Oper):Prop:=∀ e∈o.after.toList,Region.binds .any e=true->S e.on=true
theorem zob(l:List Nat)(n:Nat):DG l n=l.getD n 0:=by
 induction l generalizing n with
 | nil=>simp[DG]
 | cons a r ih=>cases n<;>simp[DG,ih]
theorem RP{acc:List Nat}{i:Nat}:∀ {es:List Edge} {m:Nat},(ya acc es m).testBit i=true->m.testBit i=true\/∃ e∈es,Region.binds .any e=true/\(i=e.on\/(acc.getD e.on 0).testBit i=true)
 | [],m,h=>.inl h
 | e::r,m,h=>by
  simp only[ya] at h
  split at h
  ·rename_i hb
   rcases RP h with h | ⟨e',h1,h2,h3⟩
   ·have h':((m ||| (1 <<< e.on)) ||| DG acc e.on).testBit i=true:=h
    rw[Nat.testBit_or,Nat.testBit_or,Bool.or_eq_true,Bool.or_eq_true,zob] at h'
    rcases h' with (h' | h') | h'
    ·exact .inl h'
    ·refine .inr ⟨e,by simp,hb,.inl ?_⟩
     rw[Nat.testBit_shiftLeft] at h'
     simp only[Bool.and_eq_true,decide_eq_true_eq] at h'
     obtain⟨ha,pY⟩:=h'
     have:i-e.on=0:=by
      rcases Nat.eq_zero_or_pos (i-e.on) with h0 | h0
      ·exact h0
      ·obtain⟨q,hq⟩:∃ q,i-e.on=q+1:=⟨i-e.on-1,by omega⟩
       rw[hq] at pY
       simp[Nat.testBit_succ] at pY
     omega
    ·exact .inr ⟨e,by simp,hb,.inr h'⟩
   ·exact .inr ⟨e',by simp[h1],h2,h3⟩
  ·rcases RP h with h | ⟨e',h1,h2,h3⟩
   ·exact .inl h
   ·exact .inr ⟨e',by simp[h1],h2,h3⟩
theorem ZN:∀ (ops:List Oper) (acc:List Nat),∃ l,Ar ops acc=acc++l/\l.length=ops.length/\∀ j o,ops[j]? =some o->l[j]? =some (ya ((acc++l).take (acc.length+j)) o.after.toList 0)
 | [],acc=>⟨[],by simp[Ar],rfl,fun j o h=>by simp at h⟩
 | o::r,acc=>by
  obtain⟨l,h1,h2,h3⟩:=ZN r (bQ acc [ya acc o.after.toList 0])
  rw[iC] at h1 h3
  refine⟨ya acc o.after.toList 0::l,by simp only[Ar,iC,h1];simp,by simp[h2],fun j p hj=>?_⟩
  cases j with
  | zero=>
   simp only[List.getElem?_cons_zero,Option.some.injEq] at hj
   subst hj
   simp
  | succ j=>
   have:=h3 j p (by simpa using hj)
   simp only[List.getElem?_cons_succ,this,List.length_append,List.length_singleton]
   rw[show acc.length+1+j=acc.length+(j+1) by omega]
   simp
theorem ZO{ops:List Oper}{S:Nat->Bool}(dh:∀ j o,ops[j]? =some o->S j=true->vj S o):
  ∀ (j:Nat) (o:Oper),ops[j]? =some o->vj S o->∀ i,((Ar ops []).getD j 0).testBit i=true->S i=true:=by
 obtain⟨l,h1,h2,h3⟩:=ZN ops []
 rw[h1,List.nil_append]
 intro j
 induction j using Nat.strongRecOn with
 | _ j ih=>
  intro o ho tP i hi
  have hm:=h3 j o ho
  simp only[List.nil_append,List.length_nil,Nat.zero_add] at hm
  rw[List.getD_eq_getElem?_getD,hm] at hi
  simp only[Option.getD_some] at hi
  rcases RP hi with hi | ⟨e,g1,g2,g3⟩
  ·simp at hi
  ·have hS:=tP e g1 g2
   rcases g3 with g3 | g3
   ·rw[g3];exact hS
   ·have hlt:e.on<j:=by
     rcases Nat.lt_or_ge e.on j with hlt | hge
     ·exact hlt
     ·rw[List.getD_eq_getElem?_getD,List.getElem?_eq_none (by simp;omega)] at g3
      simp at g3
    have sB:j<ops.length:=by
     rcases Nat.lt_or_ge j ops.length with h | h
     ·exact h
     ·rw[List.getElem?_eq_none h] at ho;simp at ho
    have vk:ops[e.on]? =some (ops[e.on]'(by omega)):=List.getElem?_eq_getElem _
    refine ih e.on hlt _ vk (dh _ _ vk hS) i ?_
    rw[List.getD_eq_getElem?_getD] at g3 ⊢
    rwa [List.getElem?_take,if_pos hlt] at g3
theorem ZP{all:List Oper}{m:Nat}{y:Tr}:∀ {tr:List Tr} {i:Nat},Mx all m y i tr=true->∀ k x,tr[k]? =some x->pW all x y=true\/pW all y x=true->m.testBit (i+k)=true
 | [],i,_,k,x,hk,_=>by simp at hk
 | z::r,i,h,k,x,hk,hc=>by
  simp only[Mx,Bool.and_eq_true,Bool.or_eq_true,Bool.not_eq_true',Bool.or_eq_false_iff] at h
  cases k with
  | zero=>
   simp only[List.getElem?_cons_zero,Option.some.injEq] at hk
   subst hk
   rcases h.1 with h1 | h1
   ·simpa using h1
   ·rcases hc with hc | hc
    ·rw[h1.1] at hc;simp at hc
    ·rw[h1.2] at hc;simp at hc
  | succ k=>
   have:=ZP h.2 k x (by simpa using hk) hc
   rwa [show i+(k+1)=i+1+k by omega]
theorem ZQ{all:List Oper}:∀ {ms:List Nat} {tr seen:List Tr} {j:Nat},Hd all ms tr seen j=true->seen.length=j->
  ∀ k y,tr[k]? =some y->Hc (j+k) y.o.after.toList=true/\∀ i x,i<j+k->(seen++tr)[i]? =some x->pW all x y=true\/pW all y x=true->(ms.getD k 0).testBit i=true
 | ms,[],seen,j,_,_,k,y,hk=>by simp at hk
 | [],z::r,seen,j,h,_,k,y,hk=>by simp[Hd] at h
 | m::ms,z::r,seen,j,h,hlen,k,y,hk=>by
  simp only[Hd,Bool.and_eq_true] at h
  obtain⟨⟨h1,h2⟩,h3⟩:=h
  rw[iC] at h3
  cases k with
  | zero=>
   simp only[List.getElem?_cons_zero,Option.some.injEq] at hk
   subst hk
   refine⟨h1,fun i x hi hx hc=>?_⟩
   have DQ:seen[i]? =some x:=by
    rw[List.getElem?_append_left (by omega)] at hx;exact hx
   simpa using ZP h2 i x DQ hc
  | succ k=>
   obtain⟨g1,g2⟩:=ZQ h3 (by simp[hlen]) k y (by simpa using hk)
   rw[show j+1+k=j+(k+1) by omega] at g1 g2
   refine⟨g1,fun i x hi hx hc=>?_⟩
   simpa using g2 i x hi (by simpa using hx) hc
theorem ZR{j:Nat}:∀ {es:List Edge},Hc j es=true->∀ e∈es,Region.binds .any e=true->e.on<j
 | [],_,e,he,_=>by simp at he
 | f::r,h,e,he,hb=>by
  simp only[Hc] at h
  split at h
  ·simp at h
  ·rename_i eW
   rcases List.mem_cons.1 he with rfl | he
   ·cases hlt:Nat.blt e.on j with
    | true=>exact Nat.le_of_ble_eq_true hlt
    | false=>exact absurd hlt (eW hb)
   ·exact ZR h e he hb
theorem RQ{all:List Oper}{tr:List Tr}(h:yb all tr=true):∀ j y,tr[j]? =some y->
  (∀ e∈y.o.after.toList,Region.binds .any e=true->e.on<j)/\∀ i x,i<j->tr[i]? =some x->pW all x y=true\/pW all y x=true->((Ar all []).getD j 0).testBit i=true:=by
 intro j y hj
 obtain⟨h1,h2⟩:=ZQ h rfl j y hj
 rw[Nat.zero_add] at h1 h2
 exact⟨ZR h1,fun i x hi hx hc=>h2 i x hi (by simpa using hx) hc⟩
theorem ZS{n:Nat}:∀ {l:List Nat},dG n l=true ↔ n∈l
 | []=>by simp[dG]
 | m::r=>by
  simp only[dG,List.mem_cons]
  split
  ·rename_i h;simp[beq_true h]
  ·rename_i h;simp[beq_false h,ZS (l:=r)]
theorem ZT{t:Nat}:∀ {l:List Operand},.tmp t∈l->t∈tmpsOf l
 | [],h=>by simp at h
 | x::r,h=>by
  rcases List.mem_cons.1 h with rfl | h
  ·simp[tmpsOf]
  ·have:=ZT h
   cases x<;>simp only[tmpsOf,List.mem_cons]<;>first | exact .inr this | exact this
theorem zoc{all:List Oper}{o:Oper}{t:Nat}(h:t∈tmpsOf o.op.operands.toList):t∈DH all o:=by
 unfold DH
 split
 ·exact h
 ·split
  ·split<;>simp[h]
  ·exact h
theorem zod{u:cx}{p:Nat->Bool}:DI u p=true ↔ ∃ n r,(n,r)∈u/\p n=true:=by
 induction u with
 | nil=>simp[DI]
 | cons x r ih=>
  obtain⟨n,q⟩:=x
  simp only[DI,Bool.or_eq_true,ih,List.mem_cons,Prod.mk.injEq]
  constructor
  ·rintro (h | ⟨m,s,h1,h2⟩)
   ·exact⟨n,q,.inl ⟨rfl,rfl⟩,h⟩
   ·exact⟨m,s,.inr h1,h2⟩
  ·rintro ⟨m,s,⟨rfl,rfl⟩ | h1,h2⟩
   ·exact .inl h2
   ·exact .inr ⟨m,s,h1,h2⟩
theorem zoe{α:Type}{l:List (Nat×α)}{n:Nat}(h:(aQ l n).isSome=true):∃ r,(n,r)∈l:=by
 induction l with
 | nil=>simp[aQ] at h
 | cons x r ih=>
  obtain⟨m,y⟩:=x
  simp only[aQ] at h
  split at h
  ·rename_i hb;exact⟨y,by simp[beq_true hb]⟩
  ·obtain⟨q,hq⟩:=ih h;exact⟨q,by simp[hq]⟩
theorem ZU{all:List Oper}{x y:Tr}{t:Nat}(ht:t∈DH all x.o\/x.o.dst=some t)(hw:(wT y t).isSome=true):pW all x y=true:=by
 unfold wT at hw
 unfold pW
 cases hd:y.o.dst with
 | none=>rw[hd] at hw;simp at hw
 | some d=>
  rw[hd] at hw
  simp only at hw
  split at hw
  ·rename_i hb
   have:=beq_true hb
   subst this
   rcases ht with ht | ht
   ·simp[ZS.2 ht]
   ·simp[ht,eV]
  ·simp at hw
theorem ZV{all:List Oper}{x y:Tr}{n:Nat}(ht:(As x.o.op=true/\AV.dK n x.a=true)\/(wO x n).isSome=true)(hw:(wO y n).isSome=true):pW all x y=true:=by
 unfold pW
 obtain⟨r,hr⟩:=zoe hw
 have:DI y.u (fun n=>(As x.o.op&&AV.dK n x.a)||QY x.u n)=true:=by
  refine zod.2 ⟨n,r,hr,?_⟩
  rcases ht with ht | ht
  ·simp[ht]
  ·unfold wO at ht
   unfold QY
   cases hl:aQ x.u n with
   | none=>rw[hl] at ht;simp at ht
   | some q=>simp
 rw[this]
 simp
section
variable {P:Program} [Tabs P] {C:Ctx} {tm0:Nat->Option AV} {ob0:Nat->Option AO} {nt base:Nat} {tr:List Tr} {all:List Oper}
theorem agree(fA:tr.map (·.o)=all)(pe:yb all tr=true){S:Nat->Bool}(dh:∀ j o,all[j]? =some o->S j=true->vj S o){i:Nat}{x:Tr}(hi:tr[i]? =some x)(tP:vj S x.o)(sF:S i=false)
  {j:Nat} {y:Tr} (hj:tr[j]? =some y) (hc:pW all x y=true):S j=decide (j<i):=by
 have Ei:∀ (k:Nat) (z:Tr),tr[k]? =some z->all[k]? =some z.o:=by
  intro k z hk
  rw[<-fA,List.getElem?_map,hk]
  rfl
 rcases Nat.lt_trichotomy j i with hlt | heq | DV
 ·rw[decide_eq_true hlt]
  exact ZO dh i x.o (Ei i x hi) tP j ((RQ pe i x hi).2 j y hlt hj (.inr hc))
 ·subst heq
  rw[sF]
  simp
 ·rw[decide_eq_false (by omega)]
  cases hS:S j with
  | false=>rfl
  | true=>
   have:=ZO dh j y.o (Ei j y hj) (dh j y.o (Ei j y hj) hS) i ((RQ pe j y hj).2 i x DV hi (.inl hc))
   rw[sF] at this
   simp at this
theorem zof(hC:M0 P C)(fA:tr.map (·.o)=all)(pe:yb all tr=true){S:Nat->Bool}(dh:∀ j o,all[j]? =some o->S j=true->vj S o){i nm:Nat}{x:Tr}(hi:tr[i]? =some x)(tP:vj S x.o)(sF:S i=false)
  (hm:Met P C all nm (vT tm0 tr fun k=>decide (k<i)) (vO ob0 tr fun k=>decide (k<i)) nt x):Met P C all nm (vT tm0 tr S) (vO ob0 tr S) nt x:=by
 have tI:=fun {j y}=>agree (j:=j) (y:=y) fA pe dh hi tP sF
 have hT:∀ t,t∈DH all x.o->vT tm0 tr S t=vT tm0 tr (fun k=>decide (k<i)) t:=fun t ht=>
  HU wT tr 0 _ _ _ _ rfl fun j y hj hw=>by rw[Nat.zero_add];exact tI hj (ZU (.inl ht) hw)
 have hO:As x.o.op=true->∀ n,AV.dK n x.a=true->vO ob0 tr S n=vO ob0 tr (fun k=>decide (k<i)) n:=fun hr n hn=>
  HU wO tr 0 _ _ _ _ rfl fun j y hj hw=>by rw[Nat.zero_add];exact tI hj (ZV (.inl ⟨hr,hn⟩) hw)
 have ZW:∀ z∈x.o.op.operands.toList,fc (vT tm0 tr fun k=>decide (k<i)) z=fc (vT tm0 tr S) z:=by
  intro z hz
  cases z with
  | tmp t=>simp only[fc,hT t (zoc (ZT hz))]
  | _=>rfl
 have zog:ir (vT tm0 tr fun k=>decide (k<i)) x.o.op.operands.toList=ir (vT tm0 tr S) x.o.op.operands.toList:=by
  have:∀ l:List Operand,(∀ z∈l,fc (vT tm0 tr fun k=>decide (k<i)) z=fc (vT tm0 tr S) z)->ir (vT tm0 tr fun k=>decide (k<i)) l=ir (vT tm0 tr S) l:=by
   intro l
   induction l with
   | nil=>intro _;rfl
   | cons z r ih=>intro h;simp only[ir];rw[h z (by simp),ih fun y hy=>h y (by simp[hy])]
  exact this _ ZW
 obtain⟨h1,h2,h3⟩:=hm
 have bT:mH P C (vT tm0 tr fun k=>decide (k<i)) (vO ob0 tr fun k=>decide (k<i)) nm x.o=mH P C (vT tm0 tr S) (vO ob0 tr S) nm x.o:=
  zn0 hC ZW fun hr n hn=>(hO hr n (by rw[h2];exact hn)).symm
 have sD:kI x.o.op (vO ob0 tr fun k=>decide (k<i)) (ir (vT tm0 tr fun k=>decide (k<i)) x.o.op.operands.toList)=kI x.o.op (vO ob0 tr S) (ir (vT tm0 tr S) x.o.op.operands.toList):=by
  rw[<-zog]
  rw[h2] at hO
  revert hO
  cases x.o.op<;>intro hO<;>first
   | rfl
   | exact ZF fun n hn=>(hO rfl n hn).symm
 have sE:tF all (vT tm0 tr fun k=>decide (k<i)) x.o=tF all (vT tm0 tr S) x.o:=by
  unfold tF
  cases hg:x.o.guard with
  | none=>rfl
  | some jw=>
   obtain⟨j,want⟩:=jw
   simp only
   cases hj:nth all j with
   | none=>rfl
   | some oj=>
    simp only
    cases hd:oj.dst with
    | none=>rfl
    | some t=>
     simp only
     rw[hT t (by unfold DH;simp[hg,hj,hd])]
 refine⟨h1,h2.trans sD,?_⟩
 rw[<-bT,<-sE]
 exact h3
theorem zoh(fA:tr.map (·.o)=all)(pe:yb all tr=true){S S':Nat->Bool}(dh:∀ j o,all[j]? =some o->S j=true->vj S o){i:Nat}{x:Tr}(hi:tr[i]? =some x)(tP:vj S x.o)(sF:S i=false)
  (yy:∀ k,S' k=if k=i then true else S k):u4 x.o.dst x.v (vT tm0 tr S)=vT tm0 tr S'/\oW x.u (vO ob0 tr S)=vO ob0 tr S':=by
 have tI:=fun {j y}=>agree (j:=j) (y:=y) fA pe dh hi tP sF
 have gen:∀ {V:Type} (W:Tr->Nat->Option V) (f:Nat->V),(∀ k,(W x k).isSome=true->∀ (j:Nat) (y:Tr),tr[j]? =some y->(W y k).isSome=true->pW all x y=true)->
   (fun k=>(W x k).getD (kO W f tr 0 S k))=kO W f tr 0 S':=by
  intro V W f zoi
  funext k
  cases hw:W x k with
  | none=>
   simp only[Option.getD_none]
   refine HU W tr 0 S S' f f rfl fun j y hj hy=>?_
   rw[Nat.zero_add,yy]
   split
   ·rename_i lW
    subst lW
    rw[hi] at hj
    simp only[Option.some.injEq] at hj
    subst hj
    rw[hw] at hy
    simp at hy
   ·rfl
  | some v=>
   simp only[Option.getD_some]
   refine (ZJ W tr 0 i S' f x hi hw (by rw[Nat.zero_add,yy];simp) fun m y hlt hm hy=>?_).symm
   rw[Nat.zero_add,yy,if_neg (by omega),tI hm (zoi k (by simp[hw]) m y hm hy)]
   simp;omega
 refine⟨?_,?_⟩
 ·rw[ZK]
  refine gen wT tm0 fun k hk j y hj hy=>ZU (.inr ?_) hy
  unfold wT at hk
  cases hd:x.o.dst with
  | none=>rw[hd] at hk;simp at hk
  | some d=>
   rw[hd] at hk
   simp only at hk
   split at hk
   ·rename_i hb;rw[beq_true hb]
   ·simp at hk
 ·rw[ZL]
  exact gen wO ob0 fun k hk j y hj hy=>ZV (.inr hk) hy
end
def RR(base:Nat)(S:Nat->Bool)(n:Nat):Prop:=n<base\/∃ i,S i=true/\base+16*i<=n/\n<base+16*i+16
theorem zoj{P:Program}[Tabs P]{C:Ctx}(hC:M0 P C){W0:WX}{okIn B:Nat->Prop}(hT:yc P W0 B){all:List Oper}{base nt:Nat}{tm0:Nat->Option AV}{ob0:Nat->Option AO}{tr:List Tr}{Q:Exit->Act->World->Prop}
  (fA:tr.map (·.o)=all) (pe:yb all tr=true) (zok:∀ j x,tr[j]? =some x->Met P C all (base+16*j) (vT tm0 tr fun k=>decide (k<j)) (vO ob0 tr fun k=>decide (k<j)) nt x)
  (hQ:∀ E a,df W0 okIn B (fun n=>n<base+16*tr.length) (vT tm0 tr fun k=>decide (k<tr.length)) (vO ob0 tr fun k=>decide (k<tr.length)) nt E a->Q .normal a E.w):
  ∀ (fuel:Nat) (ek:Array Bool),ek.size=all.length->all.length<=fuel+(ek.toList.filter id).length->
   (∀ j o,all[j]? =some o->ek.getD j false=true->vj (fun k=>ek.getD k false) o)->
   ∀ (E:Env) (a:Act),df W0 okIn B (RR base fun k=>ek.getD k false) (vT tm0 tr fun k=>ek.getD k false) (vO ob0 tr fun k=>ek.getD k false) nt E a->
   wpAny P .any all.toArray Q fuel ek a E.w:=by
 have hlen:tr.length=all.length:=by rw[<-fA];simp
 
 have done:∀ (ek:Array Bool),ek.size=all.length->Region.ready .any all.toArray ek=[]->∀ k,k<all.length->ek.getD k false=true:=by
  intro ek cq hr k
  induction k using Nat.strongRecOn with
  | _ k ih=>
   intro hk
   cases hl:ek.getD k false with
   | true=>rfl
   | false=>
    exfalso
    have Ej:all[k]? =some all[k]:=List.getElem?_eq_getElem hk
    have yz:tr[k]? =some (tr[k]'(by omega)):=List.getElem?_eq_getElem _
    have Nb:(tr[k]'(by omega)).o=all[k]:=by
     have:(tr.map (·.o))[k]? =some all[k]:=by rw[fA];exact Ej
     rw[List.getElem?_map,yz] at this
     simpa using this
    have ZX:=(RQ pe k _ yz).1
    rw[Nb] at ZX
    have n9:k∈Region.ready .any all.toArray ek:=by
     unfold Region.ready
     rw[List.mem_filter]
     refine⟨by simpa using hk,?_⟩
     have e1:ek.getD k true=false:=by
      rw[Array.getD_eq_getD_getElem?] at hl ⊢
      rw[Array.getElem?_eq_getElem (by omega)] at hl ⊢
      simpa using hl
     have e2:all.toArray[k]? =some all[k]:=by rw[List.getElem?_toArray];exact Ej
     rw[e1,e2]
     simp only[Bool.not_false,Bool.true_and,Option.map_some,Option.getD_some]
     rw[<-Array.all_toList,List.all_eq_true]
     intro e he
     cases hb:Region.binds .any e with
     | false=>rfl
     | true=>
      have:=ZX e he hb
      rw[ih e.on this (by omega)]
      rfl
    rw[hr] at n9
    simp at n9
 have finish:∀ (ek:Array Bool),ek.size=all.length->Region.ready .any all.toArray ek=[]->∀ (E:Env) (a:Act),
   df W0 okIn B (RR base fun k=>ek.getD k false) (vT tm0 tr fun k=>ek.getD k false) (vO ob0 tr fun k=>ek.getD k false) nt E a->Q .normal a E.w:=by
  intro ek cq hr E a hs
  have hd:=done ek cq hr
  have ZY:(fun k=>ek.getD k false)=fun k=>decide (k<tr.length):=by
   funext k
   by_cases hk:k<all.length
   ·rw[hd k hk,decide_eq_true (by omega)]
   ·rw[decide_eq_false (by omega),Array.getD_eq_getD_getElem?,Array.getElem?_eq_none (by omega)]
    rfl
  rw[ZY] at hs
  refine hQ E a (hs.AJ fun n hn=>?_)
  rcases hn with hn | ⟨i,hi,AU,wQ⟩
  ·omega
  ·have:=of_decide_eq_true hi
   omega
 intro fuel
 induction fuel with
 | zero=>
  intro ek cq zol dh E a hs
  have zom:∀ b∈ek.toList,b=true:=by
   have hle:=List.length_filter_le id ek.toList
   have hl:ek.toList.length=all.length:=by simpa using cq
   have heq:(ek.toList.filter id).length=ek.toList.length:=by omega
   intro b hb
   have:=(List.length_filter_eq_length_iff.1 heq) b hb
   simpa using this
  have hr:Region.ready .any all.toArray ek=[]:=by
   unfold Region.ready
   rw[List.filter_eq_nil_iff]
   intro k hk
   have fB:k<ek.size:=by simp at hk;omega
   have:ek.getD k true=true:=by
    rw[Array.getD_eq_getD_getElem?,Array.getElem?_eq_getElem fB]
    exact zom _ (by simp)
   simp[this]
  exact⟨hr,finish ek cq hr E a hs⟩
 | succ fuel ih=>
  intro ek cq zol dh E a hs
  refine⟨fun hr=>finish ek cq hr E a hs,fun i hi=>?_⟩
  unfold Region.ready at hi
  rw[List.mem_filter] at hi
  obtain⟨AU,wQ⟩:=hi
  have hin:i<all.length:=by simpa using AU
  simp only[Bool.and_eq_true,Bool.not_eq_true'] at wQ
  obtain⟨sC,Nc⟩:=wQ
  have Ej:all[i]? =some all[i]:=List.getElem?_eq_getElem hin
  have yz:tr[i]? =some (tr[i]'(by omega)):=List.getElem?_eq_getElem _
  generalize hx:tr[i]'(by omega)=x at yz
  have Nb:x.o=all[i]:=by
   have:(tr.map (·.o))[i]? =some all[i]:=by rw[fA];exact Ej
   rw[List.getElem?_map,yz] at this
   simpa using this
  have e2:all.toArray[i]? =some x.o:=by rw[Nb,List.getElem?_toArray];exact Ej
  have sF:ek.getD i false=false:=by
   rw[Array.getD_eq_getD_getElem?] at sC ⊢
   rw[Array.getElem?_eq_getElem (by omega)] at sC ⊢
   simpa using sC
  have tP:vj (fun k=>ek.getD k false) x.o:=by
   intro e he hb
   rw[e2] at Nc
   simp only[Option.map_some,Option.getD_some] at Nc
   rw[<-Array.all_toList,List.all_eq_true] at Nc
   have:=Nc e he
   rw[hb] at this
   simpa using this
  have yy:∀ k,(ek.setIfInBounds i true).getD k false=if k=i then true else ek.getD k false:=by
   intro k
   rw[Array.getD_eq_getD_getElem?,Array.getD_eq_getD_getElem?,Array.getElem?_setIfInBounds]
   by_cases HV:k=i
   ·subst HV
    simp[show k<ek.size by omega]
   ·rw[if_neg (Ne.symm HV),if_neg HV]
  obtain⟨v1,v2⟩:=zoh (tm0:=tm0) (ob0:=ob0) fA pe dh yz tP sF yy
  have hm:=zof hC fA pe dh yz tP sF (zok i x yz)
  have cO:∀ n,base+16*i<=n->n<base+16*i+16->¬ RR base (fun k=>ek.getD k false) n:=by
   intro n jd ia hu
   rcases hu with h | ⟨j,hj,zF9,zGa⟩
   ·omega
   ·have:j=i:=by omega
    subst this
    have ly:ek.getD j false=true:=hj
    rw[sF] at ly
    simp at ly
  unfold wpOp
  simp only[e2]
  refine ZH hC.toCtxOK1 hT hs cO hm _ Q fun E' a' gJ=>?_
  refine ih (ek.setIfInBounds i true) (by simpa using cq) ?_ ?_ E' a' ?_
  ·have RS:i<ek.toList.length:=by simp;omega
   have zon:∀ (l:List Bool) (i:Nat) (h:i<l.length),l[i]=false->((l.set i true).filter id).length=(l.filter id).length+1:=by
    intro l
    induction l with
    | nil=>intro i h;simp at h
    | cons b r ihl=>
     intro i h hb
     cases i with
     | zero=>
      simp only[List.getElem_cons_zero] at hb
      subst hb
      simp
     | succ i=>
      have:=ihl i (by simpa using h) (by simpa using hb)
      cases b<;>simp[this]
   have hb:ek.toList[i]=false:=by
    rw[Array.getD_eq_getD_getElem?,Array.getElem?_eq_getElem (by omega)] at sF
    simpa using sF
   rw[Array.toList_setIfInBounds,zon _ i RS hb]
   omega
  ·intro j o hj hSj e he hb
   show (ek.setIfInBounds i true).getD e.on false=true
   have RT:(ek.setIfInBounds i true).getD j false=true:=hSj
   rw[yy] at RT ⊢
   split
   ·rfl
   ·split at RT
    ·rename_i lW
     subst lW
     rw[Ej] at hj
     simp only[Option.some.injEq] at hj
     subst hj
     rw[<-Nb] at he
     exact tP e he hb
    ·exact dh j o hj RT e he hb
  ·have ZY:(fun k=>(ek.setIfInBounds i true).getD k false)=fun k=>(ek.setIfInBounds i true).getD k false:=rfl
   rw[v1,v2] at gJ
   refine gJ.AJ fun n hn=>?_
   rcases hn with hn | hn
   ·rcases hn with hn | ⟨j,hj,hj1⟩
    ·exact .inl hn
    ·refine .inr ⟨j,?_,hj1⟩
     show (ek.setIfInBounds i true).getD j false=true
     rw[yy]
     split
     ·rfl
     ·exact hj
   ·refine .inr ⟨i,?_,hn⟩
    show (ek.setIfInBounds i true).getD i false=true
    rw[yy]
    simp
def mN(W0:WX)(okIn B:Nat->Prop)(g:Ga)(E:Env)(a:Act):Prop:=
 df W0 okIn B (fun n=>n<g.next) (aQ g.tmps) (dP g.eB) g.nt E a
def pf(P:Program)[Tabs P](c:Code)(g:Ga)(k:Exit->Ga->Prop):Prop:=
 ∀ (W0:WX) (okIn B:Nat->Prop) (E:Env) (a:Act),yc P W0 B->mN W0 okIn B g E a->
  c.wp P (fun e a' w'=>∃ g' E',k e g'/\E'.w=w'/\mN W0 okIn B g' E' a') a E.w
def pg(s n:Nat):Bool:=Nat.beq (Nat.land (Nat.shiftRight s n) 1) 1
theorem RU(a b:Nat):pg a b=Nat.testBit a b:=by
 have h1:Nat.testBit a b=decide ((a >>> b) % 2=1):=by rw[Nat.testBit_eq_decide_div_mod_eq,Nat.shiftRight_eq_div_pow]
 have h2:Nat.land (Nat.shiftRight a b) 1=(a >>> b) % 2:=Nat.and_one_is_mod _
 rw[h1,pg,h2]
 rcases Nat.mod_two_eq_zero_or_one (a >>> b) with h | h<;>rw[h]<;>rfl
theorem RV(s m n:Nat):pg (Nat.lor s (Nat.shiftLeft 1 m)) n=(pg s n||decide (m=n)):=by
 rw[RU,RU]
 have e:Nat.lor s (Nat.shiftLeft 1 m)=s ||| (1 <<< m):=rfl
 rw[e,Nat.testBit_or,Nat.one_shiftLeft,Nat.testBit_two_pow]
theorem RW{α:Sort u}:∀ (l:List (Nat×AV)) (s:Nat) (k:List (Nat×AV)->α),∃ l',wx s l k=k l'/\∀ n,aQ l' n=if pg s n=true then none else aQ l n
 | [],s,k=>⟨[],rfl,fun n=>by simp[aQ]⟩
 | (m,v)::r,s,k=>by
  rw[Mu]
  split
  ·rename_i hb
   obtain⟨l',h1,h2⟩:=RW r s k
   refine⟨l',h1,fun n=>?_⟩
   rw[h2 n]
   by_cases hs:pg s n=true
   ·rw[if_pos hs,if_pos hs]
   ·rw[if_neg hs,if_neg hs]
    simp only[aQ]
    split
    ·rename_i he;rw[beq_true he] at hs;exact absurd hb hs
    ·rfl
  ·rename_i hb
   rw[jU]
   obtain⟨l',h1,h2⟩:=RW r (Nat.lor s (Nat.shiftLeft 1 m)) (fun q=>k ((m,v)::q))
   refine⟨(m,v)::l',h1,fun n=>?_⟩
   simp only[aQ]
   cases he:Nat.beq n m with
   | true=>rw[beq_true he,if_neg (by show ¬ pg s m=true;rw[show pg s m=false from hb];simp)]
   | false=>
    simp only[h2,RV]
    by_cases hs:pg s n=true
    ·simp[hs]
    ·simp[hs,(beq_false he).symm]
theorem RX{α:Sort u}(o:AO)(k:AO->α):Mv o k=k o:=by
 cases o<;>simp only[Mv,DK]
theorem Ek(m:Nat)(o:Option AO)(r:cx)(n:Nat):dP ((m,o)::r) n=if n=m then o else dP r n:=by
 simp only[dP,aQ]
 cases he:Nat.beq n m with
 | true=>rw[if_pos (beq_true he)]
 | false=>rw[if_neg (beq_false he)]
theorem Nd{α:Sort u}:∀ (l:cx) (s:Nat) (k:cx->α),∃ l',tE s l k=k l'/\∀ n,dP l' n=if pg s n=true then none else dP l n
 | [],s,k=>⟨[],rfl,fun n=>by simp[dP,aQ]⟩
 | (m,o)::r,s,k=>by
  rw[Mw]
  simp only[qP,RX]
  split
  ·rename_i hb
   obtain⟨l',h1,h2⟩:=Nd r s k
   refine⟨l',h1,fun n=>?_⟩
   rw[h2 n]
   by_cases hs:pg s n=true
   ·rw[if_pos hs,if_pos hs]
   ·rw[if_neg hs,if_neg hs,Ek]
    rw[if_neg (fun e=>by subst e;exact hs hb)]
  ·rename_i hb
   cases o with
   | none=>
    obtain⟨l',h1,h2⟩:=Nd r (Nat.lor s (Nat.shiftLeft 1 m)) k
    refine⟨l',h1,fun n=>?_⟩
    rw[h2,Ek,RV]
    by_cases he:n=m
    ·subst he;simp
    ·by_cases hs:pg s n=true
     ·simp[hs]
     ·simp[hs,he,Ne.symm he]
   | some o=>
    obtain⟨l',h1,h2⟩:=Nd r (Nat.lor s (Nat.shiftLeft 1 m)) (fun q=>k ((m,some o)::q))
    refine⟨(m,some o)::l',h1,fun n=>?_⟩
    rw[Ek,Ek,h2,RV]
    by_cases he:n=m
    ·subst he;rw[show pg s n=false from hb];simp
    ·by_cases hs:pg s n=true
     ·simp[hs,he]
     ·simp[hs,he,Ne.symm he]
theorem ZZ(n:Nat):pg 0 n=false:=by rw[RU];simp
theorem RY{α:Sort u}(g:Ga)(k:Ga->α):∃ g',g.jl k=k g'/\∀ W0 okIn B E a,mN W0 okIn B g E a->mN W0 okIn B g' E a:=by
 obtain⟨tm,ob,nx,nt⟩:=g
 simp only[Ga.jl]
 obtain⟨iq,h1,h2⟩:=RW tm 0 (fun iq=>tE 0 ob fun ob'=>sg nx fun G8=>k ⟨iq,ob',G8,nt⟩)
 obtain⟨ob',h3,h4⟩:=Nd ob 0 (fun ob'=>sg nx fun G8=>k ⟨iq,ob',G8,nt⟩)
 refine⟨⟨iq,ob',nx,nt⟩,by rw[h1,h3,qP],fun W0 okIn B E a h=>?_⟩
 have e1:aQ iq=aQ tm:=by funext n;rw[h2,ZZ];rfl
 have e2:dP ob'=dP ob:=by funext n;rw[h4,ZZ];rfl
 simpa only[mN,e1,e2] using h
structure zor(P:Program)[Tabs P](c:Code)(g:Ga)(k:Exit->Ga->Prop):Prop where
 out:pf P (.loop c) g k
structure El(P:Program)[Tabs P](C:Bool->Ctx):Prop where
 l:CtxOK1 P (C false)
 a:M0 P (C true)
def Ga.vl(g:Ga)(c:Operand)(b:Bool):Ga:=
 match c with
 | .tmp i=>match g with
  | ⟨tm,ob,nx,nt⟩=>⟨(i,.bool b)::tm,ob,nx,nt⟩
 | _=>g
theorem Z0{W0:WX}{okIn B:Nat->Prop}{g:Ga}{E:Env}{a:Act}{c:Operand}{b:Bool}(hs:mN W0 okIn B g E a)(hv:a.eval c=.bool b):mN W0 okIn B (g.vl c b) E a:=by
 cases c with
 | tmp i=>
  obtain⟨tm,ob,nx,nt⟩:=g
  refine⟨hs.defers,hs.size,fun t v ht=>?_,hs.obj,hs.dom,hs.env,hs.lo⟩
  simp only[Ga.vl,aQ] at ht
  split at ht
  ·rename_i he
   obtain rfl:=Option.some.inj ht
   obtain rfl:=beq_true he
   exact⟨by simp only[VR];exact hv,by simp[AV.nm]⟩
  ·exact hs.tmp t v ht
 | _=>exact hs
noncomputable def ev(P:Program)[Tabs P](C:Bool->Ctx)(c:Code):Ga->(Exit->Ga->Prop)->Prop:=
 Code.rec (motive:=fun _=>Ga->(Exit->Ga->Prop)->Prop)
  (skip:=fun g k=>k .normal g)
  (region:=fun _ ops draw g k=>match draw with
   | false=>uZ P (C false) ops.toList 0 ops.toList g fun _ g'=>g'.jl fun gy=>k .normal gy
   | true=>uZ P (C true) ops.toList 0 ops.toList g fun tr g'=>Ob (yb ops.toList tr=true)/\g'.jl fun gy=>k .normal gy)
  (seq:=fun _ _ fP fQ g k=>fP g fun e g'=>match e with
   | .normal=>fQ g' k
   | e=>k e g')
  (cond:=fun c _ _ fP fQ g k=>match fc (aQ g.tmps) c with
   | .bool t=>(t=true->fP (g.vl c true) k)/\(t=false->fQ (g.vl c false) k)
   | .when w (.bool t)=>Ob (w=true)/\(t=true->fP g k)/\(t=false->fQ g k)
   | _=>False)
  (block:=fun id _ ih g k=>ih g fun e g'=>match e with
   | .exit kR=>match Nat.beq kR id with
    | true=>k .normal g'
    | false=>k (.exit kR) g'
   | e=>k e g')
  (loop:=fun c _ g k=>zor P c g k)
  (rangeFunc:=fun _ _ _ _ _ _ _ _=>False)
  (exit:=fun id g k=>k (.exit id) g)
  (scope:=fun _ _ _ _=>False)
  (label:=fun _ g k=>k .normal g)
  (goto:=fun _ _ _=>False)
  (ret:=fun g k=>k .ret g)
  (refuse:=fun _ _ _=>False) c
theorem Nf(P:Program)[Tabs P](C:Bool->Ctx)(id:Nat)(ops:Array Oper)(draw:Bool)(g:Ga)(k:Exit->Ga->Prop):ev P C (.region id ops draw) g k=
  match draw with
  | false=>uZ P (C false) ops.toList 0 ops.toList g fun _ g'=>g'.jl fun gy=>k .normal gy
  | true=>uZ P (C true) ops.toList 0 ops.toList g fun tr g'=>Ob (yb ops.toList tr=true)/\g'.jl fun gy=>k .normal gy:=rfl
theorem RZ(P:Program)[Tabs P](C:Bool->Ctx)(a b:Code)(g:Ga)(k:Exit->Ga->Prop):ev P C (.seq a b) g k=
  ev P C a g fun e g'=>match e with
   | .normal=>ev P C b g' k
   | e=>k e g':=rfl
theorem R0(P:Program)[Tabs P](C:Bool->Ctx)(c:Operand)(a b:Code)(g:Ga)(k:Exit->Ga->Prop):ev P C (.cond c a b) g k=
  match fc (aQ g.tmps) c with
  | .bool t=>(t=true->ev P C a (g.vl c true) k)/\(t=false->ev P C b (g.vl c false) k)
  | .when w (.bool t)=>Ob (w=true)/\(t=true->ev P C a g k)/\(t=false->ev P C b g k)
  | _=>False:=rfl
theorem R1(P:Program)[Tabs P](C:Bool->Ctx)(id:Nat)(c:Code)(g:Ga)(k:Exit->Ga->Prop):ev P C (.block id c) g k=
  ev P C c g fun e g'=>match e with
   | .exit kR=>match Nat.beq kR id with
    | true=>k .normal g'
    | false=>k (.exit kR) g'
   | e=>k e g':=rfl
theorem pf.mono{P:Program}[Tabs P]{c:Code}{g:Ga}{k k':Exit->Ga->Prop}(h:pf P c g k)(hk:∀ e g,k e g->k' e g):pf P c g k':=by
 intro W0 okIn B E a hT hs
 refine wp_mono (h W0 okIn B E a hT hs) fun e a' w' hq=>?_
 obtain⟨g',E',h1,h2,h3⟩:=hq
 exact⟨g',E',hk _ _ h1,h2,h3⟩
theorem df.drawn{W0:WX}{okIn B us:Nat->Prop}{tm:Nat->Option AV}{ob:Nat->Option AO}{nt:Nat}{E:Env}{a:Act}(h:df W0 okIn B us tm ob nt E a):
  df W0 okIn B us tm ob nt { E with w:={ E.w with drawn:=E.w.drawn+1 } } a:=by
 have g:u0 us E { E with w:={ E.w with drawn:=E.w.drawn+1 } }:=⟨fun _ _=>rfl,fun _ h=>h,fun n _ L h=>⟨L,h,rfl,rfl,rfl⟩⟩
 refine⟨h.defers,h.size,fun t v ht=>⟨VR.mono g _ _ (h.tmp t v ht).2 (h.tmp t v ht).1,(h.tmp t v ht).2⟩,fun n o ho=>⟨eO.mono g (h.obj n o ho).2.1 rfl (fun _ _=>rfl) (h.obj n o ho).1,(h.obj n o ho).2⟩,h.dom,?_,h.lo⟩
 exact⟨h.env.inj,h.env.own,h.env.iR,h.env.sr,h.env.fr,h.env.sz,h.env.new,h.env.os,h.env.tape,h.env.output,h.env.li⟩
theorem zos{W0:WX}{okIn B us:Nat->Prop}{tm:Nat->Option AV}{ob:Nat->Option AO}{nt:Nat}{E:Env}{a:Act}(hs:df W0 okIn B us tm ob nt E a){c:Operand}{t:Bool}(h:fc tm c=.bool t):a.eval c=.bool t:=by
 have:=(Hh hs c).1
 rw[h] at this
 simpa only[VR] using this
theorem Z1{P:Program}[Tabs P]{C:Bool->Ctx}(hC:El P C)(tQ:P.follows .mixedOrders=true):∀ (c:Code) (g:Ga) (k:Exit->Ga->Prop),ev P C c g k->pf P c g k:=by
 intro c
 induction c with
 | skip=>intro g k h W0 okIn B E a hT hs;exact wp_skip ⟨g,E,h,rfl,hs⟩
 | label l=>intro g k h W0 okIn B E a hT hs;exact wp_label ⟨g,E,h,rfl,hs⟩
 | exit id=>intro g k h W0 okIn B E a hT hs;exact wp_exit ⟨g,E,h,rfl,hs⟩
 | ret=>intro g k h W0 okIn B E a hT hs;exact wp_ret ⟨g,E,h,rfl,hs⟩
 | refuse Z2=>intro g k h;exact h.elim
 | goto l=>intro g k h;exact h.elim
 | scope c ih=>intro g k h;exact h.elim
 | rangeFunc f p x y Ng Nh=>intro g k h;exact h.elim
 | loop c ih=>intro g k h;exact h.out
 | region id ops draw=>
  intro g k h W0 okIn B E a hT hs
  cases draw with
  | false=>
   rw[Nf] at h
   simp only at h
   obtain⟨tr,g',h1,h2,h3,h4⟩:=HT _ _ _ _ h
   obtain⟨g2,e2,R2⟩:=RY ⟨g'.tmps,g'.eB,g.next+16*(0+ops.toList.length),g.nt⟩ (fun gy=>k .normal gy)
   rw[e2] at h2
   refine wp_region_list ?_
   have:=zn8 hC.l (hT:=hT) h1 (W0:=W0) (okIn:=okIn) (B:=B) (Q:=fun e a' w'=>∃ g' E',k e g'/\E'.w=w'/\mN W0 okIn B g' E' a') E a (by simpa [mN] using hs) (fun E' a' gJ=>⟨_,E',h2,rfl,R2 _ _ _ _ _ gJ⟩)
   simpa using this
  | true=>
   rw[Nf] at h
   simp only at h
   obtain⟨tr,g',h1,⟨⟨pe⟩,h2⟩,h3,h4⟩:=HT _ _ _ _ h
   obtain⟨g2,e2,R2⟩:=RY ⟨g'.tmps,g'.eB,g.next+16*(0+ops.toList.length),g.nt⟩ (fun gy=>k .normal gy)
   rw[e2] at h2
   obtain⟨m1,m2,m3,m4⟩:=zoa h1
   refine wp_region_any tQ ?_
   have hlen:tr.length=ops.toList.length:=by rw[<-m1];simp
   have AT:(fun k=>(Array.replicate ops.toList.length false).getD k false)=fun _=>false:=by
    funext k
    rw[Array.getD_eq_getD_getElem?]
    by_cases hk:k<ops.toList.length
    ·rw[Array.getElem?_replicate,if_pos hk];rfl
    ·rw[Array.getElem?_replicate,if_neg hk];rfl
   have hv:∀ {V:Type} (W:Tr->Nat->Option V) (f:Nat->V),kO W f tr 0 (fun _=>false)=f:=by
    intro V W f;funext k;exact RN W tr 0 _ f fun _ _ _ _=>rfl
   have:=zoj hC.a (hT:=hT) (W0:=W0) (okIn:=okIn) (B:=B) (base:=g.next) (nt:=g.nt) (Q:=fun e a' w'=>∃ g' E',k e g'/\E'.w=w'/\mN W0 okIn B g' E' a') m1 pe
    (fun j x hj=>by have:=m2 j x hj;rwa [Nat.zero_add] at this)
    (fun E' a' gJ=>⟨_,E',h2,rfl,R2 _ _ _ _ _<|by
     rw[<-m3,<-m4] at gJ
     simp only[mN,Nat.zero_add]
     rw[hlen] at gJ
     exact gJ⟩) ops.toList.length (Array.replicate ops.toList.length false) (by simp) (by omega)
    (fun j o hj hS=>by rw[congrFun AT j] at hS;simp at hS) { E with w:={ E.w with drawn:=E.w.drawn+1 } } a (by
     rw[AT]
     have e1:vT (aQ g.tmps) tr (fun _=>false)=aQ g.tmps:=hv _ _
     have e2:vO (dP g.eB) tr (fun _=>false)=dP g.eB:=hv _ _
     rw[e1,e2]
     exact (df.drawn hs).AJ fun n hn=>.inl hn)
   simpa using this
 | seq x y Ni Nj=>
  intro g k h W0 okIn B E a hT hs
  rw[RZ] at h
  refine wp_seq (wp_mono (Ni g _ h W0 okIn B E a hT hs) fun e a' w' hq=>?_)
  obtain⟨g',E',h1,rfl,h3⟩:=hq
  cases e with
  | normal=>exact Nj g' k h1 W0 okIn B E' a' hT h3
  | _=>exact⟨g',E',h1,rfl,h3⟩
 | cond c x y Ni Nj=>
  intro g k h W0 okIn B E a hT hs
  have hv:=Hh hs c
  rw[R0] at h
  split at h
  ·rename_i t ht
   have hb:=zos hs ht
   refine wp_cond_split hb (fun e=>Ni _ k (h.1 e) W0 okIn B E a hT (Z0 hs (by rw[hb,e]))) (fun e=>Nj _ k (h.2 e) W0 okIn B E a hT (Z0 hs (by rw[hb,e])))
  ·rename_i w t ht
   obtain⟨⟨rfl⟩,h⟩:=h
   rw[ht] at hv
   have hb:a.eval c=.bool t:=by
    have:=hv.1
    rw[VR] at this
    have:=this.1 rfl
    simpa only[VR] using this
   exact wp_cond_split hb (fun e=>Ni g k (h.1 e) W0 okIn B E a hT hs) (fun e=>Nj g k (h.2 e) W0 okIn B E a hT hs)
  ·exact h.elim
 | block id c ih=>
  intro g k h W0 okIn B E a hT hs
  rw[R1] at h
  refine wp_block (wp_mono (ih g _ h W0 okIn B E a hT hs) fun e a' w' hq=>?_)
  obtain⟨g',E',h1,rfl,h3⟩:=hq
  cases e with
  | exit kR=>
   simp only[Exit.inBlock]
   simp only at h1
   split at h1
   ·rename_i hb;rw[if_pos (beq_true hb)];exact⟨g',E',h1,rfl,h3⟩
   ·rename_i hb;rw[if_neg (beq_false hb)];exact⟨g',E',h1,rfl,h3⟩
  | _=>exact⟨g',E',h1,rfl,h3⟩
end Go.Tr
