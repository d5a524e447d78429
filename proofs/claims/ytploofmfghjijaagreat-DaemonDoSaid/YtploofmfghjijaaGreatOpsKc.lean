/- Events of acts, configurations of choices. Ticks where nothing is swept; the document's examples; states behind acts. Bounds of a law's arguments, as the laws of events want them. Conditions: none but those that each theorem states. -/
import Derived.Test.YtploofmfghjijaaGreatOpsKb
import Derived.KernelRfl
import Derived.Test.YtploofmfghjijaaGreatAddrW
namespace Go.Tr
open Go
set_option linter.unusedVariables false
set_option linter.unusedSimpArgs false
set_option maxRecDepth 100000
set_option maxHeartbeats 4000000
def kb(n:Int):Prop:=0<=n/\n<256
def C9(x:bD):Prop:=kb x.1/\kb x.2.1/\kb x.2.2.1/\kb x.2.2.2.1/\kb x.2.2.2.2.1/\kb x.2.2.2.2.2.1/\kb x.2.2.2.2.2.2.1/\kb x.2.2.2.2.2.2.2.1/\kb x.2.2.2.2.2.2.2.2
theorem oQ{n:Int}(h:kb n)(k:Int)(hk:0<k):0<=n.tmod k/\n.tmod k<k:=by
 rw[Int.tmod_eq_emod_of_nonneg h.1]
 exact⟨Int.emod_nonneg _ (by omega),Int.emod_lt_of_pos _ hk⟩
theorem Qs{x:bD}(h:C9 x):∃ c:bD,yX x=some (c,())/\ja c:=by
 obtain⟨h1,h2,h3,h4,h5,h6,h7,h8,h9⟩:=h
 have a1:=oQ h1 30 (by decide)
 have a2:=oQ h2 60 (by decide)
 have a3:=oQ h3 6 (by decide)
 have a4:=oQ h4 20 (by decide)
 have a5:=oQ h5 9 (by decide)
 have a6:=oQ h6 6 (by decide)
 have a7:=oQ h7 4 (by decide)
 have a8:=oQ h8 40 (by decide)
 have a9:=oQ h9 50 (by decide)
 unfold yX
 simp only[aW]
 repeat rw[aC (by decide)]
 refine⟨_,rfl,?_⟩
 generalize x.1.tmod 30=y1 at a1 ⊢
 generalize x.2.1.tmod 60=y2 at a2 ⊢
 generalize x.2.2.1.tmod 6=y3 at a3 ⊢
 generalize x.2.2.2.1.tmod 20=y4 at a4 ⊢
 generalize x.2.2.2.2.1.tmod 9=y5 at a5 ⊢
 generalize x.2.2.2.2.2.1.tmod 6=y6 at a6 ⊢
 generalize x.2.2.2.2.2.2.1.tmod 4=y7 at a7 ⊢
 generalize x.2.2.2.2.2.2.2.1.tmod 40=y8 at a8 ⊢
 generalize x.2.2.2.2.2.2.2.2.tmod 50=y9 at a9 ⊢
 rw[bA (n:=y1) (by omega) (by omega),bA (n:=y2) (by omega) (by omega),bA (n:=y3) (by omega) (by omega),bA (n:=y4) (by omega) (by omega),bA (n:=y5) (by omega) (by omega),bA (n:=y6) (by omega) (by omega),bA (n:=y7) (by omega) (by omega),bA (n:=y8) (by omega) (by omega),bA (n:=y9) (by omega) (by omega),
  bA (n:=1+y1) (by omega) (by omega),bA (n:=1+y3) (by omega) (by omega),bA (n:=1+y4) (by omega) (by omega),bA (n:=1+y5) (by omega) (by omega),bA (n:=1+y6) (by omega) (by omega),bA (n:=1+y8) (by omega) (by omega),bA (n:=1+y1+y2) (by omega) (by omega)]
 constructor<;>simp only<;>omega
structure qC(e:cw):Prop extends EvR e where
 addr:167772160<=e.2.1.1/\e.2.1.1<167772176
 hm:iZ e.2.1.2.2
 sm:iZ e.2.2.2.2.1
 ow:e.2.1.2.1.length<=9
 wh:0<=e.1/\e.1<=8
 fr:0<=e.2.2.2.1/\e.2.2.2.1<4
 bt:0<=e.2.2.1.2/\e.2.2.1.2<256
def A6(a:cH):Prop:=kb a.1/\kb a.2.1/\kb a.2.2.1/\kb a.2.2.2.1/\kb a.2.2.2.2.1/\kb a.2.2.2.2.2
theorem Qt:iZ cJ:=⟨⟨by decide,by decide⟩,⟨by decide,by decide⟩,⟨by decide,by decide⟩,⟨by decide,by decide⟩,⟨by decide,by decide⟩,⟨by decide,by decide⟩⟩
theorem zEx(n:Int):0<=IntKind.u8.wrap n/\IntKind.u8.wrap n<=255:=by
 have e:IntKind.u8.wrap n=n % 256:=rfl
 rw[e];omega
theorem zlu(n:Int):∃ m,E6 n=some (m,())/\iZ m:=by
 unfold E6
 cases decide (n>=128)
 ·simp only[bn,aW]
  rw[aC (by decide)]
  have z:ig 0:=⟨by decide,by decide⟩
  have hw:=zEx (1+n.tmod 3)
  exact⟨_,rfl,⟨⟨by show (0:Int)<=2;decide,by show (2:Int)<256;decide⟩,z,z,z,z,⟨hw.1,by show IntKind.u8.wrap (1+n.tmod 3)<256;omega⟩⟩⟩
 ·exact⟨_,rfl,Qt⟩
theorem zEy{a:cH}(h:A6 a):∃ e,Js a=some (e,())/\qC e:=by
 obtain⟨h1,h2,h3,h4,h5,h6⟩:=h
 have a1:=oQ h1 16 (by decide)
 have a2:=oQ h2 16 (by decide)
 have a3:=oQ h2 64 (by decide)
 have a4:=oQ h3 5 (by decide)
 have a5:=oQ h5 8 (by decide)
 have a6:=oQ h5 4 (by decide)
 obtain⟨m1,hm1,hk1⟩:=zlu a.2.2.2.1
 obtain⟨m2,SM,hk2⟩:=zlu (IntKind.u8.wrap (a.2.2.2.1.tdiv 2))
 unfold Js
 simp only[aW]
 generalize a.1.tmod 16=y1 at a1 ⊢
 generalize a.2.1.tmod 16=y2 at a2 ⊢
 generalize a.2.1.tmod 64=y3 at a3 ⊢
 generalize a.2.2.1.tmod 5=y4 at a4 ⊢
 generalize a.2.2.2.2.1.tmod 8=y5 at a5 ⊢
 generalize a.2.2.2.2.1.tmod 4=y6 at a6 ⊢
 have jq:¬ (16:Int)=0:=by decide
 have jd:¬ (8:Int)=0:=by decide
 have ia:¬ (64:Int)=0:=by decide
 have nF:¬ (5:Int)=0:=by decide
 have wK:¬ (4:Int)=0:=by decide
 have hn5:¬ (2:Int)=0:=by decide
 rw[wu8 (n:=y5+1) (by omega) (by omega),wu8 (n:=8+y4) (by omega) (by omega),qY (n:=y2) (by omega) (by omega),qY (n:=y3) (by omega) (by omega),qY (n:=167772160+y2) (by omega) (by omega),qY (n:=167772160+y3) (by omega) (by omega)]
 have XH:cd (167772160+y3):=by unfold cd;omega
 rw[hm1,SM,zDq XH (by omega)]
 have hq:0<=y5/\y5<=y5+1/\y5+1<=8:=by omega
 have hs:(cE y5.toNat (y5+1).toNat [(97:UInt8),98,99,100,101,102,103,104]).length<=8:=by
  unfold cE
  simp
  omega
 have yf:((1+(cE y5.toNat (y5+1).toNat [(97:UInt8),98,99,100,101,102,103,104]).length:Nat):Int)<=9223372036854775807:=by omega
 have hq3:0<=y1/\y1<16:=a1
 have hq4:y1.toNat<16:=by omega
 simp only[aC jq,aC jd,aC ia,aC nF,aC wK,aC hn5,aC hq,aC yf,aC hq3,aC hq4,au]
 refine⟨_,rfl,⟨⟨(zkA XH (by omega)).i,?_⟩,?_,hk1,hk2,?_,?_,by show 0<=IntKind.i64.wrap y6/\IntKind.i64.wrap y6<4;rw[bA (by omega) (by omega)];exact a6,?_⟩⟩
 ·show ([(111:UInt8)]++cE y5.toNat (y5+1).toNat [(97:UInt8),98,99,100,101,102,103,104]).length<=_
  rw[List.length_append,List.length_singleton];omega
 ·show 167772160<=167772160+y2/\167772160+y2<167772176
  omega
 ·show ([(111:UInt8)]++cE y5.toNat (y5+1).toNat [(97:UInt8),98,99,100,101,102,103,104]).length<=_
  rw[List.length_append,List.length_singleton];omega
 ·have fA:∀ x∈[(0:Int),0,0,1,1,2,3,4,5,5,5,6,6,7,5,8],0<=x/\x<=8:=by decide
  show 0<=[(0:Int),0,0,1,1,2,3,4,5,5,5,6,6,7,5,8].getD y1.toNat 0/\[(0:Int),0,0,1,1,2,3,4,5,5,5,6,6,7,5,8].getD y1.toNat 0<=8
  rw[fq _ _ _ (show y1.toNat < [(0:Int),0,0,1,1,2,3,4,5,5,5,6,6,7,5,8].length from hq4)]
  exact fA _ (List.getElem_mem _)
 ·have:=(zkA XH (show 0<=8+y4 by omega)).n
  exact⟨Int.le_trans (by decide) this.1,Int.lt_of_le_of_lt this.2 (by decide)⟩
theorem zEC(t12:List cH)(t13 t14:Int){a:cH}(h:A6 a){e:cw}(he:qC e):∀ (m:Nat) (k:Int) (out:List cw),0<=k->k+(m:Int)=12->out.length+m<=10000->(∀ e∈out,qC e)->
  ∃ qn,Jt (k,t12,t13,t14,out,a.1,a.2.1,a.2.2.1,a.2.2.2.1,a.2.2.2.2.1,a.2.2.2.2.2,e.1,e.2.1.1,e.2.1.2.1,e.2.1.2.2.1,e.2.1.2.2.2.1,e.2.1.2.2.2.2.1,e.2.1.2.2.2.2.2.1,e.2.1.2.2.2.2.2.2.1,e.2.1.2.2.2.2.2.2.2,e.2.2.1.1,e.2.2.1.2,e.2.2.2.1,e.2.2.2.2.1.1,e.2.2.2.2.1.2.1,e.2.2.2.2.1.2.2.1,e.2.2.2.2.1.2.2.2.1,e.2.2.2.2.1.2.2.2.2.1,e.2.2.2.2.1.2.2.2.2.2,e.2.2.2.2.2,())=some (.inl (t12,t13,t14,qn,()))/\qn.length<=out.length+m/\∀ e∈qn,qC e:=by
 have a6:=oQ h.2.2.2.2.2 12 (by decide)
 intro m
 induction m with
 | zero=>
  intro k out hk hm ho ny
  refine⟨out,?_,by omega,ny⟩
  unfold Jt
  refine dm ?_
  show BD k t12 t13 t14 out a.1 a.2.1 a.2.2.1 a.2.2.2.1 a.2.2.2.2.1 a.2.2.2.2.2 e.1 e.2.1.1 e.2.1.2.1 e.2.1.2.2.1 e.2.1.2.2.2.1 e.2.1.2.2.2.2.1 e.2.1.2.2.2.2.2.1 e.2.1.2.2.2.2.2.2.1 e.2.1.2.2.2.2.2.2.2 e.2.2.1.1 e.2.2.1.2 e.2.2.2.1 e.2.2.2.2.1.1 e.2.2.2.2.1.2.1 e.2.2.2.2.1.2.2.1 e.2.2.2.2.1.2.2.2.1 e.2.2.2.2.1.2.2.2.2.1 e.2.2.2.2.1.2.2.2.2.2 e.2.2.2.2.2=_
  unfold BD
  rw[aC (by decide)]
  simp only[aW,cc]
  rw[bA (n:=Int.tmod _ 12) (by omega) (by omega),decide_eq_false (by omega)]
  rfl
 | succ m ih=>
  intro k out hk hm ho ny
  by_cases yu:(decide (k<a.2.2.2.2.2.tmod 12)&&e.1==0)=true
  ·have hb:BD k t12 t13 t14 out a.1 a.2.1 a.2.2.1 a.2.2.2.1 a.2.2.2.2.1 a.2.2.2.2.2 e.1 e.2.1.1 e.2.1.2.1 e.2.1.2.2.1 e.2.1.2.2.2.1 e.2.1.2.2.2.2.1 e.2.1.2.2.2.2.2.1 e.2.1.2.2.2.2.2.2.1 e.2.1.2.2.2.2.2.2.2 e.2.2.1.1 e.2.2.1.2 e.2.2.2.1 e.2.2.2.2.1.1 e.2.2.2.2.1.2.1 e.2.2.2.2.1.2.2.1 e.2.2.2.2.1.2.2.2.1 e.2.2.2.2.1.2.2.2.2.1 e.2.2.2.2.1.2.2.2.2.2 e.2.2.2.2.2=some (.inl (k+1,t12,t13,t14,out++[e],a.1,a.2.1,a.2.2.1,a.2.2.2.1,a.2.2.2.2.1,a.2.2.2.2.2,e.1,e.2.1.1,e.2.1.2.1,e.2.1.2.2.1,e.2.1.2.2.2.1,e.2.1.2.2.2.2.1,e.2.1.2.2.2.2.2.1,e.2.1.2.2.2.2.2.2.1,e.2.1.2.2.2.2.2.2.2,e.2.2.1.1,e.2.2.1.2,e.2.2.2.1,e.2.2.2.2.1.1,e.2.2.2.2.1.2.1,e.2.2.2.2.1.2.2.1,e.2.2.2.2.1.2.2.2.1,e.2.2.2.2.1.2.2.2.2.1,e.2.2.2.2.1.2.2.2.2.2,e.2.2.2.2.2,())):=by
    unfold BD
    rw[aC (by decide)]
    simp only[aW,cc]
    rw[bA (n:=Int.tmod _ 12) (by omega) (by omega),yu,bz,aC (by show _*_<=_;simp;omega),bA (n:=k+1) (by omega) (by omega)]
   obtain⟨qn,h1,h2,h3⟩:=ih (k+1) (out++[e]) (by omega) (by omega) (by simp;omega) (fun y hy=>by
    rcases List.mem_append.1 hy with hy | hy
    ·exact ny y hy
    ·have:y=e:=by simpa using hy
     subst this;exact he)
   refine⟨qn,?_,by simp at h2;omega,h3⟩
   unfold Jt at h1 ⊢
   rw[iI (s':=(k+1,t12,t13,t14,out++[e],a.1,a.2.1,a.2.2.1,a.2.2.2.1,a.2.2.2.2.1,a.2.2.2.2.2,e.1,e.2.1.1,e.2.1.2.1,e.2.1.2.2.1,e.2.1.2.2.2.1,e.2.1.2.2.2.2.1,e.2.1.2.2.2.2.2.1,e.2.1.2.2.2.2.2.2.1,e.2.1.2.2.2.2.2.2.2,e.2.2.1.1,e.2.2.1.2,e.2.2.2.1,e.2.2.2.2.1.1,e.2.2.2.2.1.2.1,e.2.2.2.2.1.2.2.1,e.2.2.2.2.1.2.2.2.1,e.2.2.2.2.1.2.2.2.2.1,e.2.2.2.2.1.2.2.2.2.2,e.2.2.2.2.2,())) hb]
   exact h1
  ·refine⟨out,?_,by omega,ny⟩
   unfold Jt
   refine dm ?_
   show BD k t12 t13 t14 out a.1 a.2.1 a.2.2.1 a.2.2.2.1 a.2.2.2.2.1 a.2.2.2.2.2 e.1 e.2.1.1 e.2.1.2.1 e.2.1.2.2.1 e.2.1.2.2.2.1 e.2.1.2.2.2.2.1 e.2.1.2.2.2.2.2.1 e.2.1.2.2.2.2.2.2.1 e.2.1.2.2.2.2.2.2.2 e.2.2.1.1 e.2.2.1.2 e.2.2.2.1 e.2.2.2.2.1.1 e.2.2.2.2.1.2.1 e.2.2.2.2.1.2.2.1 e.2.2.2.2.1.2.2.2.1 e.2.2.2.2.1.2.2.2.2.1 e.2.2.2.2.1.2.2.2.2.2 e.2.2.2.2.2=_
   unfold BD
   rw[aC (by decide)]
   simp only[aW,cc]
   rw[bA (n:=Int.tmod _ 12) (by omega) (by omega),Bool.eq_false_iff.2 yu]
   rfl
theorem zED{eE:List cH}(h:∀ a∈eE,A6 a):∃ es,Jv eE=some (es,())/\es.length<=1000/\∀ e∈es,qC e:=by
 unfold Jv
 rw[aC (by split<;>omega)]
 have n5:(cE 0 (if (60:Int)<(eE.length:Int) then (60:Int) else (eE.length:Int)).toNat eE).length<=60:=by
  rw[Qh,List.length_take];split<;>omega
 have n9:∀ a∈cE 0 (if (60:Int)<(eE.length:Int) then (60:Int) else (eE.length:Int)).toNat eE,A6 a:=fun a ha=>by
  rw[Qh] at ha
  exact h a (List.take_subset _ _ ha)
 generalize cE 0 (if (60:Int)<(eE.length:Int) then (60:Int) else (eE.length:Int)).toNat eE=l at n5 n9
 suffices H:∀ (m k:Nat) (out:List cw),k+m=l.length->out.length<=13*k->(∀ e∈out,qC e)->∃ es,N5 (l,(l.length:Int),(k:Int),out,())=some (.inl (es,()))/\es.length<=1000/\∀ e∈es,qC e by
  obtain⟨es,g1,g2,g3⟩:=H l.length 0 [] (by omega) (by simp) (by simp)
  have e0:((0:Nat):Int)=0:=rfl
  rw[e0] at g1
  rw[g1]
  exact⟨es,rfl,g2,g3⟩
 intro m
 induction m with
 | zero=>
  intro k out hk ho ny
  refine⟨out,?_,by omega,ny⟩
  unfold N5
  refine dm ?_
  show Ju l (l.length:Int) (k:Int) out=_
  unfold Ju
  rw[decide_eq_false (by omega)];rfl
 | succ m ih=>
  intro k out hk ho ny
  have hkl:k<l.length:=by omega
  obtain⟨e,he1,zK⟩:=zEy (n9 _ (List.getElem_mem hkl))
  obtain⟨qn,i1,i2,i3⟩:=zEC l (l.length:Int) (k:Int) (n9 _ (List.getElem_mem hkl)) zK 12 0 (out++[e]) (by omega) (by omega) (by simp;omega) (fun y hy=>by
    rcases List.mem_append.1 hy with hy | hy
    ·exact ny y hy
    ·have:y=e:=by simpa using hy
     subst this;exact zK)
  have hb:Ju l (l.length:Int) (k:Int) out=some (.inl (l,(l.length:Int),((k+1:Nat):Int),qn,())):=by
   unfold Ju
   rw[decide_eq_true (by omega),bz,aC (by omega)]
   simp only[aW,fi,fT,fq l k _ hkl,he1,au]
   rw[aC (by show _*_<=_;simp;omega),i1,au,dV]
   simp only
   rw[bA (by omega) (by omega)];rfl
  obtain⟨es,g1,g2⟩:=ih (k+1) qn (by omega) (by simp at i2;omega) i3
  refine⟨es,?_,g2⟩
  unfold N5 at g1 ⊢
  rw[iI (s':=(l,(l.length:Int),((k+1:Nat):Int),qn,())) hb]
  exact g1
def Qu(c:bD)(s:bj):bj:=L3 c (GO c (C1 c (C5 c s)))
theorem zEF(q:bj×List ka)(a:Int):(tz q a).1.2.2.2.2.1=q.1.2.2.2.2.1/\(tz q a).1.1=q.1.1/\(tz q a).1.2.2.1=q.1.2.2.1/\(tz q a).1.2.2.2.2.2.2=q.1.2.2.2.2.2.2:=by
 unfold tz
 split<;>exact⟨rfl,rfl,rfl,rfl⟩
theorem zEG{c:bD}{s:bj}:(pN c s).1.2.2.2.2.1=s.2.2.2.2.1/\(pN c s).1.1=s.1/\(pN c s).1.2.2.1=s.2.2.1/\(pN c s).1.2.2.2.2.2.2=s.2.2.2.2.2.2:=by
 unfold pN
 refine C2 (P:=fun (q:bj×List ka) _=>q.1.2.2.2.2.1=s.2.2.2.2.1/\q.1.1=s.1/\q.1.2.2.1=s.2.2.1/\q.1.2.2.2.2.2.2=s.2.2.2.2.2.2) _ (fun k hk q hq=>?_) _ ⟨rfl,rfl,rfl,rfl⟩
 have:=zEF q ((mD c s (pM c (lL c s.2.2.2.2.2.1 s.1 c.2.2.2.2.1))).1[k])
 exact⟨this.1.trans hq.1,this.2.1.trans hq.2.1,this.2.2.1.trans hq.2.2.1,this.2.2.2.trans hq.2.2.2⟩
def its(c:bD):Nat->bj->bj
 | 0,s=>s
 | n+1,s=>Qu c (its c n s)
def fU:bj:=(0,0,[],[],[],[],[])
theorem Qv:cF fU:=⟨by decide,by decide,.nil,by decide,by simp[fU],zDC,.nil,by decide,by simp[fU],⟨by decide,by simp[fU],List.Pairwise.nil⟩,.nil⟩
def jC:bD:=(2,3,1,5,2,2,0,4,4)
theorem C7:ja jC:=by constructor<;>decide
def GS:List UInt8:=[97,110,110]
def mE(a:Int):cw:=(1,(a,GS,0,0,0,0,0,0),(0,0),0,cJ,0)
theorem zlw(a:Int):EvR (mE a):=⟨by show cd 0;unfold cd;decide,by show GS.length<=_;decide⟩
def qD(a:Int):bj:=(0,0,[(a,GS,0,0,0,0,0,0)],[],[],[],[])
theorem XI(c:bD)(a:Int):du c fU (mE a)=(qD a,0,[]):=by
 unfold du pO
 rw[if_neg (show ¬ (mE a).1=0 from by show ¬ (1:Int)=0;decide),if_pos (show (mE a).1=1 from rfl)]
 rfl
theorem zEI(a:Int):cF (qD a):=by
 have:=Qq C7 Qv (zlw a)
 rw[XI] at this
 exact this
theorem zEJ{M:Nat}{e:Sh}{l:List e.T}(h:jK M (.sl e) l):∀ x∈l,jK M e x:=by
 intro x hx
 obtain⟨i,hi,rfl⟩:=List.mem_iff_getElem.1 hx
 exact h.2 i hi
theorem u8b_wf{M:Nat}{a:Int}(h:jK M (.int .u8) a):kb a:=by
 have h1:(0:Int)<=a:=h.1
 have h2:a<=255:=h.2
 exact⟨h1,by omega⟩
theorem c9_wf{M:Nat}{x:bD}(h:jK M (.pair (.int .u8) (.pair (.int .u8) (.pair (.int .u8) (.pair (.int .u8) (.pair (.int .u8) (.pair (.int .u8) (.pair (.int .u8) (.pair (.int .u8) (.int .u8))))))))) x):C9 x:=⟨u8b_wf h.1,u8b_wf h.2.1,u8b_wf h.2.2.1,u8b_wf h.2.2.2.1,u8b_wf h.2.2.2.2.1,u8b_wf h.2.2.2.2.2.1,u8b_wf h.2.2.2.2.2.2.1,u8b_wf h.2.2.2.2.2.2.2.1,u8b_wf h.2.2.2.2.2.2.2.2⟩
theorem zEK{M:Nat}{x:cH}(h:jK M (.pair (.int .u8) (.pair (.int .u8) (.pair (.int .u8) (.pair (.int .u8) (.pair (.int .u8) (.int .u8)))))) x):A6 x:=⟨u8b_wf h.1,u8b_wf h.2.1,u8b_wf h.2.2.1,u8b_wf h.2.2.2.1,u8b_wf h.2.2.2.2.1,u8b_wf h.2.2.2.2.2⟩
theorem acts6_wf{M:Nat}{l:List cH}(h:jK M (.sl (.pair (.int .u8) (.pair (.int .u8) (.pair (.int .u8) (.pair (.int .u8) (.pair (.int .u8) (.int .u8))))))) l):∀ a∈l,A6 a:=fun a ha=>zEK (zEJ h a ha)
end Go.Tr
