/- DaemonDo: a daemon does what events do, and tells it; opened anew it has that.
  Conditions: none. -/
import Derived.Test.YtploofmfghjijaaGreatDaeKd
namespace Go.Tr
open Go
set_option linter.unusedVariables false
set_option linter.unusedSimpArgs false
set_option maxRecDepth 100000
set_option maxHeartbeats 2000000
theorem zlY{α:Type}(z:α)(l:List α)(k:Nat)(h:k<l.length):(Option.rec z (fun val=>val) l[((k:Nat):Int).toNat]? :α)=l[k]:=by
 rw[Int.toNat_natCast,List.getElem?_eq_getElem h]
theorem zlZ(l:List ka)(h:l.length<=1000000):FK l l=some (true,()):=by
 unfold FK
 simp only[aW,bne_self_eq_false,bn]
 have hl:Vt (l,l,(l.length:Int),0,())=some (.inl ()):=by
  unfold Vt
  refine (jL (a:=0) (n:=l.length) (fun k:Nat=>(l,l,(l.length:Int),(k:Int),())) (Nat.zero_le _) fun k _ hk=>?_).trans ?_
  ·unfold Vs
   have e1:(Option.rec (false,(0:Int),(0:Int),cJ,(0:Int),(0:Int)) (fun val=>val) l[((k:Nat):Int).toNat]? :ka)=l[k]:=zlY _ l k hk
   have hw:IntKind.i64.wrap ((k:Int)+1)=((k+1:Nat):Int):=by rw[bA (by omega) (by omega)];omega
   show ay (decide ((k:Int)<(l.length:Int))) _ _=_
   simp only
   rw[decide_eq_true (by omega),bz,aC ⟨by omega,by omega⟩,aW,aC ⟨by omega,by omega⟩]
   simp only[aW,beq_self_eq_true,Bool.and_self,Bool.not_true,bn,hw]
  ·refine dm ?_
   unfold Vs
   show ay (decide ((l.length:Int)<(l.length:Int))) _ _=_
   rw[decide_eq_false (by omega),bn]
 rw[hl,au,dV]
def uJ(every:Int)(k:Nat)(Y:Dm):Dm:=if ((k:Int).tmod (2+every.tmod 30)==1)=true then Y.keep.2 else Y
def qE(k:Nat)(Z:Dm):Dm:=if ((k:Int).tmod 5==4)=true then ⟨Z.c,Z.l.dk.bK.2,Z.s⟩ else Z
noncomputable def ea(x:Dm)(every:Int)(k:Nat)(e:cw):Dm:=
 qE k (uJ every k (x.act e).2.2)
theorem X4{Y:Dm}{N:Nat}(q1:im Y N 512)(ht:Y.l.tn<=1000000)(hN:N<=100000000):
  Y.keep.1=0/\im Y.keep.2 (N+4000) 512/\mF Y.keep.2/\Y.keep.2.l.tn=Y.l.tn+1/\Y.keep.2.c=Y.c/\Y.keep.2.s=Y.s/\ju (Y.keep.2.c,Y.keep.2.l.fG,Y.keep.2.s)=some (0,())/\IntKind.i64.wrap (Y.l.tn+1)=Y.l.tn+1:=by
 have n5:=QB q1.s
 have DY:sec (fg Y.s).length<=218:=by unfold sec;omega
 have QC:Y.l.dk.half>=256:=by have:=q1.l.k;unfold Dk.half;omega
 obtain⟨b1,b2,b3,b4,b5,b6⟩:=q1.l.dM (b:=fg Y.s) (by omega) (GF (q1.s.ok q1.w)) (by omega) (by omega)
 have hZ:im Y.keep.2 (N+4000) 512:=⟨b2,q1.c,q1.s,q1.w⟩
 refine⟨b1,hZ,⟨by show lP Y.c (Y.l.dM (fg Y.s)).2.rc=some Y.s;rw[b3];exact XV _ q1.s q1.w,by show ∀ b t,(Y.l.dM (fg Y.s)).2.rc=b::t->_;rw[b3];exact XT q1.s q1.w⟩,b4,rfl,rfl,?_,bA (by have:=q1.l.ok.t0;omega) (by omega)⟩
 have r2:=Da hZ.l.ok (fun b hb=>by have:=(hZ.l.ok.rb b hb).2;omega)
 have hr:Y.keep.2.l.rc=[fg Y.s]:=b3
 rw[hr] at r2
 exact r2
theorem QI{Y:Dm}{N:Nat}(h:im Y N 512)(hL:mF Y)(hN:N<=100000000):
  iv Y.c Y.l.dk.left Y.l.dk.fail Y.l.dk.down Y.l.dk.calls Y.l.dk.kept Y.l.dk.wait=some (.inl (Dm.ll ⟨Y.c,Y.l.dk.bK.2,Y.s⟩))/\
  lF (Dm.mk Y.c Y.l.dk.bK.2 Y.s).s Y.s=some (true,())/\
  ju ((Dm.mk Y.c Y.l.dk.bK.2 Y.s).c,(Dm.mk Y.c Y.l.dk.bK.2 Y.s).l.fG,(Dm.mk Y.c Y.l.dk.bK.2 Y.s).s)=some ((Y.l.rc.length:Int)-1,())/\
  ju (Y.c,(Y.l.set (Dm.mk Y.c Y.l.dk.bK.2 Y.s).l.dk).fG,Y.s)=some ((Y.l.rc.length:Int)-1,())/\
  lG ((Dm.mk Y.c Y.l.dk.bK.2 Y.s).c,(Dm.mk Y.c Y.l.dk.bK.2 Y.s).l.fG,(Dm.mk Y.c Y.l.dk.bK.2 Y.s).s)=some (Y.l.tn,())/\
  lG (Y.c,(Y.l.set (Dm.mk Y.c Y.l.dk.bK.2 Y.s).l.dk).fG,Y.s)=some (Y.l.tn,())/\
  im ⟨Y.c,Y.l.dk.bK.2,Y.s⟩ (N+1001) 512/\mF ⟨Y.c,Y.l.dk.bK.2,Y.s⟩/\(Dm.mk Y.c Y.l.dk.bK.2 Y.s).c=Y.c/\(Dm.mk Y.c Y.l.dk.bK.2 Y.s).s=Y.s/\(Dm.mk Y.c Y.l.dk.bK.2 Y.s).l.tn=Y.l.tn:=by
 obtain⟨o1,o2,o3,o4,o5,o6⟩:=XX h hL (by omega) hN
 have oo:=o2.l.ok
 have r1:=Da oo (fun b hb=>by have:=(oo.rb b hb).2;omega)
 have mo:(Y.l.set Y.l.dk.bK.2.dk).Ok (N+1001):=⟨oo.dk,h.l.ok.r0,h.l.ok.r1,h.l.ok.n0,h.l.ok.n1,h.l.ok.t0,by have:=h.l.ok.t1;show Y.l.tn<=_;omega,h.l.ok.rl,h.l.ok.rb⟩
 have r2:=Da (x:=⟨Y.c,Y.l.set Y.l.dk.bK.2.dk,Y.s⟩) mo (fun b hb=>by have:=(mo.rb b hb).2;omega)
 have t1:=xS ⟨Y.c,Y.l.dk.bK.2,Y.s⟩
 have t2:=xS ⟨Y.c,Y.l.set Y.l.dk.bK.2.dk,Y.s⟩
 refine⟨?_,C8 h.s,?_,r2,?_,t2,o2,o3,rfl,rfl,o4⟩
 ·rw[h.l.q.left,h.l.q.fail,h.l.q.down,h.l.wt];exact o6
 ·rw[r1];show some ((Y.l.dk.bK.2.rc.length:Int)-1,())=_;rw[o5]
 ·rw[t1];show some (Y.l.dk.bK.2.tn,())=_;rw[o4]
theorem zFQ{x:Dm}{N:Nat}(h:im x N 512)(hL:mF x)(ht:x.l.tn<=100000)(hN:N<=10000000){es:List cw}{k:Nat}(hk:k<es.length)(hl:es.length<=1000){e:cw}(kF:es[k]=e)(he:ln e){every:Int}(iE:kb every):
  KO every es (es.length:Int) (k:Int) x.c x.l.dk.left x.l.dk.fail x.l.dk.down x.l.dk.calls x.c.1 x.c.2.1 x.c.2.2.1 x.c.2.2.2.1 x.c.2.2.2.2.1 x.c.2.2.2.2.2.1 x.c.2.2.2.2.2.2.1 x.c.2.2.2.2.2.2.2.1 x.c.2.2.2.2.2.2.2.2 x.s.1 x.s.2.1 x.s.2.2.1 x.s.2.2.2.1 x.s.2.2.2.2.1 x.s.2.2.2.2.2.1 x.s.2.2.2.2.2.2 x.s x.l.dk.kept x.l.dk.wait x.l.rg x.l.tn x.l.nx x.l.br x.l.rc=
   some (.inl (every,es,(es.length:Int),((k+1:Nat):Int),x.c,(ea x every k e).l.dk.left,(ea x every k e).l.dk.fail,(ea x every k e).l.dk.down,(ea x every k e).l.dk.calls,(ea x every k e).c.1,(ea x every k e).c.2.1,(ea x every k e).c.2.2.1,(ea x every k e).c.2.2.2.1,(ea x every k e).c.2.2.2.2.1,(ea x every k e).c.2.2.2.2.2.1,(ea x every k e).c.2.2.2.2.2.2.1,(ea x every k e).c.2.2.2.2.2.2.2.1,(ea x every k e).c.2.2.2.2.2.2.2.2,(ea x every k e).s.1,(ea x every k e).s.2.1,(ea x every k e).s.2.2.1,(ea x every k e).s.2.2.2.1,(ea x every k e).s.2.2.2.2.1,(ea x every k e).s.2.2.2.2.2.1,(ea x every k e).s.2.2.2.2.2.2,(ea x every k e).s,(ea x every k e).l.dk.kept,(ea x every k e).l.dk.wait,(ea x every k e).l.rg,(ea x every k e).l.tn,(ea x every k e).l.nx,(ea x every k e).l.br,(ea x every k e).l.rc,())):=by
 have e1:(Option.rec jh (fun val=>val) es[((k:Nat):Int).toNat]? :cw)=e:=by
  rw[<-kF];exact zlY _ _ _ hk
 have hw:IntKind.i64.wrap ((k:Int)+1)=((k+1:Nat):Int):=by rw[bA (by omega) (by omega)];omega
 have zGS:0<=every.tmod 30/\every.tmod 30<30:=by
  unfold kb at iE
  rw[Int.tmod_eq_emod_of_nonneg iE.1]
  omega
 have Hv:IntKind.i64.wrap (every.tmod 30)=every.tmod 30:=bA (by omega) (by omega)
 have hw3:IntKind.i64.wrap (2+every.tmod 30)=2+every.tmod 30:=bA (by omega) (by omega)
 have hst:=GV (c:=x.c) h.s h.w he.wf.a he.wf.m he.wf.s
 have aq:=Md h (by omega) (by omega) he.r he.wf he.ow hst
 have T:=Dd (x:=x) h.s he.r
 have GY:=XW h hL (by omega) (by omega) he
 have d1:=GW h.l.ok (by omega) h.c h.s h.w he.r he.wf he.ow
 have ed:=Qr h.c h.s he.r
 have AN:=zlB h.c h.s e
 have lp:im (x.act e).2.2 (N+6000) 512:=by
  rcases aq with⟨_,g2,_⟩ | ⟨_,_,_,_,g5,_⟩
  ·rw[g2];exact h.mono (by omega)
  ·exact g5
 have hYt:(x.act e).2.2.l.tn<=1000000:=by
  rcases aq with⟨_,g2,_⟩ | ⟨_,_,_,_,_,_,g7,_⟩
  ·rw[g2];omega
  ·omega
 have zl2:(du x.c x.s e).2.1≠0->(du x.c x.s e).1=x.s/\(du x.c x.s e).2.2=[]:=fun h0=>by
  unfold du at h0 ⊢
  split at h0
  ·exact absurd rfl h0
  ·rename_i h2
   rw[if_neg h2]
   exact⟨zEU h0,rfl⟩
 have zl3:x.c=(x.act e).2.2.c:=T.2.2.2.2.1.symm
 have vP:(x.act e).2.2.l.br=false:=lp.l.br
 unfold KO
 rw[decide_eq_true (by omega),bz,aC ⟨by omega,by omega⟩]
 simp only[aW,e1]
 rw[ed,au,zju he.wf,au,Lq (GU he.wf),au]
 simp only
 have hNN:N+6000<=100000000:=by omega
 by_cases hr:(eS (cS e)).2=true
 ·have a1:(x.act e).2.1=(du x.c x.s e).2.1:=by
   rcases aq with⟨_,_,g3⟩ | ⟨g1,_,g3,_⟩
   ·rw[g3,if_neg (by simp[hr])]
   ·rw[g1,g3]
  have a2:(x.act e).1=(du x.c x.s e).2.2:=by
   by_cases h0:(x.act e).2.1=0
   ·rcases aq with⟨g1,_⟩ | ⟨_,_,_,g4,_⟩
    ·exact absurd h0 g1
    ·exact g4
   ·rw[T.2.2.1 h0,(zl2 (by rw[<-a1];exact h0)).2]
  have a3:(x.act e).2.2.s=(du x.c x.s e).1:=by
   rw[T.2.2.2.2.2]
   split
   ·rfl
   ·rename_i h0;exact (zl2 (by rw[<-a1];exact h0)).1.symm
  have o1:qo ((x.act e).2.2.c,(x.act e).2.2.l.fG,(x.act e).2.2.s)=some (false,()):=by rw[Qw,vP]
  have s1:=C8 lp.s
  have u1:=Qx (x:=(x.act e).2.2) lp.c lp.s e.2.1.1
  have u2:=CZ lp.c lp.s.dC e.2.1.1
  rw[hr]
  simp only[Bool.not_true,bn]
  erw [d1]
  rw[au]
  generalize Mi:(x.act e).2.2=Y at*
  simp only[a1,a2,bne_self_eq_false,Bool.not_false,fW,Dm.out,cc,dI]
  rw[zlZ _ (by omega),au]
  rw[<-a3]
  simp only[Bool.not_true,Bool.or_false,bn,au,cc,dI,vw]
  erw [s1]
  rw[au]
  simp only[Bool.not_true,Bool.not_false,fW,cc,dI]
  erw [o1]
  rw[au]
  simp only[Bool.or_false,Bool.not_false,fW,cc,dI]
  erw [u1]
  rw[au,zl3]
  erw [u2]
  rw[au]
  simp only[bne_self_eq_false,Bool.or_false,bn,Hv,hw3]
  rw[aC (by decide),aC (by omega)]
  have X6:=GY
  have X7:=hNN
  have Mj:Y.c=Y.c:=rfl
  have xV:Y.s=Y.s:=rfl
  cases Mk:(k:Int).tmod (2+every.tmod 30)==1
  ·have Dg:¬ ((k:Int).tmod (2+every.tmod 30)==1)=true:=by simp[Mk]
   have rW:ea x every k e=qE k Y:=by
    unfold ea uJ
    rw[Mi,if_neg Dg]
   simp only[bn]
   cases uK:((k:Int).tmod 5==4)
   ·have pP:¬ ((k:Int).tmod 5==4)=true:=by simp[uK]
    have hst:ea x every k e=Y:=by rw[rW];unfold qE;rw[if_neg pP]
    rw[hst]
    rw[aC (by decide)]
    simp only[bn,hw,xV]
   ·have pP:((k:Int).tmod 5==4)=true:=uK
    obtain⟨f1,f2,f3,uL,f4,uM,f5,f6,f7,f8,f9⟩:=QI lp X6 (by omega)
    generalize hW:(⟨Y.c,Y.l.dk.bK.2,Y.s⟩:Dm)=W at f1 f2 f3 uL f4 uM f5 f6 f7 f8 f9
    have hst:ea x every k e=W:=by rw[rW];unfold qE;rw[if_pos pP,hW]
    rw[hst]
    rw[aC (by decide)]
    simp only[bz]
    rw[Mj]
    erw [f1]
    rw[au,dV]
    simp only[Dm.ll,aW,cc,dI,vw,bne_self_eq_false,Bool.or_false,Bool.not_false,fW,au]
    erw [f2]
    rw[au]
    simp only[Bool.not_true,Bool.or_false,Bool.not_false,fW]
    erw [f3]
    rw[au]
    erw [uL]
    rw[au]
    simp only[bne_self_eq_false,Bool.or_false,Bool.not_false,fW]
    erw [f4]
    rw[au]
    erw [uM]
    rw[au]
    simp only[bne_self_eq_false,Bool.or_false,bn,hw,f8,xV]
  ·have Dg:((k:Int).tmod (2+every.tmod 30)==1)=true:=Mk
   obtain⟨g1,g2,g3,g4,g5,g6,g7,g8⟩:=X4 lp hYt X7
   have t1:=xS Y
   have t2:=xS Y.keep.2
   have k1:=L8 lp.l.ok (by omega) lp.s lp.w
   rw[g1] at k1
   rw[g4] at t2
   have rW:ea x every k e=qE k Y.keep.2:=by
    unfold ea uJ
    rw[Mi,if_pos Dg]
   generalize Y.keep.2=Z at g2 g3 g4 g5 g6 g7 g8 t2 k1 rW
   have X8:Y.c=Z.c:=g5.symm
   simp only[bz]
   erw [t1]
   rw[au]
   erw [k1]
   rw[au]
   simp only[Dm.out,bne_self_eq_false,Bool.not_false,fW]
   erw [t2]
   rw[au]
   simp only[g8,bne_self_eq_false,Bool.or_false,Bool.false_or,Bool.not_false,fW]
   erw [g7]
   rw[au]
   simp only[bne_self_eq_false,Bool.or_false,bn]
   cases uK:((k:Int).tmod 5==4)
   ·have pP:¬ ((k:Int).tmod 5==4)=true:=by simp[uK]
    have hst:ea x every k e=Z:=by rw[rW];unfold qE;rw[if_neg pP]
    rw[hst]
    rw[aC (by decide)]
    simp only[bn,hw,xV,g6]
   ·have pP:((k:Int).tmod 5==4)=true:=uK
    obtain⟨f1,f2,f3,uL,f4,uM,f5,f6,f7,f8,f9⟩:=QI g2 g3 (by omega)
    generalize hW:(⟨Z.c,Z.l.dk.bK.2,Z.s⟩:Dm)=W at f1 f2 f3 uL f4 uM f5 f6 f7 f8 f9
    have hst:ea x every k e=W:=by rw[rW];unfold qE;rw[if_pos pP,hW]
    rw[hst]
    rw[aC (by decide)]
    simp only[bz]
    rw[g6] at f2
    rw[Mj.trans X8]
    erw [f1]
    rw[au,dV]
    simp only[Dm.ll,aW,cc,dI,vw,bne_self_eq_false,Bool.or_false,Bool.not_false,fW,au]
    erw [f2]
    rw[au]
    simp only[Bool.not_true,Bool.or_false,Bool.not_false,fW]
    erw [f3]
    rw[au]
    erw [uL]
    rw[au]
    simp only[bne_self_eq_false,Bool.or_false,Bool.not_false,fW]
    erw [f4]
    rw[au]
    erw [uM]
    rw[au]
    simp only[bne_self_eq_false,Bool.or_false,bn,hw,f8,xV,g6]
 ·have AW:(eS (cS e)).2=false:=by simpa using hr
  have a0:x.act e=([],12,x):=by
   unfold Dm.act
   rw[h.l.br,if_neg (by simp),if_pos AW]
  have a1:(x.act e).2.1=12:=by rw[a0]
  have a2:(x.act e).1=[]:=by rw[a0]
  have a3:(x.act e).2.2.s=x.s:=by rw[a0]
  have o1:qo ((x.act e).2.2.c,(x.act e).2.2.l.fG,(x.act e).2.2.s)=some (false,()):=by rw[Qw,vP]
  have s1:=C8 lp.s
  have u1:=Qx (x:=(x.act e).2.2) lp.c lp.s e.2.1.1
  have u2:=CZ lp.c lp.s.dC e.2.1.1
  rw[AW]
  simp only[Bool.not_false,bz]
  erw [d1]
  rw[au]
  clear a0
  generalize Mi:(x.act e).2.2=Y at*
  simp only[a1,a2,bne_self_eq_false,Bool.not_false,fW,Dm.out,cc,dI]
  rw[zlZ _ (by simp),au]
  rw[<-a3]
  simp only[Bool.not_true,Bool.or_false,bn,au,cc,dI,vw]
  erw [s1]
  rw[au]
  simp only[Bool.not_true,Bool.not_false,fW,cc,dI]
  erw [o1]
  rw[au]
  simp only[Bool.or_false,Bool.not_false,fW,cc,dI]
  erw [u1]
  rw[au,zl3]
  erw [u2]
  rw[au]
  simp only[bne_self_eq_false,Bool.or_false,bn,Hv,hw3]
  rw[aC (by decide),aC (by omega)]
  have X6:=GY
  have X7:=hNN
  have Mj:Y.c=Y.c:=rfl
  have xV:Y.s=Y.s:=rfl
  cases Mk:(k:Int).tmod (2+every.tmod 30)==1
  ·have Dg:¬ ((k:Int).tmod (2+every.tmod 30)==1)=true:=by simp[Mk]
   have rW:ea x every k e=qE k Y:=by
    unfold ea uJ
    rw[Mi,if_neg Dg]
   simp only[bn]
   cases uK:((k:Int).tmod 5==4)
   ·have pP:¬ ((k:Int).tmod 5==4)=true:=by simp[uK]
    have hst:ea x every k e=Y:=by rw[rW];unfold qE;rw[if_neg pP]
    rw[hst]
    rw[aC (by decide)]
    simp only[bn,hw,xV]
   ·have pP:((k:Int).tmod 5==4)=true:=uK
    obtain⟨f1,f2,f3,uL,f4,uM,f5,f6,f7,f8,f9⟩:=QI lp X6 (by omega)
    generalize hW:(⟨Y.c,Y.l.dk.bK.2,Y.s⟩:Dm)=W at f1 f2 f3 uL f4 uM f5 f6 f7 f8 f9
    have hst:ea x every k e=W:=by rw[rW];unfold qE;rw[if_pos pP,hW]
    rw[hst]
    rw[aC (by decide)]
    simp only[bz]
    rw[Mj]
    erw [f1]
    rw[au,dV]
    simp only[Dm.ll,aW,cc,dI,vw,bne_self_eq_false,Bool.or_false,Bool.not_false,fW,au]
    erw [f2]
    rw[au]
    simp only[Bool.not_true,Bool.or_false,Bool.not_false,fW]
    erw [f3]
    rw[au]
    erw [uL]
    rw[au]
    simp only[bne_self_eq_false,Bool.or_false,Bool.not_false,fW]
    erw [f4]
    rw[au]
    erw [uM]
    rw[au]
    simp only[bne_self_eq_false,Bool.or_false,bn,hw,f8,xV]
  ·have Dg:((k:Int).tmod (2+every.tmod 30)==1)=true:=Mk
   obtain⟨g1,g2,g3,g4,g5,g6,g7,g8⟩:=X4 lp hYt X7
   have t1:=xS Y
   have t2:=xS Y.keep.2
   have k1:=L8 lp.l.ok (by omega) lp.s lp.w
   rw[g1] at k1
   rw[g4] at t2
   have rW:ea x every k e=qE k Y.keep.2:=by
    unfold ea uJ
    rw[Mi,if_pos Dg]
   generalize Y.keep.2=Z at g2 g3 g4 g5 g6 g7 g8 t2 k1 rW
   have X8:Y.c=Z.c:=g5.symm
   simp only[bz]
   erw [t1]
   rw[au]
   erw [k1]
   rw[au]
   simp only[Dm.out,bne_self_eq_false,Bool.not_false,fW]
   erw [t2]
   rw[au]
   simp only[g8,bne_self_eq_false,Bool.or_false,Bool.false_or,Bool.not_false,fW]
   erw [g7]
   rw[au]
   simp only[bne_self_eq_false,Bool.or_false,bn]
   cases uK:((k:Int).tmod 5==4)
   ·have pP:¬ ((k:Int).tmod 5==4)=true:=by simp[uK]
    have hst:ea x every k e=Z:=by rw[rW];unfold qE;rw[if_neg pP]
    rw[hst]
    rw[aC (by decide)]
    simp only[bn,hw,xV,g6]
   ·have pP:((k:Int).tmod 5==4)=true:=uK
    obtain⟨f1,f2,f3,uL,f4,uM,f5,f6,f7,f8,f9⟩:=QI g2 g3 (by omega)
    generalize hW:(⟨Z.c,Z.l.dk.bK.2,Z.s⟩:Dm)=W at f1 f2 f3 uL f4 uM f5 f6 f7 f8 f9
    have hst:ea x every k e=W:=by rw[rW];unfold qE;rw[if_pos pP,hW]
    rw[hst]
    rw[aC (by decide)]
    simp only[bz]
    rw[g6] at f2
    rw[Mj.trans X8]
    erw [f1]
    rw[au,dV]
    simp only[Dm.ll,aW,cc,dI,vw,bne_self_eq_false,Bool.or_false,Bool.not_false,fW,au]
    erw [f2]
    rw[au]
    simp only[Bool.not_true,Bool.or_false,Bool.not_false,fW]
    erw [f3]
    rw[au]
    erw [uL]
    rw[au]
    simp only[bne_self_eq_false,Bool.or_false,Bool.not_false,fW]
    erw [f4]
    rw[au]
    erw [uM]
    rw[au]
    simp only[bne_self_eq_false,Bool.or_false,bn,hw,f8,xV,g6]
theorem zFR{x:Dm}{N:Nat}(h:im x N 512)(hL:mF x)(ht:x.l.tn<=100000)(hN:N<=10000000){e:cw}(he:ln e)(every:Int)(k:Nat):
  im (ea x every k e) (N+12000) 512/\mF (ea x every k e)/\(ea x every k e).l.tn<=x.l.tn+2/\(ea x every k e).c=x.c:=by
 have hst:=GV (c:=x.c) h.s h.w he.wf.a he.wf.m he.wf.s
 have aq:=Md h (by omega) (by omega) he.r he.wf he.ow hst
 have T:=Dd (x:=x) h.s he.r
 have GY:=XW h hL (by omega) (by omega) he
 have hY:im (x.act e).2.2 (N+6000) 512/\(x.act e).2.2.l.tn<=x.l.tn+1:=by
  rcases aq with⟨_,g2,_⟩ | ⟨_,_,_,_,g5,_,g7,_⟩
  ·rw[g2];exact⟨h.mono (by omega),by omega⟩
  ·exact⟨g5,g7⟩
 have hZ:im (uJ every k (x.act e).2.2) (N+10000) 512/\mF (uJ every k (x.act e).2.2)/\(uJ every k (x.act e).2.2).l.tn<=x.l.tn+2/\(uJ every k (x.act e).2.2).c=x.c:=by
  unfold uJ
  split
  ·obtain⟨g1,g2,g3,g4,g5,_⟩:=X4 hY.1 (by omega) (by omega)
   exact⟨g2.mono (by omega),g3,by omega,g5.trans T.2.2.2.2.1⟩
  ·exact⟨hY.1.mono (by omega),GY,by omega,T.2.2.2.2.1⟩
 unfold ea qE
 split
 ·obtain⟨o1,o2,o3,o4,_⟩:=XX hZ.1 hZ.2.1 (by omega) (by omega)
  exact⟨o2.mono (by omega),o3,by show (uJ every k (x.act e).2.2).l.dk.bK.2.tn<=_;rw[o4];exact hZ.2.2.1,hZ.2.2.2⟩
 ·exact⟨hZ.1.mono (by omega),hZ.2.1,hZ.2.2.1,hZ.2.2.2⟩
noncomputable def dp(x:Dm)(every:Int)(es:List cw):Nat->Dm
 | 0=>x
 | k+1=>ea (dp x every es k) every k (es.getD k jh)
theorem zFS{x:Dm}{N:Nat}(h:im x N 512)(hL:mF x)(ht:x.l.tn<=1000)(hN:N<=10000){es:List cw}(hl:es.length<=200)(he:∀ e∈es,ln e)(every:Int):∀ k,k<=es.length->
  im (dp x every es k) (N+12000*k) 512/\mF (dp x every es k)/\(dp x every es k).l.tn<=x.l.tn+2*k/\(dp x every es k).c=x.c:=by
 intro k
 induction k with
 | zero=>intro _;exact⟨h,hL,by show x.l.tn<=x.l.tn+2*((0:Nat):Int);omega,rfl⟩
 | succ k ih=>
  intro hk
  obtain⟨h1,h2,h3,h4⟩:=ih (by omega)
  have kF:=he _ (List.getElem_mem (show k<es.length by omega))
  have hg:es.getD k jh=es[k]:=by rw[List.getD_eq_getElem?_getD,List.getElem?_eq_getElem (by omega)];rfl
  obtain⟨s1,s2,s3,s4⟩:=zFR h1 h2 (by omega) (by omega) kF every k
  show im (ea (dp x every es k) every k (es.getD k jh)) _ 512/\mF (ea (dp x every es k) every k (es.getD k jh))/\(ea (dp x every es k) every k (es.getD k jh)).l.tn<=_/\(ea (dp x every es k) every k (es.getD k jh)).c=_
  rw[hg]
  exact⟨s1.mono (by omega),s2,by omega,s4.trans h4⟩
theorem zFT{x:Dm}{N:Nat}(h:im x N 512)(hL:mF x)(ht:x.l.tn<=1000)(hN:N<=10000){es:List cw}(hl:es.length<=200)(he:∀ e∈es,ln e){every:Int}(iE:kb every):
  Vz (every,es,(es.length:Int),0,x.c,x.l.dk.left,x.l.dk.fail,x.l.dk.down,x.l.dk.calls,x.c.1,x.c.2.1,x.c.2.2.1,x.c.2.2.2.1,x.c.2.2.2.2.1,x.c.2.2.2.2.2.1,x.c.2.2.2.2.2.2.1,x.c.2.2.2.2.2.2.2.1,x.c.2.2.2.2.2.2.2.2,x.s.1,x.s.2.1,x.s.2.2.1,x.s.2.2.2.1,x.s.2.2.2.2.1,x.s.2.2.2.2.2.1,x.s.2.2.2.2.2.2,x.s,x.l.dk.kept,x.l.dk.wait,x.l.rg,x.l.tn,x.l.nx,x.l.br,x.l.rc,())=some (.inl ()):=by
 unfold Vz
 have A:=zFS h hL ht hN hl he every
 refine (jL (a:=0) (n:=es.length) (fun k:Nat=>(every,es,(es.length:Int),(k:Int),x.c,(dp x every es k).l.dk.left,(dp x every es k).l.dk.fail,(dp x every es k).l.dk.down,(dp x every es k).l.dk.calls,(dp x every es k).c.1,(dp x every es k).c.2.1,(dp x every es k).c.2.2.1,(dp x every es k).c.2.2.2.1,(dp x every es k).c.2.2.2.2.1,(dp x every es k).c.2.2.2.2.2.1,(dp x every es k).c.2.2.2.2.2.2.1,(dp x every es k).c.2.2.2.2.2.2.2.1,(dp x every es k).c.2.2.2.2.2.2.2.2,(dp x every es k).s.1,(dp x every es k).s.2.1,(dp x every es k).s.2.2.1,(dp x every es k).s.2.2.2.1,(dp x every es k).s.2.2.2.2.1,(dp x every es k).s.2.2.2.2.2.1,(dp x every es k).s.2.2.2.2.2.2,(dp x every es k).s,(dp x every es k).l.dk.kept,(dp x every es k).l.dk.wait,(dp x every es k).l.rg,(dp x every es k).l.tn,(dp x every es k).l.nx,(dp x every es k).l.br,(dp x every es k).l.rc,())) (Nat.zero_le _) fun k _ hk=>?_).trans ?_
 ·have kF:=he _ (List.getElem_mem hk)
  obtain⟨h1,h2,h3,h4⟩:=A k (by omega)
  have st:=zFQ h1 h2 (by omega) (by omega) hk (by omega) rfl kF iE
  rw[h4] at st
  have hg:es.getD k jh=es[k]:=by rw[List.getD_eq_getElem?_getD,List.getElem?_eq_getElem (by omega)];rfl
  have hs:dp x every es (k+1)=ea (dp x every es k) every k es[k]:=by rw[<-hg];rfl
  simp only[hs]
  rw[h4]
  exact st
 ·refine dm ?_
  show KO every es (es.length:Int) (es.length:Int) x.c (dp x every es es.length).l.dk.left (dp x every es es.length).l.dk.fail (dp x every es es.length).l.dk.down (dp x every es es.length).l.dk.calls (dp x every es es.length).c.1 (dp x every es es.length).c.2.1 (dp x every es es.length).c.2.2.1 (dp x every es es.length).c.2.2.2.1 (dp x every es es.length).c.2.2.2.2.1 (dp x every es es.length).c.2.2.2.2.2.1 (dp x every es es.length).c.2.2.2.2.2.2.1 (dp x every es es.length).c.2.2.2.2.2.2.2.1 (dp x every es es.length).c.2.2.2.2.2.2.2.2 (dp x every es es.length).s.1 (dp x every es es.length).s.2.1 (dp x every es es.length).s.2.2.1 (dp x every es es.length).s.2.2.2.1 (dp x every es es.length).s.2.2.2.2.1 (dp x every es es.length).s.2.2.2.2.2.1 (dp x every es es.length).s.2.2.2.2.2.2 (dp x every es es.length).s (dp x every es es.length).l.dk.kept (dp x every es es.length).l.dk.wait (dp x every es es.length).l.rg (dp x every es es.length).l.tn (dp x every es es.length).l.nx (dp x every es es.length).l.br (dp x every es es.length).l.rc=_
  unfold KO
  rw[decide_eq_false (by omega),bn]
theorem daemonDo_law{x:bD}(hx:C9 x){eE:List cH}(ha:∀ a∈eE,A6 a){every:Int}(iE:kb every):VA x eE every=some (true,()):=by
 unfold VA
 rw[Mf,au]
 simp only[Bool.not_true,bn]
 obtain⟨c,h1,hc⟩:=Qs hx
 obtain⟨es,e1,e2,e3⟩:=QG ha
 rw[h1,au]
 have e0:oB (512:Int)=_:=GX 512 (by omega)
 rw[e0,au]
 simp only
 have e4:iv c (-1) (-1) false 0 (List.replicate 512 (List.replicate 64 0)) []=_:=Me hc (n:=512) (by omega) (by omega)
 rw[e4,au,dV]
 have hQ:=QE hc (n:=512) (by omega) (by omega)
 have hL:=XY c (n:=512) (by omega) (by omega)
 have ht:=(xT (n:=512) (by omega) (by omega)).2.2.2.1
 simp only[Dm.ll,aW,cc,dI,bne_self_eq_false,Bool.or_false,bn]
 rw[e1,au]
 have uI:∀ e∈es,ln e:=fun e he=>(e3 e he).toB
 generalize (fE 512).bK.2=L at*
 have dl:=zFT hQ hL (by show L.tn<=_;omega) (by omega) e2 uI iE
 simp only at dl ⊢
 erw [dl]
 rw[au,dV]
end Go.Tr
