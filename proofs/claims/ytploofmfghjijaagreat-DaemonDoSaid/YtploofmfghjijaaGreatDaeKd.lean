/- The document's examples of the daemon. Daemons behind acts; events that are read back from their bytes. DaemonKeep: a log that is begun anew has what was there, in one record. Conditions: none but those that each theorem states. -/
import Derived.Test.YtploofmfghjijaaGreatDaeKc
import Derived.KernelRfl
namespace Go.Tr
open Go
set_option linter.unusedVariables false
set_option linter.unusedSimpArgs false
set_option maxRecDepth 100000
theorem zFm(mask torn bytes lf fl:Int)(dn:Bool)(c:Int)(k:List (List Int)):KC mask torn bytes lf fl dn c k []=some ([],-1,-1,false,c,k,()):=by
 have hl:Vc (mask,torn,bytes,((([]:List (Int×List Int)).length:Nat):Int),0,lf,fl,dn,c,k,[],())=some (.inl (lf,fl,dn,c,k,[],())):=by
  unfold Vc
  refine dm ?_
  show Vb mask torn bytes 0 0 lf fl dn c k []=_
  unfold Vb
  rw[decide_eq_false (by omega),bn]
 unfold KC
 rw[hl];rfl
theorem zFn(c:bD){n:Nat}(h1:8<=n)(h2:n<=512):nU c (fE n)=(0,⟨c,(fE n).bK.2,fU⟩):=by
 obtain⟨a1,a2,a3,_⟩:=xT h1 h2
 unfold nU
 rw[if_neg (by simp[a1]),a3]
 rfl
theorem QE{c:bD}(hc:ja c){n:Nat}(h1:8<=n)(h2:n<=512):im ⟨c,(fE n).bK.2,fU⟩ 4000 n:=⟨(xT h1 h2).2.1,hc,Qv,zlA⟩
theorem Me{c:bD}(hc:ja c){n:Nat}(h1:8<=n)(h2:n<=512):iv c (-1) (-1) false 0 (List.replicate n zS) []=some (.inl (Dm.ll ⟨c,(fE n).bK.2,fU⟩)):=by
 have a3:=(xT h1 h2).2.2.1
 have:=Qz hc (d:=fE n) (XP h2) (by omega) (fun b t De ht hb _=>by rw[a3] at De;simp at De;exact absurd De.2.symm (by simpa using ht))
 rw[zFn c h1 h2,if_pos rfl] at this
 exact this
theorem zFo{x:Dm}{N K:Nat}(h:nj x.l N K){e:cw}(hf:rR e)(h1:(eS (cS e)).2=true)(h2:(du x.c x.s e).2.1=0)(gL:(cS e).length<=16384)(hin:x.l.nx+sec (cS e).length<=x.l.dk.half):
  x.act e=((du x.c x.s e).2.2,0,⟨x.c,(x.l.app (cS e)).2,(du x.c x.s e).1⟩):=by
 obtain⟨a1,_⟩:=h.app (GU hf) gL hin
 unfold Dm.act
 rw[h.br,if_neg (by simp),if_neg (by simp[h1]),if_neg (by simp[h2]),if_neg (by rw[a1];decide),if_neg (by simp[a1])]
theorem QF:rR (mE 5):=by
 have z:cd 0:=by unfold cd;decide
 have z5:cd 5:=by unfold cd;decide
 exact⟨z5,by show GS.length<=_;decide,Qt,z,Qt,by show -9223372036854775808<=(1:Int)/\(1:Int)<=_;decide⟩
theorem zlP:eS (cS (mE 5))=(mE 5,true):=by
 rw[zjv QF (by show GS.length<=_;decide) (by show 0<=(1:Int)/\(1:Int)<=255;decide),zjw]
 rfl
theorem XS:(cS (mE 5)).length=15:=by kernel_rfl
theorem zFp:ni jC (qD 5) 5=1:=by kernel_rfl
theorem Mf:xl=some (true,()):=by
 unfold xl
 have e0:oB (80:Int)=_:=GX 80 (by omega)
 rw[e0,au]
 simp only
 have e1:iv ((2,3,1,5,2,2,0,4,4):bD) (-1) (-1) false 0 (List.replicate 80 (List.replicate 64 0)) []=_:=Me C7 (n:=80) (by omega) (by omega)
 rw[e1,au,dV]
 obtain⟨o1,o2,o3,o4,o5⟩:=xT (n:=80) (by omega) (by omega)
 generalize hL:(fE 80).bK.2=l at*
 simp only[Dm.ll,aW,cc,dI,bne_self_eq_false,Bool.or_false,bn]
 have e2:=GW (x:=⟨jC,l,fU⟩) (e:=mE 5) o2.ok (by omega) C7 Qv zlA (zlw 5) QF (by show GS.length<=_;decide)
 have QC:l.dk.half=40:=by have:=o2.k;unfold Dk.half;omega
 have xF:sec (cS (mE 5)).length=2:=by rw[XS];decide
 have ha:=zFo (x:=⟨jC,l,fU⟩) o2 QF (by rw[zlP]) (by show (du jC fU (mE 5)).2.1=0;rw[XI]) (by rw[XS];omega) (by rw[xF];show l.nx+2<=l.dk.half;omega)
 have hd:du jC fU (mE 5)=(qD 5,0,[]):=XI jC 5
 simp only[hd] at ha
 rw[ha] at e2
 obtain⟨a1,a2,a3,a4,a5,a6⟩:=o2.app (GU QF) (by rw[XS];omega) (by rw[xF];omega)
 generalize hL2:(l.app (cS (mE 5))).2=l2 at*
 have e2':sQ ((1,(5,[97,110,110],0,0,0,0,0,0),(0,0),0,cJ,0):cw) 2 3 1 5 2 2 0 4 4 0 0 [] [] [] [] [] l.rg l.tn l.nx l.br l.dk.left l.dk.fail l.dk.down l.dk.calls l.dk.kept l.dk.wait l.rc=some ([],0,Dm.out ⟨jC,l2,qD 5⟩):=e2
 simp only[jC,fU]
 rw[e2',au]
 simp only[Dm.out,a2.wt]
 rw[zFm,au]
 simp only
 have b:=a2.bK (by omega) (by omega)
 obtain⟨b1,b2,b3,b4,b5⟩:=b
 have kz:l2.dk.bK.2.rc=[[],cS (mE 5)]:=by rw[b3,a3,o3];rfl
 have e3:=Qz C7 (d:=l2.dk) a2.ok.dk (by omega) (fun b t De ht hb _=>by rw[kz] at De;simp at De;obtain⟨hh,_⟩:=De;subst hh;simp at hb)
 have bT:nU jC l2.dk=(0,⟨jC,l2.dk.bK.2,qD 5⟩):=by
  unfold nU
  rw[if_neg (by simp[b1]),kz]
  have:lP jC [[],cS (mE 5)]=some (qD 5):=by
   show (if ([]:List Int).length>0 then (if (gj []).2=true then jb jC [cS (mE 5)] (gj []).1 else none) else jb jC [cS (mE 5)] fU)=_
   rw[if_neg (by simp)]
   show (if (eS (cS (mE 5))).2=true then jb jC [] (du jC fU (eS (cS (mE 5))).1).1 else none)=_
   rw[zlP,if_pos rfl,hd]
   rfl
  rw[this]
 rw[bT,if_pos rfl,a2.q.left,a2.q.fail,a2.q.down,a2.wt] at e3
 have e3':iv ((2,3,1,5,2,2,0,4,4):bD) (-1) (-1) false l2.dk.calls l2.dk.kept []=_:=e3
 rw[e3',au,dV]
 generalize l2.dk.bK.2=l3 at*
 simp only[Dm.ll,beq_self_eq_true,Bool.true_and,bne_self_eq_false,Bool.or_false,bn,cc,dI,fW,au]
 have e4:ju (((2,3,1,5,2,2,0,4,4):bD),l3.fG,qD 5)=some (1,()):=by
  have:=Da (x:=⟨jC,l3,qD 5⟩) b2.ok (fun b hb=>by have:=(b2.ok.rb b hb).2;omega)
  rw[kz] at this
  exact this
 have e5:uj (((2,3,1,5,2,2,0,4,4):bD),l3.fG,qD 5) 5=some (1,()):=by
  have:=Qx (x:=⟨jC,l3,qD 5⟩) C7 (zEI 5) 5
  rw[show ni (⟨jC,l3,qD 5⟩:Dm).c (⟨jC,l3,qD 5⟩:Dm).s 5=1 from zFp] at this
  exact this
 have hlen:(((qD 5).2.2.1.length:Nat):Int)=1:=rfl
 erw [e4]
 rw[gX]
 erw [e5]
 rw[gX]
 simp only[hlen,beq_self_eq_true,Bool.and_self]
structure ln(e:cw):Prop where
 r:EvR e
 wf:rR e
 ow:e.2.1.2.1.length<=100
 wh:0<=e.1/\e.1<=255
 fr:0<=e.2.2.2.1/\e.2.2.2.1<256
 bt:0<=e.2.2.1.2/\e.2.2.1.2<256
theorem qC.toB{e:cw}(h:qC e):ln e:=⟨h.toEvR,h.wf,by have:=h.ow;omega,⟨h.wh.1,by have:=h.wh;omega⟩,⟨h.fr.1,by have:=h.fr;omega⟩,h.bt⟩
theorem qC.cd{e:cw}(h:qC e):Go.Tr.cd e.2.1.1:=by have:=h.addr;unfold Go.Tr.cd;omega
theorem zlQ(c:bD)(s:bj){e:cw}(h:ln e):du c s (j6 e)=du c s e:=by
 have hb:e.2.2.1.2 % 256=e.2.2.1.2:=Int.emod_eq_of_lt h.bt.1 h.bt.2
 have hf:e.2.2.2.1 % 256=e.2.2.2.1:=Int.emod_eq_of_lt h.fr.1 h.fr.2
 have h1:(j6 e).1=e.1:=by unfold j6;split;rfl;split;rfl;split;rfl;split<;>rfl
 unfold du
 rw[h1]
 by_cases h0:e.1=0
 ·rw[if_pos h0,if_pos h0]
 rw[if_neg h0,if_neg h0]
 have:pO s (j6 e)=pO s e:=by
  unfold pO
  rw[h1]
  by_cases e1:e.1=1
  ·have:j6 e=(e.1,e.2.1,(0,0),0,cJ,0):=by unfold j6;rw[if_pos e1]
   rw[if_pos e1,if_pos e1,this]
  rw[if_neg e1,if_neg e1]
  by_cases e2:e.1=2
  ·have:j6 e=(e.1,(e.2.1.1,[],cJ),(0,0),0,cJ,0):=by unfold j6;rw[if_neg e1,if_pos (.inl e2)]
   rw[if_pos e2,if_pos e2,this]
  rw[if_neg e2,if_neg e2]
  by_cases e3:e.1=3
  ·have:j6 e=(e.1,fC,(e.2.2.1.1,e.2.2.1.2 % 256),0,cJ,0):=by unfold j6;rw[if_neg e1,if_neg (by omega),if_pos (.inl e3)]
   rw[if_pos e3,if_pos e3,this,hb]
  rw[if_neg e3,if_neg e3]
  by_cases e4:e.1=4
  ·have:j6 e=(e.1,fC,(e.2.2.1.1,e.2.2.1.2 % 256),0,cJ,0):=by unfold j6;rw[if_neg e1,if_neg (by omega),if_pos (.inr e4)]
   rw[if_pos e4,if_pos e4,this,hb]
  rw[if_neg e4,if_neg e4]
  by_cases e5:e.1=5
  ·have:j6 e=(e.1,(e.2.1.1,[],cJ),(0,0),e.2.2.2.1 % 256,e.2.2.2.2.1,0):=by unfold j6;rw[if_neg e1,if_neg (by omega),if_neg (by omega),if_pos e5]
   rw[if_pos e5,if_pos e5,this,hf]
   rfl
  rw[if_neg e5,if_neg e5]
  by_cases e6:e.1=6
  ·have:j6 e=(e.1,(e.2.1.1,[],cJ),(0,0),0,cJ,0):=by unfold j6;rw[if_neg e1,if_pos (.inr (.inl e6))]
   rw[if_pos e6,if_pos e6,this]
  rw[if_neg e6,if_neg e6]
  by_cases e7:e.1=7
  ·have:j6 e=(e.1,(e.2.1.1,[],cJ),(0,0),0,cJ,0):=by unfold j6;rw[if_neg e1,if_pos (.inr (.inr e7))]
   rw[if_pos e7,if_pos e7,this]
  rw[if_neg e7,if_neg e7]
 rw[this]
theorem zFs{e:cw}(h:ln e)(hr:(eS (cS e)).2=true):eS (cS e)=(j6 e,true):=by
 have:=zjv h.wf h.ow h.wh
 rw[zjw] at this
 rw[this] at hr ⊢
 split at hr
 ·rename_i hf;rw[if_pos hf]
 ·simp at hr
theorem QG{eE:List cH}(h:∀ a∈eE,A6 a):∃ es,sR eE=some (es,())/\es.length<=200/\∀ e∈es,qC e:=by
 obtain⟨es,h1,h2,h3⟩:=zED h
 refine⟨es.take 200,?_,by rw[List.length_take];omega,fun e he=>h3 e (List.mem_of_mem_take he)⟩
 unfold sR
 rw[h1,au]
 have hm:(if (200:Int)<(es.length:Int) then (200:Int) else (es.length:Int))=((min 200 es.length:Nat):Int):=by split<;>omega
 simp only[hm]
 rw[aC ⟨by omega,by omega,by omega⟩,aC (by omega)]
 have:cE 0 (0+((((min 200 es.length:Nat):Int)).toNat-0)) es=es.take 200:=by
  unfold cE
  rw[List.drop_zero,show 0+((((min 200 es.length:Nat):Int)).toNat-0)-0=min 200 es.length by omega]
  exact List.take_eq_take_iff.2 (by omega)
 rw[this]
noncomputable def Dm.after(x:Dm)(es:List cw):Dm:=es.foldl (fun x e=>(x.act e).2.2) x
theorem zFt(x:Dm)(es:List cw)(e:cw):x.after (es++[e])=((x.after es).act e).2.2:=by
 unfold Dm.after;rw[List.foldl_append];rfl
theorem Mg(x:Dm)(es:List cw){k:Nat}(hk:k<es.length):x.after (es.take (k+1))=((x.after (es.take k)).act es[k]).2.2:=by
 rw[List.take_succ_eq_append_getElem hk,zFt]
structure oS(x:Dm)(N:Nat):Prop where
 l:x.l.Ok N
 c:ja x.c
 s:cF x.s
 w:gf x.s
theorem oS.act{x:Dm}{N:Nat}(h:oS x N){e:cw}(he:ln e):oS (x.act e).2.2 (N+6000):=by
 have T:=Dd (x:=x) h.s he.r
 refine⟨zFj h.l h.s h.w he.wf,by rw[T.2.2.2.2.1];exact h.c,?_,?_⟩
 ·rw[T.2.2.2.2.2]
  split
  ·exact Qq h.c h.s he.r
  ·exact h.s
 ·rw[T.2.2.2.2.2]
  split
  ·exact GV h.s h.w he.wf.a he.wf.m he.wf.s
  ·exact h.w
theorem oS.after{x:Dm}{N:Nat}(h:oS x N){es:List cw}(he:∀ e∈es,ln e):∀ k,k<=es.length->oS (x.after (es.take k)) (N+6000*k)/\(x.after (es.take k)).c=x.c:=by
 intro k
 induction k with
 | zero=>intro _;exact⟨by simpa [Dm.after] using h,by simp[Dm.after]⟩
 | succ k ih=>
  intro hk
  obtain⟨h1,h2⟩:=ih (by omega)
  have kF:=he _ (List.getElem_mem (show k<es.length by omega))
  rw[Mg x es (by omega)]
  have:=h1.act kF
  exact⟨by rw[show N+6000*(k+1)=N+6000*k+6000 by omega];exact this,by rw[(Dd (x:=x.after (es.take k)) h1.s kF.r).2.2.2.2.1];exact h2⟩
theorem nj.mono{l:Lg}{N M K:Nat}(h:nj l N K)(hm:N<=M):nj l M K:=⟨⟨h.ok.dk.mono hm,h.ok.r0,h.ok.r1,h.ok.n0,h.ok.n1,h.ok.t0,by have:=h.ok.t1;omega,h.ok.rl,h.ok.rb⟩,h.q,h.i,h.nx,h.br,h.k,h.wt,h.ne⟩
theorem im.mono{x:Dm}{N M K:Nat}(h:im x N K)(hm:N<=M):im x M K:=⟨h.l.mono hm,h.c,h.s,h.w⟩
theorem im.toR{x:Dm}{N K:Nat}(h:im x N K):oS x N:=⟨h.l.ok,h.c,h.s,h.w⟩
structure mF(x:Dm):Prop where
 e:lP x.c x.l.rc=some x.s
 f:∀ b t,x.l.rc=b::t->0<b.length->cF (gj b).1
theorem zlR{rc:List (List Int)}(eW:rc≠[]){P:List Int->Prop}(h:∀ b t,rc=b::t->0<b.length->P b)(a:List Int):∀ b t,rc++[a]=b::t->0<b.length->P b:=by
 obtain⟨r,t,rfl⟩:=List.exists_cons_of_ne_nil eW
 intro b u hb hl
 simp only[List.cons_append,List.cons.injEq] at hb
 exact hb.1▸h r t rfl (hb.1▸hl)
theorem XT{s:bj}(h:cF s)(hw:gf s):∀ b t,[fg s]=b::t->0<b.length->cF (gj b).1:=by
 intro b t hb _
 simp only[List.cons.injEq] at hb
 rw[<-hb.1,h.back hw]
 exact h
theorem XU(c:bD):∀ (rc:List (List Int)) (s:bj) (b:List Int),jb c (rc++[b]) s=(jb c rc s).bind fun t=>if (eS b).2=true then some (du c t (eS b).1).1 else none
 | [],s,b=>by
  show (if (eS b).2=true then jb c [] (du c s (eS b).1).1 else none)=_
  rfl
 | r::t,s,b=>by
  show (if (eS r).2=true then jb c (t++[b]) (du c s (eS r).1).1 else none)=(if (eS r).2=true then jb c t (du c s (eS r).1).1 else none).bind _
  split
  ·exact XU c t _ b
  ·rfl
theorem zlS(c:bD){rc:List (List Int)}(eW:rc≠[])(b:List Int):lP c (rc++[b])=(lP c rc).bind fun t=>if (eS b).2=true then some (du c t (eS b).1).1 else none:=by
 obtain⟨r,t,rfl⟩:=List.exists_cons_of_ne_nil eW
 show (if r.length>0 then (if (gj r).2=true then jb c (t++[b]) (gj r).1 else none) else jb c (t++[b]) fU)=(if r.length>0 then (if (gj r).2=true then jb c t (gj r).1 else none) else jb c t fU).bind _
 split
 ·split
  ·exact XU c t _ b
  ·rfl
 ·exact XU c t _ b
theorem XV(c:bD){s:bj}(h:cF s)(hw:gf s):lP c [fg s]=some s:=by
 show (if (fg s).length>0 then (if (gj (fg s)).2=true then jb c [] (gj (fg s)).1 else none) else jb c [] fU)=_
 rw[if_pos (by have:=(QB h).2;omega),h.back hw,if_pos rfl]
 rfl
theorem XW{x:Dm}{N K:Nat}(h:im x N K)(hL:mF x)(hK:512<=K)(ht:x.l.tn+1<4294967296){e:cw}(he:ln e):mF (x.act e).2.2:=by
 have hst:=GV (c:=x.c) h.s h.w he.wf.a he.wf.m he.wf.s
 have T:=Dd (x:=x) h.s he.r
 rcases Md h hK ht he.r he.wf he.ow hst with⟨h1,h2,h3⟩ | ⟨h1,h2,h3,h4,h5,h6,h7,h8⟩
 ·rw[h2];exact hL
 ·have hr:=zFs he h2
  rcases h8 with h8 | h8
  ·refine⟨?_,by rw[h8];exact zlR h.l.ne hL.f _⟩
   rw[T.2.2.2.2.1,T.2.2.2.2.2,if_pos h1,h8,zlS _ h.l.ne,hL.e,hr]
   show some (du x.c x.s (j6 e)).1=_
   rw[zlQ _ _ he]
  ·refine⟨?_,by rw[h8];exact zlR (by simp) (XT h.s h.w) _⟩
   rw[T.2.2.2.2.1,T.2.2.2.2.2,if_pos h1,h8,zlS _ (by simp),XV _ h.s h.w,hr]
   show some (du x.c x.s (j6 e)).1=_
   rw[zlQ _ _ he]
theorem im.after{x:Dm}{N K:Nat}(h:im x N K)(hL:mF x)(hK:512<=K){es:List cw}(he:∀ e∈es,ln e)(ht:x.l.tn+es.length+1<4294967296):∀ k,k<=es.length->im (x.after (es.take k)) (N+6000*k) K/\(x.after (es.take k)).l.tn<=x.l.tn+k/\mF (x.after (es.take k)):=by
 intro k
 induction k with
 | zero=>intro _;exact⟨by simpa [Dm.after] using h,by simp[Dm.after],by simpa [Dm.after] using hL⟩
 | succ k ih=>
  intro hk
  obtain⟨h1,h2,h3⟩:=ih (by omega)
  have kF:=he _ (List.getElem_mem (show k<es.length by omega))
  rw[Mg x es (by omega)]
  have hst:=GV (c:=(x.after (es.take k)).c) h1.s h1.w kF.wf.a kF.wf.m kF.wf.s
  have GY:=XW h1 h3 hK (by omega) kF
  rcases Md h1 hK (by omega) kF.r kF.wf kF.ow hst with⟨g1,g2,g3⟩ | ⟨g1,g2,g3,g4,g5,g6,g7,g8⟩
  ·rw[g2];exact⟨h1.mono (by omega),by omega,h3⟩
  ·exact⟨g5.mono (by omega),by omega,GY⟩
theorem XX{x:Dm}{N K:Nat}(h:im x N K)(hL:mF x)(hK:8<=K)(hN:N<=100000000):
  nU x.c x.l.dk=(0,⟨x.c,x.l.dk.bK.2,x.s⟩)/\im ⟨x.c,x.l.dk.bK.2,x.s⟩ (N+1001) K/\mF ⟨x.c,x.l.dk.bK.2,x.s⟩/\x.l.dk.bK.2.tn=x.l.tn/\x.l.dk.bK.2.rc=x.l.rc/\
   iv x.c (-1) (-1) false x.l.dk.calls x.l.dk.kept []=some (.inl (Dm.ll ⟨x.c,x.l.dk.bK.2,x.s⟩)):=by
 obtain⟨b1,b2,b3,b4,b5⟩:=h.l.bK hK (by omega)
 have ho:nU x.c x.l.dk=(0,⟨x.c,x.l.dk.bK.2,x.s⟩):=by
  unfold nU
  rw[if_neg (by simp[b1]),b3,hL.e]
 refine⟨ho,⟨b2,h.c,h.s,h.w⟩,⟨by show lP x.c x.l.dk.bK.2.rc=some x.s;rw[b3];exact hL.e,by show ∀ b t,x.l.dk.bK.2.rc=b::t->_;rw[b3];exact hL.f⟩,b4,b3,?_⟩
 have hst:∀ b t,x.l.dk.bK.2.rc=b::t->t≠[]->0<b.length->(gj b).2=true->cF (gj b).1:=fun b t hb _ hl _=>hL.f b t (b3▸hb) hl
 have e:=Qz h.c h.l.ok.dk (by omega) hst
 rw[ho,if_pos rfl,h.l.q.left,h.l.q.fail,h.l.q.down,h.l.wt] at e
 exact e
set_option maxHeartbeats 1000000
theorem zFu{x:Dm}{N:Nat}(h:oS x N)(hN:N<=1000000000){es:List cw}{k:Nat}(hk:k<es.length)(hl:es.length<=1000)(he:ln es[k])(c:bD):
  KQ es (es.length:Int) (k:Int) c x.l.dk.left x.l.dk.fail x.l.dk.down x.l.dk.calls x.c.1 x.c.2.1 x.c.2.2.1 x.c.2.2.2.1 x.c.2.2.2.2.1 x.c.2.2.2.2.2.1 x.c.2.2.2.2.2.2.1 x.c.2.2.2.2.2.2.2.1 x.c.2.2.2.2.2.2.2.2 x.s.1 x.s.2.1 x.s.2.2.1 x.s.2.2.2.1 x.s.2.2.2.2.1 x.s.2.2.2.2.2.1 x.s.2.2.2.2.2.2 x.l.dk.kept x.l.dk.wait x.l.rg x.l.tn x.l.nx x.l.br x.l.rc=
   some (.inl (es,(es.length:Int),((k+1:Nat):Int),c,(x.act es[k]).2.2.l.dk.left,(x.act es[k]).2.2.l.dk.fail,(x.act es[k]).2.2.l.dk.down,(x.act es[k]).2.2.l.dk.calls,(x.act es[k]).2.2.c.1,(x.act es[k]).2.2.c.2.1,(x.act es[k]).2.2.c.2.2.1,(x.act es[k]).2.2.c.2.2.2.1,(x.act es[k]).2.2.c.2.2.2.2.1,(x.act es[k]).2.2.c.2.2.2.2.2.1,(x.act es[k]).2.2.c.2.2.2.2.2.2.1,(x.act es[k]).2.2.c.2.2.2.2.2.2.2.1,(x.act es[k]).2.2.c.2.2.2.2.2.2.2.2,(x.act es[k]).2.2.s.1,(x.act es[k]).2.2.s.2.1,(x.act es[k]).2.2.s.2.2.1,(x.act es[k]).2.2.s.2.2.2.1,(x.act es[k]).2.2.s.2.2.2.2.1,(x.act es[k]).2.2.s.2.2.2.2.2.1,(x.act es[k]).2.2.s.2.2.2.2.2.2,(x.act es[k]).2.2.l.dk.kept,(x.act es[k]).2.2.l.dk.wait,(x.act es[k]).2.2.l.rg,(x.act es[k]).2.2.l.tn,(x.act es[k]).2.2.l.nx,(x.act es[k]).2.2.l.br,(x.act es[k]).2.2.l.rc,())):=by
 have e1:(Option.rec jh (fun val=>val) es[((k:Nat):Int).toNat]? :cw)=es[k]:=by
  rw[Int.toNat_natCast,List.getElem?_eq_getElem hk]
 have hw:IntKind.i64.wrap ((k:Int)+1)=((k+1:Nat):Int):=by rw[bA (by omega) (by omega)];omega
 unfold KQ
 rw[decide_eq_true (by omega),bz,aC ⟨by omega,by omega⟩]
 simp only[aW,e1,hw]
 erw [GW h.l hN h.c h.s h.w he.r he.wf he.ow]
 rw[au]
 rfl
theorem zFv{x:Dm}{N:Nat}(h:oS x N)(hN:N<=100000000){es:List cw}(hl:es.length<=1000)(he:∀ e∈es,ln e)(c:bD):
  VC (es,(es.length:Int),0,c,x.l.dk.left,x.l.dk.fail,x.l.dk.down,x.l.dk.calls,x.c.1,x.c.2.1,x.c.2.2.1,x.c.2.2.2.1,x.c.2.2.2.2.1,x.c.2.2.2.2.2.1,x.c.2.2.2.2.2.2.1,x.c.2.2.2.2.2.2.2.1,x.c.2.2.2.2.2.2.2.2,x.s.1,x.s.2.1,x.s.2.2.1,x.s.2.2.2.1,x.s.2.2.2.2.1,x.s.2.2.2.2.2.1,x.s.2.2.2.2.2.2,x.l.dk.kept,x.l.dk.wait,x.l.rg,x.l.tn,x.l.nx,x.l.br,x.l.rc,())=
   some (.inl (c,(x.after es).l.dk.left,(x.after es).l.dk.fail,(x.after es).l.dk.down,(x.after es).l.dk.calls,(x.after es).c.1,(x.after es).c.2.1,(x.after es).c.2.2.1,(x.after es).c.2.2.2.1,(x.after es).c.2.2.2.2.1,(x.after es).c.2.2.2.2.2.1,(x.after es).c.2.2.2.2.2.2.1,(x.after es).c.2.2.2.2.2.2.2.1,(x.after es).c.2.2.2.2.2.2.2.2,(x.after es).s.1,(x.after es).s.2.1,(x.after es).s.2.2.1,(x.after es).s.2.2.2.1,(x.after es).s.2.2.2.2.1,(x.after es).s.2.2.2.2.2.1,(x.after es).s.2.2.2.2.2.2,(x.after es).l.dk.kept,(x.after es).l.dk.wait,(x.after es).l.rg,(x.after es).l.tn,(x.after es).l.nx,(x.after es).l.br,(x.after es).l.rc,())):=by
 unfold VC
 have A:=h.after he
 refine (jL (a:=0) (n:=es.length) (fun k:Nat=>(es,(es.length:Int),(k:Int),c,(x.after (es.take k)).l.dk.left,(x.after (es.take k)).l.dk.fail,(x.after (es.take k)).l.dk.down,(x.after (es.take k)).l.dk.calls,(x.after (es.take k)).c.1,(x.after (es.take k)).c.2.1,(x.after (es.take k)).c.2.2.1,(x.after (es.take k)).c.2.2.2.1,(x.after (es.take k)).c.2.2.2.2.1,(x.after (es.take k)).c.2.2.2.2.2.1,(x.after (es.take k)).c.2.2.2.2.2.2.1,(x.after (es.take k)).c.2.2.2.2.2.2.2.1,(x.after (es.take k)).c.2.2.2.2.2.2.2.2,(x.after (es.take k)).s.1,(x.after (es.take k)).s.2.1,(x.after (es.take k)).s.2.2.1,(x.after (es.take k)).s.2.2.2.1,(x.after (es.take k)).s.2.2.2.2.1,(x.after (es.take k)).s.2.2.2.2.2.1,(x.after (es.take k)).s.2.2.2.2.2.2,(x.after (es.take k)).l.dk.kept,(x.after (es.take k)).l.dk.wait,(x.after (es.take k)).l.rg,(x.after (es.take k)).l.tn,(x.after (es.take k)).l.nx,(x.after (es.take k)).l.br,(x.after (es.take k)).l.rc,())) (Nat.zero_le _) fun k _ hk=>?_).trans ?_
 ·have kF:=he _ (List.getElem_mem hk)
  have st:=zFu (A k (by omega)).1 (by omega) hk hl kF c
  simp only[Mg x es hk]
  exact st
 ·refine dm ?_
  simp only[List.take_length]
  show KQ es (es.length:Int) (es.length:Int) c (x.after es).l.dk.left (x.after es).l.dk.fail (x.after es).l.dk.down (x.after es).l.dk.calls (x.after es).c.1 (x.after es).c.2.1 (x.after es).c.2.2.1 (x.after es).c.2.2.2.1 (x.after es).c.2.2.2.2.1 (x.after es).c.2.2.2.2.2.1 (x.after es).c.2.2.2.2.2.2.1 (x.after es).c.2.2.2.2.2.2.2.1 (x.after es).c.2.2.2.2.2.2.2.2 (x.after es).s.1 (x.after es).s.2.1 (x.after es).s.2.2.1 (x.after es).s.2.2.2.1 (x.after es).s.2.2.2.2.1 (x.after es).s.2.2.2.2.2.1 (x.after es).s.2.2.2.2.2.2 (x.after es).l.dk.kept (x.after es).l.dk.wait (x.after es).l.rg (x.after es).l.tn (x.after es).l.nx (x.after es).l.br (x.after es).l.rc=_
  unfold KQ
  rw[decide_eq_false (by omega),bn]
theorem XY(c:bD){n:Nat}(h1:8<=n)(h2:n<=512):mF ⟨c,(fE n).bK.2,fU⟩:=by
 obtain⟨o1,o2,o3,o4,o5⟩:=xT h1 h2
 refine⟨?_,?_⟩
 ·show lP c (fE n).bK.2.rc=some fU
  rw[o3]
  show (if ([]:List Int).length>0 then (if (gj []).2=true then jb c [] (gj []).1 else none) else jb c [] fU)=_
  rw[if_neg (by simp)]
  rfl
 ·show ∀ b t,(fE n).bK.2.rc=b::t->_
  rw[o3]
  intro b t hb hl
  simp only[List.cons.injEq] at hb
  rw[<-hb.1] at hl
  simp at hl
theorem daemonKeep_law{x:bD}(hx:C9 x){eE:List cH}(ha:∀ a∈eE,A6 a):VE x eE=some (true,()):=by
 unfold VE
 rw[Mf,au]
 simp only[Bool.not_true,bn]
 obtain⟨c,h1,hc⟩:=Qs hx
 obtain⟨es,e1,e2,e3⟩:=QG ha
 rw[h1,au]
 have e0:oB (512:Int)=_:=GX 512 (by omega)
 rw[e0,au]
 simp only
 have e4:iv c (-1) (-1) false 0 (List.replicate 512 (List.replicate 64 0)) []=_:=Me hc (n:=512) (by omega) (by omega)
 rw[e4,au,dV]
 have hQ:=QE hc (n:=512) (by omega) (by omega)
 have hL:=XY c (n:=512) (by omega) (by omega)
 have ht:=(xT (n:=512) (by omega) (by omega)).2.2.2.1
 simp only[Dm.ll,aW,cc,dI,bne_self_eq_false,Bool.or_false,bn]
 rw[e1,au]
 have uI:∀ e∈es,ln e:=fun e he=>(e3 e he).toB
 generalize (fE 512).bK.2=L at*
 have kl:=zFv hQ.toR (by omega) (by omega) uI c
 simp only at kl ⊢
 erw [kl]
 rw[au,dV]
 obtain⟨q1,q2,q3⟩:=hQ.after hL (by omega) uI (by show L.tn+_+1<_;omega) es.length (Nat.le_refl _)
 have qc:=(hQ.toR.after uI es.length (Nat.le_refl _)).2
 rw[List.take_length] at q1 q2 q3 qc
 have X0:(Dm.after ⟨c,L,fU⟩ es).l.tn<=L.tn+es.length:=q2
 generalize Dm.after _ es=Y at q1 q2 X0 q3 qc ⊢
 have hYc:c=Y.c:=by rw[qc]
 have t1:=xS Y
 have k1:=L8 q1.l.ok (by omega) q1.s q1.w
 have n5:=QB q1.s
 have DY:sec (fg Y.s).length<=218:=by unfold sec;omega
 have QC:Y.l.dk.half>=256:=by have:=q1.l.k;unfold Dk.half;omega
 obtain⟨b1,b2,b3,b4,b5,b6⟩:=q1.l.dM (b:=fg Y.s) (by omega) (GF (q1.s.ok q1.w)) (by omega) (by omega)
 have hk1:Y.keep.1=0:=b1
 have hk2:Y.keep.2=⟨Y.c,(Y.l.dM (fg Y.s)).2,Y.s⟩:=rfl
 have hZ:im Y.keep.2 (4000+6000*es.length+4000) 512:=⟨b2,q1.c,q1.s,q1.w⟩
 have hZL:mF Y.keep.2:=⟨by show lP Y.c (Y.l.dM (fg Y.s)).2.rc=some Y.s;rw[b3];exact XV _ q1.s q1.w,by show ∀ b t,(Y.l.dM (fg Y.s)).2.rc=b::t->_;rw[b3];exact XT q1.s q1.w⟩
 have hZt:Y.keep.2.l.tn=Y.l.tn+1:=b4
 have hZr:Y.keep.2.l.rc=[fg Y.s]:=b3
 have hZs:Y.keep.2.s=Y.s:=rfl
 have hZc:Y.keep.2.c=Y.c:=rfl
 rw[hk1] at k1
 generalize Y.keep.2=Z at*
 simp only[au]
 erw [t1]
 rw[au]
 erw [k1]
 rw[au]
 have t2:=xS Z
 have r2:=Da hZ.l.ok (fun b hb=>by have:=(hZ.l.ok.rb b hb).2;omega)
 rw[hZr] at r2
 have s2:=C8 q1.s
 have hwt:IntKind.i64.wrap (Y.l.tn+1)=Y.l.tn+1:=bA (by have:=q1.l.ok.t0;omega) (by omega)
 obtain⟨o1,o2,o3,o4,o5,o6⟩:=XX hZ hZL (by omega) (by omega)
 simp only[Dm.out,cc,dI,vw,bne_self_eq_false,Bool.not_false,fW]
 have Cf:c=Z.c:=by rw[hYc,hZc]
 have r2':ju (Z.c,Z.l.fG,Z.s)=some (0,()):=r2
 generalize hW:(⟨Z.c,Z.l.dk.bK.2,Z.s⟩:Dm)=W at o2 o3 o6
 have hWl:W.l=Z.l.dk.bK.2:=by rw[<-hW]
 have hWs:W.s=Y.s:=by rw[<-hW];exact hZs
 have r3:ju (W.c,W.l.fG,W.s)=some (0,()):=by
  have:=Da o2.l.ok (fun b hb=>by have:=(o2.l.ok.rb b hb).2;omega)
  rw[show W.l.rc=[fg Y.s] by rw[hWl,o5,hZr]] at this
  exact this
 have t3:=xS W
 have hWt:W.l.tn=Y.l.tn+1:=by rw[hWl,o4,hZt]
 have s2':lF Z.s Y.s=some (true,()):=by rw[hZs];exact s2
 have s3':lF W.s Y.s=some (true,()):=by rw[hWs];exact s2
 rw[hZt] at t2
 rw[hWt] at t3
 erw [t2]
 rw[au]
 simp only[hwt,bne_self_eq_false,Bool.false_or,Bool.not_false,fW]
 erw [r2']
 rw[au]
 simp only[bne_self_eq_false,Bool.not_false,fW,au]
 erw [s2']
 rw[au]
 simp only[Bool.not_true,bn,hZ.l.q.left,hZ.l.q.fail,hZ.l.q.down,hZ.l.wt]
 rw[Cf]
 erw [o6]
 rw[au,dV]
 simp only[Dm.ll,beq_self_eq_true,Bool.true_and,fW]
 erw [r3]
 rw[au]
 simp only[beq_self_eq_true,fW]
 erw [t3]
 rw[au]
 simp only[beq_self_eq_true,fW,au]
 erw [s3']
 simp only[Bool.or_self,Bool.and_self,bn,fW,au]
end Go.Tr
