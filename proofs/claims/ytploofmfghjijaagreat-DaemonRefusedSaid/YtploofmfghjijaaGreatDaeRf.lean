/- DaemonRefused: what is refused is not logged, and changes nothing.
  Conditions: none. -/
import Derived.Test.YtploofmfghjijaaGreatDaeKd
namespace Go.Tr
open Go
set_option linter.unusedVariables false
set_option linter.unusedSimpArgs false
set_option maxRecDepth 100000
set_option maxHeartbeats 1000000
theorem zFO{x:Dm}{N:Nat}(h:oS x N)(hN:N<=1000000000){es:List cw}{k:Nat}(hk:k<es.length)(hl:es.length<=1000)(he:ln es[k])(v:cw):
  KI es (es.length:Int) (k:Int) v.1 v.2.1.1 v.2.1.2.1 v.2.1.2.2.1 v.2.1.2.2.2.1 v.2.1.2.2.2.2.1 v.2.1.2.2.2.2.2.1 v.2.1.2.2.2.2.2.2.1 v.2.1.2.2.2.2.2.2.2 v.2.2.1.1 v.2.2.1.2 v.2.2.2.1 v.2.2.2.2.1.1 v.2.2.2.2.1.2.1 v.2.2.2.2.1.2.2.1 v.2.2.2.2.1.2.2.2.1 v.2.2.2.2.1.2.2.2.2.1 v.2.2.2.2.1.2.2.2.2.2 v.2.2.2.2.2 x.l.dk.left x.l.dk.fail x.l.dk.down x.l.dk.calls x.c.1 x.c.2.1 x.c.2.2.1 x.c.2.2.2.1 x.c.2.2.2.2.1 x.c.2.2.2.2.2.1 x.c.2.2.2.2.2.2.1 x.c.2.2.2.2.2.2.2.1 x.c.2.2.2.2.2.2.2.2 x.s.1 x.s.2.1 x.s.2.2.1 x.s.2.2.2.1 x.s.2.2.2.2.1 x.s.2.2.2.2.2.1 x.s.2.2.2.2.2.2 x.l.dk.kept x.l.dk.wait x.l.rg x.l.tn x.l.nx x.l.br x.l.rc=
   some (.inl (es,(es.length:Int),((k+1:Nat):Int),v.1,v.2.1.1,v.2.1.2.1,v.2.1.2.2.1,v.2.1.2.2.2.1,v.2.1.2.2.2.2.1,v.2.1.2.2.2.2.2.1,v.2.1.2.2.2.2.2.2.1,v.2.1.2.2.2.2.2.2.2,v.2.2.1.1,v.2.2.1.2,v.2.2.2.1,v.2.2.2.2.1.1,v.2.2.2.2.1.2.1,v.2.2.2.2.1.2.2.1,v.2.2.2.2.1.2.2.2.1,v.2.2.2.2.1.2.2.2.2.1,v.2.2.2.2.1.2.2.2.2.2,v.2.2.2.2.2,(x.act es[k]).2.2.l.dk.left,(x.act es[k]).2.2.l.dk.fail,(x.act es[k]).2.2.l.dk.down,(x.act es[k]).2.2.l.dk.calls,(x.act es[k]).2.2.c.1,(x.act es[k]).2.2.c.2.1,(x.act es[k]).2.2.c.2.2.1,(x.act es[k]).2.2.c.2.2.2.1,(x.act es[k]).2.2.c.2.2.2.2.1,(x.act es[k]).2.2.c.2.2.2.2.2.1,(x.act es[k]).2.2.c.2.2.2.2.2.2.1,(x.act es[k]).2.2.c.2.2.2.2.2.2.2.1,(x.act es[k]).2.2.c.2.2.2.2.2.2.2.2,(x.act es[k]).2.2.s.1,(x.act es[k]).2.2.s.2.1,(x.act es[k]).2.2.s.2.2.1,(x.act es[k]).2.2.s.2.2.2.1,(x.act es[k]).2.2.s.2.2.2.2.1,(x.act es[k]).2.2.s.2.2.2.2.2.1,(x.act es[k]).2.2.s.2.2.2.2.2.2,(x.act es[k]).2.2.l.dk.kept,(x.act es[k]).2.2.l.dk.wait,(x.act es[k]).2.2.l.rg,(x.act es[k]).2.2.l.tn,(x.act es[k]).2.2.l.nx,(x.act es[k]).2.2.l.br,(x.act es[k]).2.2.l.rc,())):=by
 have e1:(Option.rec jh (fun val=>val) es[((k:Nat):Int).toNat]? :cw)=es[k]:=by
  rw[Int.toNat_natCast,List.getElem?_eq_getElem hk]
 have hw:IntKind.i64.wrap ((k:Int)+1)=((k+1:Nat):Int):=by rw[bA (by omega) (by omega)];omega
 unfold KI
 rw[decide_eq_true (by omega),bz,aC ⟨by omega,by omega⟩]
 simp only[aW,e1,hw]
 erw [GW h.l hN h.c h.s h.w he.r he.wf he.ow]
 rw[au]
 rfl
theorem zFP{x:Dm}{N:Nat}(h:oS x N)(hN:N<=100000000){es:List cw}(hl:es.length<=1000)(he:∀ e∈es,ln e)(v:cw):
  Vp (es,(es.length:Int),0,v.1,v.2.1.1,v.2.1.2.1,v.2.1.2.2.1,v.2.1.2.2.2.1,v.2.1.2.2.2.2.1,v.2.1.2.2.2.2.2.1,v.2.1.2.2.2.2.2.2.1,v.2.1.2.2.2.2.2.2.2,v.2.2.1.1,v.2.2.1.2,v.2.2.2.1,v.2.2.2.2.1.1,v.2.2.2.2.1.2.1,v.2.2.2.2.1.2.2.1,v.2.2.2.2.1.2.2.2.1,v.2.2.2.2.1.2.2.2.2.1,v.2.2.2.2.1.2.2.2.2.2,v.2.2.2.2.2,x.l.dk.left,x.l.dk.fail,x.l.dk.down,x.l.dk.calls,x.c.1,x.c.2.1,x.c.2.2.1,x.c.2.2.2.1,x.c.2.2.2.2.1,x.c.2.2.2.2.2.1,x.c.2.2.2.2.2.2.1,x.c.2.2.2.2.2.2.2.1,x.c.2.2.2.2.2.2.2.2,x.s.1,x.s.2.1,x.s.2.2.1,x.s.2.2.2.1,x.s.2.2.2.2.1,x.s.2.2.2.2.2.1,x.s.2.2.2.2.2.2,x.l.dk.kept,x.l.dk.wait,x.l.rg,x.l.tn,x.l.nx,x.l.br,x.l.rc,())=
   some (.inl (v.1,v.2.1.1,v.2.1.2.1,v.2.1.2.2.1,v.2.1.2.2.2.1,v.2.1.2.2.2.2.1,v.2.1.2.2.2.2.2.1,v.2.1.2.2.2.2.2.2.1,v.2.1.2.2.2.2.2.2.2,v.2.2.1.1,v.2.2.1.2,v.2.2.2.1,v.2.2.2.2.1.1,v.2.2.2.2.1.2.1,v.2.2.2.2.1.2.2.1,v.2.2.2.2.1.2.2.2.1,v.2.2.2.2.1.2.2.2.2.1,v.2.2.2.2.1.2.2.2.2.2,v.2.2.2.2.2,(x.after es).l.dk.left,(x.after es).l.dk.fail,(x.after es).l.dk.down,(x.after es).l.dk.calls,(x.after es).c.1,(x.after es).c.2.1,(x.after es).c.2.2.1,(x.after es).c.2.2.2.1,(x.after es).c.2.2.2.2.1,(x.after es).c.2.2.2.2.2.1,(x.after es).c.2.2.2.2.2.2.1,(x.after es).c.2.2.2.2.2.2.2.1,(x.after es).c.2.2.2.2.2.2.2.2,(x.after es).s.1,(x.after es).s.2.1,(x.after es).s.2.2.1,(x.after es).s.2.2.2.1,(x.after es).s.2.2.2.2.1,(x.after es).s.2.2.2.2.2.1,(x.after es).s.2.2.2.2.2.2,(x.after es).l.dk.kept,(x.after es).l.dk.wait,(x.after es).l.rg,(x.after es).l.tn,(x.after es).l.nx,(x.after es).l.br,(x.after es).l.rc,())):=by
 unfold Vp
 have A:=h.after he
 refine (jL (a:=0) (n:=es.length) (fun k:Nat=>(es,(es.length:Int),(k:Int),v.1,v.2.1.1,v.2.1.2.1,v.2.1.2.2.1,v.2.1.2.2.2.1,v.2.1.2.2.2.2.1,v.2.1.2.2.2.2.2.1,v.2.1.2.2.2.2.2.2.1,v.2.1.2.2.2.2.2.2.2,v.2.2.1.1,v.2.2.1.2,v.2.2.2.1,v.2.2.2.2.1.1,v.2.2.2.2.1.2.1,v.2.2.2.2.1.2.2.1,v.2.2.2.2.1.2.2.2.1,v.2.2.2.2.1.2.2.2.2.1,v.2.2.2.2.1.2.2.2.2.2,v.2.2.2.2.2,(x.after (es.take k)).l.dk.left,(x.after (es.take k)).l.dk.fail,(x.after (es.take k)).l.dk.down,(x.after (es.take k)).l.dk.calls,(x.after (es.take k)).c.1,(x.after (es.take k)).c.2.1,(x.after (es.take k)).c.2.2.1,(x.after (es.take k)).c.2.2.2.1,(x.after (es.take k)).c.2.2.2.2.1,(x.after (es.take k)).c.2.2.2.2.2.1,(x.after (es.take k)).c.2.2.2.2.2.2.1,(x.after (es.take k)).c.2.2.2.2.2.2.2.1,(x.after (es.take k)).c.2.2.2.2.2.2.2.2,(x.after (es.take k)).s.1,(x.after (es.take k)).s.2.1,(x.after (es.take k)).s.2.2.1,(x.after (es.take k)).s.2.2.2.1,(x.after (es.take k)).s.2.2.2.2.1,(x.after (es.take k)).s.2.2.2.2.2.1,(x.after (es.take k)).s.2.2.2.2.2.2,(x.after (es.take k)).l.dk.kept,(x.after (es.take k)).l.dk.wait,(x.after (es.take k)).l.rg,(x.after (es.take k)).l.tn,(x.after (es.take k)).l.nx,(x.after (es.take k)).l.br,(x.after (es.take k)).l.rc,())) (Nat.zero_le _) fun k _ hk=>?_).trans ?_
 ·have kF:=he _ (List.getElem_mem hk)
  have st:=zFO (A k (by omega)).1 (by omega) hk hl kF v
  simp only[Mg x es hk]
  exact st
 ·refine dm ?_
  simp only[List.take_length]
  show KI es (es.length:Int) (es.length:Int) v.1 v.2.1.1 v.2.1.2.1 v.2.1.2.2.1 v.2.1.2.2.2.1 v.2.1.2.2.2.2.1 v.2.1.2.2.2.2.2.1 v.2.1.2.2.2.2.2.2.1 v.2.1.2.2.2.2.2.2.2 v.2.2.1.1 v.2.2.1.2 v.2.2.2.1 v.2.2.2.2.1.1 v.2.2.2.2.1.2.1 v.2.2.2.2.1.2.2.1 v.2.2.2.2.1.2.2.2.1 v.2.2.2.2.1.2.2.2.2.1 v.2.2.2.2.1.2.2.2.2.2 v.2.2.2.2.2 (x.after es).l.dk.left (x.after es).l.dk.fail (x.after es).l.dk.down (x.after es).l.dk.calls (x.after es).c.1 (x.after es).c.2.1 (x.after es).c.2.2.1 (x.after es).c.2.2.2.1 (x.after es).c.2.2.2.2.1 (x.after es).c.2.2.2.2.2.1 (x.after es).c.2.2.2.2.2.2.1 (x.after es).c.2.2.2.2.2.2.2.1 (x.after es).c.2.2.2.2.2.2.2.2 (x.after es).s.1 (x.after es).s.2.1 (x.after es).s.2.2.1 (x.after es).s.2.2.2.1 (x.after es).s.2.2.2.2.1 (x.after es).s.2.2.2.2.2.1 (x.after es).s.2.2.2.2.2.2 (x.after es).l.dk.kept (x.after es).l.dk.wait (x.after es).l.rg (x.after es).l.tn (x.after es).l.nx (x.after es).l.br (x.after es).l.rc=_
  unfold KI
  rw[decide_eq_false (by omega),bn]
theorem daemonRefused_law{x:bD}(hx:C9 x){eE:List cH}(ha:∀ a∈eE,A6 a){e:cw}(ga:cd e.2.1.1)(hm:iZ e.2.1.2.2)(hb:cd e.2.2.1.1)(hs:iZ e.2.2.2.2.1)(hw:-9223372036854775808<=e.1/\e.1<=9223372036854775807)(ho:e.2.1.2.1.length<=140737488355328):
  Vq x eE e=some (true,()):=by
 unfold Vq
 rw[Mf,au]
 simp only[Bool.not_true,bn]
 obtain⟨c,h1,hc⟩:=Qs hx
 obtain⟨es,e1,e2,e3⟩:=QG ha
 rw[h1,au]
 have nZ:(if (100:Int)<(e.2.1.2.1.length:Int) then (100:Int) else (e.2.1.2.1.length:Int))=((min 100 e.2.1.2.1.length:Nat):Int):=by split<;>omega
 simp only[nZ]
 rw[aC ⟨by omega,by omega,by omega⟩]
 have e0:oB (512:Int)=_:=GX 512 (by omega)
 rw[e0,au]
 simp only
 have e4:iv c (-1) (-1) false 0 (List.replicate 512 (List.replicate 64 0)) []=_:=Me hc (n:=512) (by omega) (by omega)
 rw[e4,au,dV]
 have hQ:=QE hc (n:=512) (by omega) (by omega)
 have hL:=XY c (n:=512) (by omega) (by omega)
 have ht:=(xT (n:=512) (by omega) (by omega)).2.2.2.1
 simp only[Dm.ll,aW,cc,dI,bne_self_eq_false,Bool.or_false,bn]
 rw[e1,au]
 have uI:∀ e∈es,ln e:=fun e he=>(e3 e he).toB
 generalize (fE 512).bK.2=L at*
 have kL:(cE 0 ((min 100 e.2.1.2.1.length:Nat):Int).toNat e.2.1.2.1).length<=100:=by
  unfold cE
  rw[List.length_take]
  omega
 generalize cE 0 ((min 100 e.2.1.2.1.length:Nat):Int).toNat e.2.1.2.1=ow at kL ⊢
 have rl:=zFP hQ.toR (by omega) (by omega) uI (e.1,(e.2.1.1,ow,e.2.1.2.2),e.2.2)
 have v1:EvR (e.1,(e.2.1.1,ow,e.2.1.2.2),e.2.2):=⟨hb,by show ow.length<=_;omega⟩
 have v2:rR (e.1,(e.2.1.1,ow,e.2.1.2.2),e.2.2):=⟨ga,by show ow.length<=_;omega,hm,hb,hs,hw⟩
 have v3:((e.1,(e.2.1.1,ow,e.2.1.2.2),e.2.2):cw).2.1.2.1.length<=100:=kL
 generalize hv:((e.1,(e.2.1.1,ow,e.2.1.2.2),e.2.2):cw)=v at v1 v2 v3
 simp only at rl ⊢
 erw [rl]
 rw[au,dV]
 obtain⟨q1,q2,q3⟩:=hQ.after hL (by omega) uI (by show L.tn+_+1<_;omega) es.length (Nat.le_refl _)
 rw[List.take_length] at q1 q2 q3
 have X0:(Dm.after ⟨c,L,fU⟩ es).l.tn<=L.tn+es.length:=q2
 generalize Dm.after _ es=Y at q1 q2 X0 q3 ⊢
 have r1:=Da q1.l.ok (fun b hb=>by have:=(q1.l.ok.rb b hb).2;omega)
 have d1:=GW q1.l.ok (by omega) q1.c q1.s q1.w v1 v2 v3
 have hst:=GV (c:=Y.c) q1.s q1.w v2.a v2.m v2.s
 have aq:=Md q1 (by omega) (by omega) v1 v2 v3 hst
 have T:=Dd (x:=Y) q1.s v1
 rw[<-hv] at d1
 simp only[au]
 erw [r1]
 rw[au,XL,au]
 simp only
 erw [d1]
 rw[au]
 rw[hv]
 simp only[Dm.out]
 rcases aq with⟨g1,g2,g3⟩ | ⟨g1,g2,g3,g4,g5,g6,g7,g8⟩
 ·have t3:=T.2.2.1 g1
  rw[g2,t3]
  have RA:((Y.act v).2.1==0)=false:=by simpa using g1
  simp only[RA,bn,au]
  have s2:=C8 q1.s
  erw [s2]
  rw[au]
  simp only[cc,fW]
  erw [r1]
  rw[au]
  simp only[beq_self_eq_true,Bool.and_self,fW]
  rw[XL,au]
  simp
 ·simp only[g1,beq_self_eq_true,bz]
  rw[XL,au]
  have:decide ((Y.act v).2.2.l.dk.calls>Y.l.dk.calls)=true:=by simpa using g6
  rw[this]
end Go.Tr
