/- DaemonFails: behind an error of the disk a daemon may be read only.
  Conditions: none. -/
import Derived.Test.YtploofmfghjijaaGreatDaeKd
namespace Go.Tr
open Go
set_option linter.unusedVariables false
set_option linter.unusedSimpArgs false
set_option maxRecDepth 100000
set_option maxHeartbeats 1000000
theorem zFJ{x:Dm}{N:Nat}(h:oS x N)(hN:N<=1000000000){es:List cw}{k:Nat}(hk:k<es.length)(hl:es.length<=1000)(he:ln es[k]):
  KF es (es.length:Int) (k:Int) x.c x.c.1 x.c.2.1 x.c.2.2.1 x.c.2.2.2.1 x.c.2.2.2.2.1 x.c.2.2.2.2.2.1 x.c.2.2.2.2.2.2.1 x.c.2.2.2.2.2.2.2.1 x.c.2.2.2.2.2.2.2.2 x.s.1 x.s.2.1 x.s.2.2.1 x.s.2.2.2.1 x.s.2.2.2.2.1 x.s.2.2.2.2.2.1 x.s.2.2.2.2.2.2 x.s x.l.rg x.l.tn x.l.nx x.l.br x.l.dk.left x.l.dk.fail x.l.dk.down x.l.dk.calls x.l.rc x.l.dk.kept x.l.dk.wait=
   some (.inl (es,(es.length:Int),((k+1:Nat):Int),x.c,(x.act es[k]).2.2.c.1,(x.act es[k]).2.2.c.2.1,(x.act es[k]).2.2.c.2.2.1,(x.act es[k]).2.2.c.2.2.2.1,(x.act es[k]).2.2.c.2.2.2.2.1,(x.act es[k]).2.2.c.2.2.2.2.2.1,(x.act es[k]).2.2.c.2.2.2.2.2.2.1,(x.act es[k]).2.2.c.2.2.2.2.2.2.2.1,(x.act es[k]).2.2.c.2.2.2.2.2.2.2.2,(x.act es[k]).2.2.s.1,(x.act es[k]).2.2.s.2.1,(x.act es[k]).2.2.s.2.2.1,(x.act es[k]).2.2.s.2.2.2.1,(x.act es[k]).2.2.s.2.2.2.2.1,(x.act es[k]).2.2.s.2.2.2.2.2.1,(x.act es[k]).2.2.s.2.2.2.2.2.2,(x.act es[k]).2.2.s,(x.act es[k]).2.2.l.rg,(x.act es[k]).2.2.l.tn,(x.act es[k]).2.2.l.nx,(x.act es[k]).2.2.l.br,(x.act es[k]).2.2.l.dk.left,(x.act es[k]).2.2.l.dk.fail,(x.act es[k]).2.2.l.dk.down,(x.act es[k]).2.2.l.dk.calls,(x.act es[k]).2.2.l.rc,(x.act es[k]).2.2.l.dk.kept,(x.act es[k]).2.2.l.dk.wait,())):=by
 have T:=Dd (x:=x) h.s he.r
 have R:=h.act he
 have e1:(Option.rec jh (fun val=>val) es[((k:Nat):Int).toNat]? :cw)=es[k]:=by
  rw[Int.toNat_natCast,List.getElem?_eq_getElem hk]
 have hw:IntKind.i64.wrap ((k:Int)+1)=((k+1:Nat):Int):=by rw[bA (by omega) (by omega)];omega
 unfold KF
 rw[decide_eq_true (by omega),bz,aC ⟨by omega,by omega⟩]
 simp only[aW,e1,hw]
 erw [Qw x]
 rw[au]
 erw [GW h.l hN h.c h.s h.w he.r he.wf he.ow]
 rw[au]
 have ed:=Qr h.c h.s he.r
 generalize x.act es[k]=r at T R ⊢
 obtain⟨t1,t2,t3,t4,t5,t6⟩:=T
 have o2:qo (r.2.2.c,r.2.2.l.fG,r.2.2.s)=some (r.2.2.l.br,()):=rfl
 have s2:uj (r.2.2.c,r.2.2.l.fG,r.2.2.s) es[k].2.1.1=some (ni r.2.2.c r.2.2.s es[k].2.1.1,()):=Qx R.c R.s _
 have hv:(x.l.br&&r.2.1 != 11||!x.l.br&&r.2.1==11||r.2.1 != 0&&(r.1.length:Int) != 0)=false:=by
  cases hb:x.l.br
  ·have:(r.2.1==11)=false:=by simpa using t2 hb
   by_cases h0:r.2.1=0
   ·simp[this,h0]
   ·simp[this,t3 h0]
  ·have:=t1 hb
   have h0:r.1=[]:=t3 (by omega)
   simp[this,h0]
 have hv2:(r.2.1==10&&!r.2.2.l.br)=false:=by
  by_cases h0:r.2.1=10
  ·simp[t4 h0]
  ·have:(r.2.1==10)=false:=by simpa using h0
   simp[this]
 simp only[Dm.out,cc,dI,vw,hv,bn]
 by_cases h0:r.2.1=0
 ·rw[if_pos h0] at t6
  simp only[h0,beq_self_eq_true,bz]
  erw [ed]
  simp only[au]
  have q:=C8 R.s
  rw[t6] at q
  have s3:rv x.c (du x.c x.s es[k]).1 es[k].2.1.1=some (ni x.c (du x.c x.s es[k]).1 es[k].2.1.1,()):=CZ h.c (by rw[<-t6];exact R.s.dC) _
  erw [show lF r.2.2.s (du x.c x.s es[k]).1=some (true,()) from by rw[t6];exact q]
  simp only[au,Bool.not_true,Bool.not_false,Bool.true_and,Bool.false_or,Bool.false_and,show ((0:Int)==10)=false from rfl,wY]
  erw [s2]
  rw[gX,s3,gX,t5,t6]
  simp only[bne_self_eq_false,bn]
 ·rw[if_neg h0] at t6
  have na:(r.2.1==0)=false:=by simpa using h0
  simp only[na,bn,au]
  have q:=C8 R.s
  have s3:rv x.c x.s es[k].2.1.1=some (ni x.c x.s es[k].2.1.1,()):=CZ h.c h.s.dC _
  erw [show lF r.2.2.s x.s=some (true,()) from by rw[t6] at q ⊢;exact q]
  simp only[au,Bool.not_true,Bool.not_false,Bool.true_and,Bool.false_or]
  erw [o2]
  rw[gX]
  simp only[hv2,Bool.not_false]
  erw [s2]
  rw[gX,s3,gX,t5,t6]
  simp only[bne_self_eq_false,Bool.or_false,bn]
theorem zFL{x:Dm}{N:Nat}(h:oS x N)(hN:N<=100000000){es:List cw}(hl:es.length<=1000)(he:∀ e∈es,ln e):
  Vm (es,(es.length:Int),0,x.c,x.c.1,x.c.2.1,x.c.2.2.1,x.c.2.2.2.1,x.c.2.2.2.2.1,x.c.2.2.2.2.2.1,x.c.2.2.2.2.2.2.1,x.c.2.2.2.2.2.2.2.1,x.c.2.2.2.2.2.2.2.2,x.s.1,x.s.2.1,x.s.2.2.1,x.s.2.2.2.1,x.s.2.2.2.2.1,x.s.2.2.2.2.2.1,x.s.2.2.2.2.2.2,x.s,x.l.rg,x.l.tn,x.l.nx,x.l.br,x.l.dk.left,x.l.dk.fail,x.l.dk.down,x.l.dk.calls,x.l.rc,x.l.dk.kept,x.l.dk.wait,())=
   some (.inl ((x.after es).c.1,(x.after es).c.2.1,(x.after es).c.2.2.1,(x.after es).c.2.2.2.1,(x.after es).c.2.2.2.2.1,(x.after es).c.2.2.2.2.2.1,(x.after es).c.2.2.2.2.2.2.1,(x.after es).c.2.2.2.2.2.2.2.1,(x.after es).c.2.2.2.2.2.2.2.2,(x.after es).s.1,(x.after es).s.2.1,(x.after es).s.2.2.1,(x.after es).s.2.2.2.1,(x.after es).s.2.2.2.2.1,(x.after es).s.2.2.2.2.2.1,(x.after es).s.2.2.2.2.2.2,(x.after es).l.rg,(x.after es).l.tn,(x.after es).l.nx,(x.after es).l.br,(x.after es).l.dk.left,(x.after es).l.dk.fail,(x.after es).l.dk.down,(x.after es).l.dk.calls,(x.after es).l.rc,(x.after es).l.dk.kept,(x.after es).l.dk.wait,())):=by
 unfold Vm
 have A:=h.after he
 have h0:((es,(es.length:Int),0,x.c,x.c.1,x.c.2.1,x.c.2.2.1,x.c.2.2.2.1,x.c.2.2.2.2.1,x.c.2.2.2.2.2.1,x.c.2.2.2.2.2.2.1,x.c.2.2.2.2.2.2.2.1,x.c.2.2.2.2.2.2.2.2,x.s.1,x.s.2.1,x.s.2.2.1,x.s.2.2.2.1,x.s.2.2.2.2.1,x.s.2.2.2.2.2.1,x.s.2.2.2.2.2.2,x.s,x.l.rg,x.l.tn,x.l.nx,x.l.br,x.l.dk.left,x.l.dk.fail,x.l.dk.down,x.l.dk.calls,x.l.rc,x.l.dk.kept,x.l.dk.wait,()):List cw×Int×Int×bD×Int×Int×Int×Int×Int×Int×Int×Int×Int×Int×Int×(List aX)×(List aH)×(List (Int×List aL))×(List aM)×(List (Int×Int×Int×Int))×bj×Int×Int×Int×Bool×Int×Int×Bool×Int×(List (List Int))×(List (List Int))×(List (Int×List Int))×Unit)=
  (fun k:Nat=>(es,(es.length:Int),(k:Int),x.c,(x.after (es.take k)).c.1,(x.after (es.take k)).c.2.1,(x.after (es.take k)).c.2.2.1,(x.after (es.take k)).c.2.2.2.1,(x.after (es.take k)).c.2.2.2.2.1,(x.after (es.take k)).c.2.2.2.2.2.1,(x.after (es.take k)).c.2.2.2.2.2.2.1,(x.after (es.take k)).c.2.2.2.2.2.2.2.1,(x.after (es.take k)).c.2.2.2.2.2.2.2.2,(x.after (es.take k)).s.1,(x.after (es.take k)).s.2.1,(x.after (es.take k)).s.2.2.1,(x.after (es.take k)).s.2.2.2.1,(x.after (es.take k)).s.2.2.2.2.1,(x.after (es.take k)).s.2.2.2.2.2.1,(x.after (es.take k)).s.2.2.2.2.2.2,(x.after (es.take k)).s,(x.after (es.take k)).l.rg,(x.after (es.take k)).l.tn,(x.after (es.take k)).l.nx,(x.after (es.take k)).l.br,(x.after (es.take k)).l.dk.left,(x.after (es.take k)).l.dk.fail,(x.after (es.take k)).l.dk.down,(x.after (es.take k)).l.dk.calls,(x.after (es.take k)).l.rc,(x.after (es.take k)).l.dk.kept,(x.after (es.take k)).l.dk.wait,())) 0:=rfl
 rw[h0,jL (n:=es.length) (fun k:Nat=>(es,(es.length:Int),(k:Int),x.c,(x.after (es.take k)).c.1,(x.after (es.take k)).c.2.1,(x.after (es.take k)).c.2.2.1,(x.after (es.take k)).c.2.2.2.1,(x.after (es.take k)).c.2.2.2.2.1,(x.after (es.take k)).c.2.2.2.2.2.1,(x.after (es.take k)).c.2.2.2.2.2.2.1,(x.after (es.take k)).c.2.2.2.2.2.2.2.1,(x.after (es.take k)).c.2.2.2.2.2.2.2.2,(x.after (es.take k)).s.1,(x.after (es.take k)).s.2.1,(x.after (es.take k)).s.2.2.1,(x.after (es.take k)).s.2.2.2.1,(x.after (es.take k)).s.2.2.2.2.1,(x.after (es.take k)).s.2.2.2.2.2.1,(x.after (es.take k)).s.2.2.2.2.2.2,(x.after (es.take k)).s,(x.after (es.take k)).l.rg,(x.after (es.take k)).l.tn,(x.after (es.take k)).l.nx,(x.after (es.take k)).l.br,(x.after (es.take k)).l.dk.left,(x.after (es.take k)).l.dk.fail,(x.after (es.take k)).l.dk.down,(x.after (es.take k)).l.dk.calls,(x.after (es.take k)).l.rc,(x.after (es.take k)).l.dk.kept,(x.after (es.take k)).l.dk.wait,())) (Nat.zero_le _) fun k _ hk=>?_]
 ·refine dm ?_
  simp only[List.take_length]
  show KF es (es.length:Int) (es.length:Int) x.c (x.after es).c.1 (x.after es).c.2.1 (x.after es).c.2.2.1 (x.after es).c.2.2.2.1 (x.after es).c.2.2.2.2.1 (x.after es).c.2.2.2.2.2.1 (x.after es).c.2.2.2.2.2.2.1 (x.after es).c.2.2.2.2.2.2.2.1 (x.after es).c.2.2.2.2.2.2.2.2 (x.after es).s.1 (x.after es).s.2.1 (x.after es).s.2.2.1 (x.after es).s.2.2.2.1 (x.after es).s.2.2.2.2.1 (x.after es).s.2.2.2.2.2.1 (x.after es).s.2.2.2.2.2.2 (x.after es).s (x.after es).l.rg (x.after es).l.tn (x.after es).l.nx (x.after es).l.br (x.after es).l.dk.left (x.after es).l.dk.fail (x.after es).l.dk.down (x.after es).l.dk.calls (x.after es).l.rc (x.after es).l.dk.kept (x.after es).l.dk.wait=_
  unfold KF
  rw[decide_eq_false (by omega),bn]
 ·have kF:=he _ (List.getElem_mem hk)
  have st:=zFJ (A k (by omega)).1 (by omega) hk hl kF
  rw[(A k (by omega)).2] at st
  simp only[Mg x es hk]
  rw[(A k (by omega)).2]
  exact st
theorem oS.fail{x:Dm}{N:Nat}(h:oS x N){f:Int}(h0:0<=f)(h1:f<=255):oS ⟨x.c,x.l.set { x.l.dk with fail:=f },x.s⟩ N:=
 have d:=h.l.dk
 ⟨⟨⟨d.l0,d.l1,by show -1<=f;omega,by show f<=_;omega,d.c0,d.c1,d.wc,d.k1,d.wi,d.ks,d.ws⟩,h.l.r0,h.l.r1,h.l.n0,h.l.n1,h.l.t0,h.l.t1,h.l.rl,h.l.rb⟩,h.c,h.s,h.w⟩
theorem daemonFails_law{x:bD}(hx:C9 x){eE:List cH}(ha:∀ a∈eE,A6 a){f:Int}(hf:kb f):Vn x eE f=some (true,()):=by
 unfold Vn
 rw[Mf,au]
 simp only[Bool.not_true,bn]
 obtain⟨c,h1,hc⟩:=Qs hx
 obtain⟨es,e1,e2,e3⟩:=QG ha
 have XR:0<=f/\f<=255:=by have:=hf;unfold kb at this;omega
 rw[h1,au]
 have e0:oB (120:Int)=_:=GX 120 (by omega)
 rw[e0,au]
 simp only
 have e4:iv c (-1) (-1) false 0 (List.replicate 120 (List.replicate 64 0)) []=_:=Me hc (n:=120) (by omega) (by omega)
 rw[e4,au,dV]
 have hQ:=QE hc (n:=120) (by omega) (by omega)
 simp only[Dm.ll,aW,cc,dI,bne_self_eq_false,Bool.or_false,bn]
 have hw:IntKind.i64.wrap f=f:=bA (by omega) (by omega)
 have uI:∀ e∈es,ln e:=fun e he=>(e3 e he).toB
 generalize (fE 120).bK.2=L at*
 have ef:FF f L.dk.left L.dk.fail L.dk.down L.dk.calls L.dk.kept L.dk.wait=some (L.dk.left,f,L.dk.down,L.dk.calls,L.dk.kept,L.dk.wait,()):=by
  unfold FF
  rw[if_pos (by omega)]
 rw[hw,ef,au,e1,au]
 have hR:=hQ.toR.fail XR.1 XR.2
 have fl:=zFL hR (by omega) (by omega) uI
 simp only[Lg.set] at fl ⊢
 erw [fl]
 rw[au,dV]
 have hY:=(hR.after uI es.length (Nat.le_refl _)).1
 rw[List.take_length] at hY
 simp only[Lg.set] at hY
 generalize Dm.after _ es=Y at hY ⊢
 have o1:=Qw Y
 have k1:=L8 hY.l (by omega) hY.s hY.w
 erw [o1]
 rw[au]
 by_cases hb:Y.l.br=true
 ·simp only[hb,Bool.not_true,wY,aW,cc,dI,Bool.true_or]
 ·have cL:Y.l.br=false:=by simpa using hb
  have ke:=(zlM Y.l (fg Y.s) cL).1
  have ke':Y.keep.1≠11:=ke
  simp only[cL,Bool.not_false,fW]
  rw[cL] at k1
  erw [k1]
  rw[au]
  simp[ke']
end Go.Tr
