/- The daemon as plain data: Do, Keep, and what it tells, exactly. A daemon that is opened, exactly; a disk of zeros. Disks of zeros; a daemon whose disk neither stops nor fails. What a daemon's acts tell; the document's examples. Conditions: none but those that each theorem states. -/
import Derived.Test.YtploofmfghjijaaGreatDaeKb
import Derived.Test.YtploofmfghjijaaGreatCoSt
namespace Go.Tr
open Go
set_option linter.unusedVariables false
set_option linter.unusedSimpArgs false
set_option maxRecDepth 100000
structure Dm where
 c:bD
 l:Lg
 s:bj
abbrev zE2:Type:=((List (List Int))×(List (Int×List Int))×Int×Int×Bool×Int)×Int×Int×Int×(List (List Int))×Bool
def Lg.fG(l:Lg):zE2:=((l.dk.kept,l.dk.wait,l.dk.left,l.dk.fail,l.dk.down,l.dk.calls),l.rg,l.tn,l.nx,l.rc,l.br)
def Dm.keep(x:Dm):Int×Dm:=((x.l.dM (fg x.s)).1,{ x with l:=(x.l.dM (fg x.s)).2 })
noncomputable def Dm.act(x:Dm)(e:cw):List ka×Int×Dm:=
 if x.l.br=true then ([],11,x) else
 if (eS (cS e)).2=false then ([],12,x) else
 if (du x.c x.s e).2.1≠0 then ([],(du x.c x.s e).2.1,x) else
 if (x.l.app (cS e)).1=4 then
  let k:=Dm.keep { x with l:=(x.l.app (cS e)).2 }
  if k.1=0 then
   if (k.2.l.app (cS e)).1≠0 then ([],(k.2.l.app (cS e)).1,{ k.2 with l:=(k.2.l.app (cS e)).2 })
   else ((du x.c x.s e).2.2,0,⟨x.c,(k.2.l.app (cS e)).2,(du x.c x.s e).1⟩)
  else ([],k.1,k.2)
 else if (x.l.app (cS e)).1≠0 then ([],(x.l.app (cS e)).1,{ x with l:=(x.l.app (cS e)).2 })
 else ((du x.c x.s e).2.2,0,⟨x.c,(x.l.app (cS e)).2,(du x.c x.s e).1⟩)
abbrev zE3:Type:=Int×Int×Int×Bool×Int×Int×Bool×Int×(List (List Int))×(List (List Int))×(List (Int×List Int))×Unit
def Dm.out(x:Dm):Int×Int×Int×Int×Int×Int×Int×Int×Int×Int×Int×(List aX)×(List aH)×(List (Int×List aL))×(List aM)×(List (Int×Int×Int×Int))×zE3:=
 (x.c.1,x.c.2.1,x.c.2.2.1,x.c.2.2.2.1,x.c.2.2.2.2.1,x.c.2.2.2.2.2.1,x.c.2.2.2.2.2.2.1,x.c.2.2.2.2.2.2.2.1,x.c.2.2.2.2.2.2.2.2,x.s.1,x.s.2.1,x.s.2.2.1,x.s.2.2.2.1,x.s.2.2.2.2.1,x.s.2.2.2.2.2.1,x.s.2.2.2.2.2.2,
  x.l.rg,x.l.tn,x.l.nx,x.l.br,x.l.dk.left,x.l.dk.fail,x.l.dk.down,x.l.dk.calls,x.l.dk.kept,x.l.rc,x.l.dk.wait,())
theorem L8{x:Dm}{N:Nat}(h:x.l.Ok N)(hN:N<=10000000000)(hs:cF x.s)(hw:gf x.s):
  xk x.c.1 x.c.2.1 x.c.2.2.1 x.c.2.2.2.1 x.c.2.2.2.2.1 x.c.2.2.2.2.2.1 x.c.2.2.2.2.2.2.1 x.c.2.2.2.2.2.2.2.1 x.c.2.2.2.2.2.2.2.2 x.s.1 x.s.2.1 x.s.2.2.1 x.s.2.2.2.1 x.s.2.2.2.2.1 x.s.2.2.2.2.2.1 x.s.2.2.2.2.2.2
   x.l.rg x.l.tn x.l.nx x.l.br x.l.dk.left x.l.dk.fail x.l.dk.down x.l.dk.calls x.l.dk.kept x.l.dk.wait x.l.rc=some (x.keep.1,x.keep.2.out):=by
 have ok:=hs.ok hw
 unfold xk
 have e1:EV (x.s.1,x.s.2.1,x.s.2.2.1,x.s.2.2.2.1,x.s.2.2.2.2.1,x.s.2.2.2.2.2.1,x.s.2.2.2.2.2.2)=some (fg x.s,()):=zCA ok
 rw[e1,au]
 simp only
 rw[WU h hN (GF ok) (by have:=hs.zE1;omega),au]
 rfl
theorem Qw(x:Dm):qo (x.c,x.l.fG,x.s)=some (x.l.br,()):=rfl
theorem Qx{x:Dm}(hc:ja x.c)(hs:cF x.s)(a:Int):uj (x.c,x.l.fG,x.s) a=some (ni x.c x.s a,()):=by
 unfold uj
 simp only
 rw[CZ hc hs.dC a];rfl
theorem xS(x:Dm):lG (x.c,x.l.fG,x.s)=some (x.l.tn,()):=rfl
theorem XL(d:Dk):FJ (d.kept,d.wait,d.left,d.fail,d.down,d.calls)=some (d.calls,()):=rfl
theorem zE4{rc:List (List Int)}(h:rc.length<=1000000)(hb:∀ b∈rc,b.length<=1000000):OL (rc,(rc.length:Int),0,[],())=some (.inl (rc,())):=by
 unfold OL
 have h0:((rc,(rc.length:Int),0,[],()):(List (List Int))×Int×Int×(List (List Int))×Unit)=(fun k:Nat=>(rc,(rc.length:Int),(k:Int),rc.take k,())) 0:=by simp
 rw[h0,jL (n:=rc.length) (fun k:Nat=>(rc,(rc.length:Int),(k:Int),rc.take k,())) (Nat.zero_le _) fun k _ hk=>?_]
 ·refine dm ?_
  show KD rc (rc.length:Int) (rc.length:Int) (rc.take rc.length)=_
  unfold KD
  rw[decide_eq_false (by omega),bn,List.take_length]
 ·show KD rc (rc.length:Int) (k:Int) (rc.take k)=some (.inl (rc,(rc.length:Int),((k+1:Nat):Int),rc.take (k+1),()))
  have hg:rc.getD k []=rc[k]:=by rw[List.getD_eq_getElem?_getD,List.getElem?_eq_getElem hk];rfl
  have hw:IntKind.i64.wrap ((k:Int)+1)=((k+1:Nat):Int):=by rw[bA (by omega) (by omega)];omega
  have:=hb _ (List.getElem_mem hk)
  unfold KD
  rw[decide_eq_true (by omega),bz,aC ⟨by omega,by omega⟩]
  simp only[aW,Int.toNat_natCast,hg,hw]
  rw[aC (by simp only[kj];omega),aC (by show ((rc.take k).length+1)*24<=_;rw[List.length_take];omega),List.take_succ_eq_append_getElem hk]
theorem Da{x:Dm}{N:Nat}(h:x.l.Ok N)(hb:∀ b∈x.l.rc,b.length<=1000000):ju (x.c,x.l.fG,x.s)=some ((x.l.rc.length:Int)-1,()):=by
 have uz:=h.rl
 have jd:=h.n1
 unfold ju OM
 have:=zE4 (rc:=x.l.rc) (by omega) hb
 have e:OL ((x.c,x.l.fG,x.s).2.1.2.2.2.2.1,((x.c,x.l.fG,x.s).2.1.2.2.2.2.1.length:Int),0,[],())=some (.inl (x.l.rc,())):=this
 rw[e,au,dV,au]
 simp only[aW]
 rw[bA (by omega) (by omega)]
theorem Qy{l:Lg}{N:Nat}(h:l.Ok N){b:List Int}(hb:bN b):(l.app b).2.Ok (N+1000)/\(l.app b).2.dk.kept.length=l.dk.kept.length:=by
 have hk1:=h.dk.k1
 have hh:l.dk.half=(l.dk.kept.length:Int) / 2:=rfl
 have jY:=xH b.length
 have mo:l.Ok (N+1000):=⟨h.dk.mono (by omega),h.r0,h.r1,h.n0,h.n1,h.t0,by have:=h.t1;omega,h.rl,h.rb⟩
 unfold Lg.app
 split
 ·exact⟨mo,rfl⟩
 split
 ·exact⟨mo,rfl⟩
 split
 ·exact⟨mo,rfl⟩
 ·rename_i h1 h2 h3
  have hd:=(h.dk.runs (ij (l.rg*l.dk.half+l.nx) 2 l.rc.length b) (Lt hb _ _ _)).mono (show _<=N+1000 by have:=CC (l.rg*l.dk.half+l.nx) 2 l.rc.length b (by omega);omega)
  have hkl:=Cz (ij (l.rg*l.dk.half+l.nx) 2 l.rc.length b) l.dk
  have hA:runs (ij (l.rg*l.dk.half+l.nx) 2 l.rc.length b) l.dk=l.kx b:=rfl
  rw[hA] at hd hkl
  have jq:=h.n0
  have Lv:=h.t1
  have uz:=h.rl
  split
  ·exact⟨⟨hd,h.r0,h.r1,by show 0<=l.nx+sec b.length;omega,by show l.nx+sec b.length<=1000;omega,h.t0,by show l.tn<=_;omega,by show ((l.rc++[b]).length:Int)<=l.nx+sec b.length;simp;omega,fun c hc=>by
    rcases List.mem_append.1 hc with hc | hc
    ·exact h.rb c hc
    ·simp at hc;subst hc;exact⟨hb,by omega⟩⟩,hkl⟩
  ·exact⟨⟨hd,h.r0,h.r1,jq,h.n1,h.t0,by show l.tn<=_;omega,uz,h.rb⟩,hkl⟩
theorem L9{l:Lg}{N:Nat}(h:l.Ok N){b:List Int}(hb:bN b):(l.dM b).2.Ok (N+4000)/\(l.dM b).2.dk.kept.length=l.dk.kept.length:=by
 have hk1:=h.dk.k1
 have hh:l.dk.half=(l.dk.kept.length:Int) / 2:=rfl
 have jY:=xH b.length
 have iM:=h.r0
 have gV:=h.r1
 have zJ:=h.t0
 have Lv:=h.t1
 have mo:l.Ok (N+4000):=⟨h.dk.mono (by omega),h.r0,h.r1,h.n0,h.n1,h.t0,by omega,h.rl,h.rb⟩
 unfold Lg.dM
 split
 ·exact⟨mo,rfl⟩
 split
 ·exact⟨mo,rfl⟩
 split
 ·exact⟨mo,rfl⟩
 ·rename_i h1 h2 h3
  have cR:∀ o∈l.oK b,o.Ok:=by
   intro o ho
   rcases List.mem_append.1 ho with ho | ho
   ·exact Ls _ _ _ o ho
   ·rcases List.mem_append.1 ho with ho | ho
    ·exact Lt hb _ _ _ o ho
    ·exact Lt CB _ _ _ o ho
  have hlen:(l.oK b).length<=4000:=by
   have c1:=Gk l.dk.half (1-l.rg) 0 (by omega)
   have c2:=CC ((1-l.rg)*l.dk.half+1) 2 0 b (by omega)
   have c3:=CC ((1-l.rg)*l.dk.half+0) 1 (l.tn+1) [] (by simp)
   unfold Lg.oK
   rw[List.length_append,List.length_append]
   omega
  have hd:=(h.dk.runs (l.oK b) cR).mono (show _<=N+4000 by omega)
  have hkl:=Cz (l.oK b) l.dk
  have hA:runs (l.oK b) l.dk=l.ky b:=rfl
  rw[hA] at hd hkl
  split
  ·exact⟨⟨hd,by show 0<=1-l.rg;omega,by show 1-l.rg<=1;omega,by show 0<=1+sec b.length;omega,by show 1+sec b.length<=1000;omega,by show 0<=l.tn+1;omega,by show l.tn+1<=_;omega,by show (([b]:List (List Int)).length:Int)<=1+sec b.length;simp;omega,fun c hc=>by
    simp at hc;subst hc;exact⟨hb,by omega⟩⟩,hkl⟩
  ·exact⟨⟨hd,iM,gV,h.n0,h.n1,zJ,by show l.tn<=_;omega,h.rl,h.rb⟩,hkl⟩
theorem zE5{d:Dk}{N:Nat}(h:d.Ok N):d.bK.2.Ok (N+4294971295)/\d.bK.2.dk.kept.length=d.kept.length:=by
 have l0:=zjS h
 have mo:d.j8.Ok (N+4294971295):=⟨h.mono (by omega),l0.r0,l0.r1,l0.n0,l0.n1,l0.t0,by have:=l0.t1;omega,l0.rl,l0.rb⟩
 have hk1:=h.k1
 have hh:d.half=(d.kept.length:Int) / 2:=rfl
 unfold Dk.bK
 split
 ·exact⟨mo,rfl⟩
 split
 ·exact⟨mo,rfl⟩
 split
 ·have hf:=PO h
  have hd:=(h.runs (i6 d.half d.fp.1 d.found.1) (Ls _ _ _)).mono (show _<=N+4294971295 by have:=Gk d.half d.fp.1 d.found.1 (by omega);omega)
  exact⟨⟨hd,mo.r0,mo.r1,mo.n0,mo.n1,mo.t0,mo.t1,mo.rl,mo.rb⟩,Cz _ _⟩
 ·have:=L9 l0 CB
  exact⟨⟨this.1.dk.mono (by omega),this.1.r0,this.1.r1,this.1.n0,this.1.n1,this.1.t0,by have:=this.1.t1;omega,this.1.rl,this.1.rb⟩,this.2⟩
theorem zlB{c:bD}(hc:ja c){s:bj}(hs:cF s)(e:cw):(du c s e).2.2.length<=64:=by
 have hr:=hc.XB
 unfold du
 split
 ·have:=(zlo hc hs).2
  show (C6 c s).2.length<=64
  omega
 ·simp
theorem GW{x:Dm}{N:Nat}(h:x.l.Ok N)(hN:N<=1000000000)(hc:ja x.c)(hs:cF x.s)(hw:gf x.s){e:cw}(he:EvR e)(hf:rR e)(ho:e.2.1.2.1.length<=100):
  sQ e x.c.1 x.c.2.1 x.c.2.2.1 x.c.2.2.2.1 x.c.2.2.2.2.1 x.c.2.2.2.2.2.1 x.c.2.2.2.2.2.2.1 x.c.2.2.2.2.2.2.2.1 x.c.2.2.2.2.2.2.2.2 x.s.1 x.s.2.1 x.s.2.2.1 x.s.2.2.2.1 x.s.2.2.2.2.1 x.s.2.2.2.2.2.1 x.s.2.2.2.2.2.2
   x.l.rg x.l.tn x.l.nx x.l.br x.l.dk.left x.l.dk.fail x.l.dk.down x.l.dk.calls x.l.dk.kept x.l.dk.wait x.l.rc=some ((x.act e).1,(x.act e).2.1,(x.act e).2.2.out):=by
 have oR:bN (cS e):=GU hf
 have gL:(cS e).length<=1000000000:=by
  have l6:∀ m:cH,(nR m).length=6:=fun m=>rfl
  unfold cS gP
  rw[List.length_append]
  split
  ·simp only[List.length_append,cU,l6,List.length_singleton,Cv];omega
  split
  ·simp only[List.length_append,cU,List.length_singleton];omega
  split
  ·simp only[List.length_append,cU,List.length_singleton,l6];omega
  split
  ·rw[cU];simp
  ·simp
 have AN:=zlB hc hs e
 have dh:Ca (du x.c x.s e).2.2=some ((du x.c x.s e).2.2,()):=by
  unfold Ca clone
  rw[aC (by show List.length (du x.c x.s e).2.2*40<=_;omega)]
 have e0:qo ((x.c.1,x.c.2.1,x.c.2.2.1,x.c.2.2.2.1,x.c.2.2.2.2.1,x.c.2.2.2.2.2.1,x.c.2.2.2.2.2.2.1,x.c.2.2.2.2.2.2.2.1,x.c.2.2.2.2.2.2.2.2),((x.l.dk.kept,x.l.dk.wait,x.l.dk.left,x.l.dk.fail,x.l.dk.down,x.l.dk.calls),x.l.rg,x.l.tn,x.l.nx,x.l.rc,x.l.br),x.s.1,x.s.2.1,x.s.2.2.1,x.s.2.2.2.1,x.s.2.2.2.2.1,x.s.2.2.2.2.2.1,x.s.2.2.2.2.2.2)=some (x.l.br,()):=rfl
 have e3:vF (x.c.1,x.c.2.1,x.c.2.2.1,x.c.2.2.2.1,x.c.2.2.2.2.1,x.c.2.2.2.2.2.1,x.c.2.2.2.2.2.2.1,x.c.2.2.2.2.2.2.2.1,x.c.2.2.2.2.2.2.2.2) (x.s.1,x.s.2.1,x.s.2.2.1,x.s.2.2.2.1,x.s.2.2.2.2.1,x.s.2.2.2.2.2.1,x.s.2.2.2.2.2.2) e=some ((du x.c x.s e).1,(du x.c x.s e).2.1,(du x.c x.s e).2.2,()):=Qr hc hs he
 unfold sQ Dm.act
 rw[e0,au]
 by_cases h1:x.l.br=true
 ·rw[if_pos h1]
  simp only[h1,bz]
  unfold Dm.out
  rw[h1]
 ·rw[if_neg h1]
  have cW:x.l.br=false:=by simpa using h1
  simp only[cW,bn]
  rw[zju hf,au]
  simp only
  rw[Lq oR,au]
  by_cases h2:(eS (cS e)).2=false
  ·rw[if_pos h2]
   simp only[h2,Bool.not_false,bz]
   unfold Dm.out
   rw[cW]
  ·rw[if_neg h2]
   have gF:(eS (cS e)).2=true:=by simpa using h2
   simp only[gF,Bool.not_true,bn]
   rw[e3,au]
   simp only[aW]
   by_cases h3:(du x.c x.s e).2.1≠0
   ·rw[if_pos h3]
    simp only[rS h3,bz]
    unfold Dm.out
    rw[cW]
   ·rw[if_neg h3]
    have jH:(du x.c x.s e).2.1=0:=by simpa using h3
    simp only[jH,bne_self_eq_false,bn]
    have ha:=WT h (by omega) oR gL
    rw[cW] at ha
    rw[ha,au]
    have oka:=(Qy h oR).1
    simp only[Lg.out]
    by_cases h4:(x.l.app (cS e)).1=4
    ·rw[if_pos h4]
     simp only[h4,beq_self_eq_true,bz]
     have hk:=L8 (x:={ x with l:=(x.l.app (cS e)).2 }) oka (by omega) hs hw
     simp only at hk
     rw[hk,au]
     simp only[Dm.out]
     generalize hK:Dm.keep { x with l:=(x.l.app (cS e)).2 }=k
     have okk:k.2.l.Ok (N+1000+4000):=by rw[<-hK];exact (L9 oka (GF (hs.ok hw))).1
     have hkc:k.2.c=x.c:=by rw[<-hK];rfl
     have Zs:k.2.s=x.s:=by rw[<-hK];rfl
     by_cases h5:k.1=0
     ·rw[if_pos h5]
      simp only[h5,beq_self_eq_true,bz]
      rw[WT okk (by omega) oR gL,au]
      simp only[Lg.out]
      by_cases h6:(k.2.l.app (cS e)).1≠0
      ·rw[if_pos h6]
       simp only[rS h6,bz]
      ·rw[if_neg h6]
       have XM:(k.2.l.app (cS e)).1=0:=by simpa using h6
       simp only[XM,bne_self_eq_false,bn]
       rw[dh,au,hkc]
     ·rw[if_neg h5]
      have:(k.1==0)=false:=by simpa using h5
      simp only[this,bn,rS h5,bz]
    ·rw[if_neg h4]
     have:((x.l.app (cS e)).1==4)=false:=by simpa using h4
     simp only[this,bn]
     by_cases h6:(x.l.app (cS e)).1≠0
     ·rw[if_pos h6]
      simp only[rS h6,bz]
      rfl
     ·rw[if_neg h6]
      have XM:(x.l.app (cS e)).1=0:=by simpa using h6
      simp only[XM,bne_self_eq_false,bn]
      rw[dh,au]
      rfl
noncomputable def jb(c:bD):List (List Int)->bj->Option bj
 | [],s=>some s
 | r::t,s=>if (eS r).2=true then jb c t (du c s (eS r).1).1 else none
noncomputable def lP(c:bD):List (List Int)->Option bj
 | []=>none
 | b::t=>if b.length>0 then (if (gj b).2=true then jb c t (gj b).1 else none) else jb c t fU
noncomputable def nU(c:bD)(d:Dk):Int×Dm:=
 if d.bK.1≠0 then (d.bK.1,⟨c,d.bK.2,fU⟩) else match lP c d.bK.2.rc with
  | some s=>(0,⟨c,d.bK.2,s⟩)
  | none=>(1,⟨c,d.bK.2,fU⟩)
def Dm.ll(x:Dm):Int×Int×Int×Bool×Int×(List (List Int))×Int×Int×Int×Int×Int×Int×Int×Int×Int×Int×Int×(List aX)×(List aH)×(List (Int×List aL))×(List aM)×(List (Int×Int×Int×Int))×(List (Int×List Int))×Int×Int×Int×Bool×(List (List Int))×Unit:=
 (0,x.l.dk.left,x.l.dk.fail,x.l.dk.down,x.l.dk.calls,x.l.dk.kept,x.c.1,x.c.2.1,x.c.2.2.1,x.c.2.2.2.1,x.c.2.2.2.2.1,x.c.2.2.2.2.2.1,x.c.2.2.2.2.2.2.1,x.c.2.2.2.2.2.2.2.1,x.c.2.2.2.2.2.2.2.2,x.s.1,x.s.2.1,x.s.2.2.1,x.s.2.2.2.1,x.s.2.2.2.2.1,x.s.2.2.2.2.2.1,x.s.2.2.2.2.2.2,x.l.dk.wait,x.l.rg,x.l.tn,x.l.nx,x.l.br,x.l.rc,())
def Dk.Ma(e:Int)(d:Dk):Int×Int×Int×Bool×Int×(List (List Int))×(List (Int×List Int))×Unit:=(e,d.left,d.fail,d.down,d.calls,d.kept,d.wait,())
theorem zE8{d:Dk}(h:d.bK.1=0):d.bK.2.rc≠[]:=by
 unfold Dk.bK at h ⊢
 split at h
 ·simp at h
 split at h
 ·simp at h
 rename_i h1 h2
 rw[if_neg h1,if_neg h2]
 split at h
 ·rename_i h3
  rw[if_pos h3]
  intro hh
  have:d.found.2=[]:=hh
  rw[this] at h3
  simp at h3
 ·rename_i h3
  rw[if_neg h3]
  unfold Lg.dM at h ⊢
  split at h
  ·simp at h
  split at h
  ·simp at h
  split at h
  ·simp at h
  rename_i g1 g2 g3
  rw[if_neg g1,if_neg g2,if_neg g3]
  split at h
  ·rename_i g4
   rw[if_pos g4]
   simp
  ·rename_i g4
   exact absurd h g4
theorem zE9{l:Lg}(h:l.rc.length<=1000000)(hb:∀ b∈l.rc,b.length<=1000000):KA l.rg l.tn l.nx l.br l.dk.left l.dk.fail l.dk.down l.dk.calls l.dk.kept l.dk.wait l.rc=
  some (l.rc,l.rg,l.tn,l.nx,l.br,l.dk.left,l.dk.fail,l.dk.down,l.dk.calls,l.dk.kept,l.dk.wait,l.rc,()):=by
 obtain⟨d,rg,tn,nx,rc,br⟩:=l
 simp only at h hb ⊢
 have hl:U6 ((rc.length:Int),0,[],rg,tn,nx,br,d.left,d.fail,d.down,d.calls,d.kept,d.wait,rc,())=some (.inl (rg,tn,nx,br,d.left,d.fail,d.down,d.calls,d.kept,d.wait,rc,rc,())):=by
  unfold U6
  have h0:(((rc.length:Int),0,[],rg,tn,nx,br,d.left,d.fail,d.down,d.calls,d.kept,d.wait,rc,()):Int×Int×(List (List Int))×Int×Int×Int×Bool×Int×Int×Bool×Int×(List (List Int))×(List (Int×List Int))×(List (List Int))×Unit)=(fun k:Nat=>((rc.length:Int),(k:Int),rc.take k,rg,tn,nx,br,d.left,d.fail,d.down,d.calls,d.kept,d.wait,rc,())) 0:=by simp
  rw[h0,jL (n:=rc.length) (fun k:Nat=>((rc.length:Int),(k:Int),rc.take k,rg,tn,nx,br,d.left,d.fail,d.down,d.calls,d.kept,d.wait,rc,())) (Nat.zero_le _) fun k _ hk=>?_]
  ·refine dm ?_
   show Kz (rc.length:Int) (rc.length:Int) (rc.take rc.length) rg tn nx br d.left d.fail d.down d.calls d.kept d.wait rc=_
   unfold Kz
   rw[decide_eq_false (by omega),bn,List.take_length]
  ·show Kz (rc.length:Int) (k:Int) (rc.take k) rg tn nx br d.left d.fail d.down d.calls d.kept d.wait rc=some (.inl ((rc.length:Int),((k+1:Nat):Int),rc.take (k+1),rg,tn,nx,br,d.left,d.fail,d.down,d.calls,d.kept,d.wait,rc,()))
   have hg:rc.getD k []=rc[k]:=by rw[List.getD_eq_getElem?_getD,List.getElem?_eq_getElem hk];rfl
   have hw:IntKind.i64.wrap ((k:Int)+1)=((k+1:Nat):Int):=by rw[bA (by omega) (by omega)];omega
   have:=hb _ (List.getElem_mem hk)
   unfold Kz
   rw[decide_eq_true (by omega),bz,aC ⟨by omega,by omega⟩]
   simp only[aW,Int.toNat_natCast,hg,hw]
   rw[aC (by omega),aC (by simp only[kj];omega),aC (by show ((rc.take k).length+1)*24<=_;rw[List.length_take];omega),List.take_succ_eq_append_getElem hk]
 unfold KA
 rw[hl,au,dV]
abbrev zFa:Type:=(Int×Int×Bool×Int×(List (List Int))×Int×Int×Int×Int×Int×Int×Int×Int×Int×Int×Int×(List aX)×(List aH)×(List (Int×List aL))×(List aM)×(List (Int×Int×Int×Int))×(List (Int×List Int))×Int×Int×Int×Bool×(List (List Int))×Unit)
def XN(x:Dm):zFa:=(x.l.dk.left,x.l.dk.fail,x.l.dk.down,x.l.dk.calls,x.l.dk.kept,x.c.1,x.c.2.1,x.c.2.2.1,x.c.2.2.2.1,x.c.2.2.2.2.1,x.c.2.2.2.2.2.1,x.c.2.2.2.2.2.2.1,x.c.2.2.2.2.2.2.2.1,x.c.2.2.2.2.2.2.2.2,x.s.1,x.s.2.1,x.s.2.2.1,x.s.2.2.2.1,x.s.2.2.2.2.1,x.s.2.2.2.2.2.1,x.s.2.2.2.2.2.2,x.l.dk.wait,x.l.rg,x.l.tn,x.l.nx,x.l.br,x.l.rc,())
theorem zFb{e:cw}(h:rR e):EvR e:=⟨h.b,by have:=h.o;omega⟩
theorem zlD{c:bD}(hc:ja c)(l:Lg)(rs:List (List Int))(hb:∀ b∈rs,bN b)(hlen:rs.length<=1000000):∀ (m k:Nat) (s:bj),k+m=rs.length->(m≠0->cF s)->
  B4 (rs,(rs.length:Int),(k:Int),l.dk.left,l.dk.fail,l.dk.down,l.dk.calls,l.dk.kept,c,c.1,c.2.1,c.2.2.1,c.2.2.2.1,c.2.2.2.2.1,c.2.2.2.2.2.1,c.2.2.2.2.2.2.1,c.2.2.2.2.2.2.2.1,c.2.2.2.2.2.2.2.2,s.1,s.2.1,s.2.2.1,s.2.2.2.1,s.2.2.2.2.1,s.2.2.2.2.2.1,s.2.2.2.2.2.2,l.dk.wait,l.rg,l.tn,l.nx,l.br,l.rc,())=
   some (match jb c (rs.drop k) s with
    | some s'=>.inl (XN ⟨c,l,s'⟩)
    | none=>.inr (.inr (l.dk.Ma 1))):=by
 intro m
 induction m with
 | zero=>
  intro k s hk hs
  unfold B4
  refine dm ?_
  show B3 rs (rs.length:Int) (k:Int) l.dk.left l.dk.fail l.dk.down l.dk.calls l.dk.kept c c.1 c.2.1 c.2.2.1 c.2.2.2.1 c.2.2.2.2.1 c.2.2.2.2.2.1 c.2.2.2.2.2.2.1 c.2.2.2.2.2.2.2.1 c.2.2.2.2.2.2.2.2 s.1 s.2.1 s.2.2.1 s.2.2.2.1 s.2.2.2.2.1 s.2.2.2.2.2.1 s.2.2.2.2.2.2 l.dk.wait l.rg l.tn l.nx l.br l.rc=_
  unfold B3
  rw[decide_eq_false (by omega),bn,List.drop_eq_nil_of_le (by omega)]
  rfl
 | succ m ih=>
  intro k s hk hs
  have hkl:k<rs.length:=by omega
  have hs:=hs (by omega)
  have oR:=hb _ (List.getElem_mem hkl)
  have zFc:rs.drop k=rs[k]::rs.drop (k+1):=List.drop_eq_getElem_cons hkl
  have hg:rs.getD k []=rs[k]:=by rw[List.getD_eq_getElem?_getD,List.getElem?_eq_getElem hkl];rfl
  have hw:IntKind.i64.wrap ((k:Int)+1)=((k+1:Nat):Int):=by rw[bA (by omega) (by omega)];omega
  rw[zFc]
  unfold B4
  by_cases cR:(eS rs[k]).2=true
  ·have hy:=zEN oR cR
   have iE:=zFb hy.1
   have e1:jb c (rs[k]::rs.drop (k+1)) s=jb c (rs.drop (k+1)) (du c s (eS rs[k]).1).1:=by
    show (if _ then _ else _)=_
    rw[if_pos cR]
   rw[e1]
   have:=ih (k+1) (du c s (eS rs[k]).1).1 (by omega) (fun _=>Qq hc hs iE)
   unfold B4 at this
   rw[<-this]
   refine iI ?_
   show B3 rs (rs.length:Int) (k:Int) l.dk.left l.dk.fail l.dk.down l.dk.calls l.dk.kept c c.1 c.2.1 c.2.2.1 c.2.2.2.1 c.2.2.2.2.1 c.2.2.2.2.2.1 c.2.2.2.2.2.2.1 c.2.2.2.2.2.2.2.1 c.2.2.2.2.2.2.2.2 s.1 s.2.1 s.2.2.1 s.2.2.2.1 s.2.2.2.2.1 s.2.2.2.2.2.1 s.2.2.2.2.2.2 l.dk.wait l.rg l.tn l.nx l.br l.rc=_
   unfold B3
   rw[decide_eq_true (by omega),bz,aC ⟨by omega,by omega⟩]
   simp only[aW,Int.toNat_natCast,hg]
   rw[Lq oR,au]
   simp only[cR,Bool.not_true,bn]
   have e2:vF c (s.1,s.2.1,s.2.2.1,s.2.2.2.1,s.2.2.2.2.1,s.2.2.2.2.2.1,s.2.2.2.2.2.2) (eS rs[k]).1=_:=Qr hc hs iE
   rw[e2,au,hw]
  ·have XO:(eS rs[k]).2=false:=by simpa using cR
   have e1:jb c (rs[k]::rs.drop (k+1)) s=none:=by
    show (if _ then _ else _)=_
    rw[if_neg cR]
   rw[e1]
   refine dm ?_
   show B3 rs (rs.length:Int) (k:Int) l.dk.left l.dk.fail l.dk.down l.dk.calls l.dk.kept c c.1 c.2.1 c.2.2.1 c.2.2.2.1 c.2.2.2.2.1 c.2.2.2.2.2.1 c.2.2.2.2.2.2.1 c.2.2.2.2.2.2.2.1 c.2.2.2.2.2.2.2.2 s.1 s.2.1 s.2.2.1 s.2.2.2.1 s.2.2.2.2.1 s.2.2.2.2.2.1 s.2.2.2.2.2.2 l.dk.wait l.rg l.tn l.nx l.br l.rc=_
   unfold B3
   rw[decide_eq_true (by omega),bz,aC ⟨by omega,by omega⟩]
   simp only[aW,Int.toNat_natCast,hg]
   rw[Lq oR,au]
   simp only[XO,Bool.not_false,bz]
   rfl
theorem Qz{c:bD}(hc:ja c){d:Dk}{N:Nat}(h:d.Ok N)(hN:N<=1000000000)(hst:∀ b t,d.bK.2.rc=b::t->t≠[]->0<b.length->(gj b).2=true->cF (gj b).1):
  iv c d.left d.fail d.down d.calls d.kept d.wait=some (if (nU c d).1=0 then .inl (nU c d).2.ll else .inr ((nU c d).2.l.dk.Ma (nU c d).1)):=by
 have bT:=(zE5 h).1
 have jd:=bT.n1
 have uz:=bT.rl
 unfold iv
 rw[zjT h hN,au]
 by_cases h0:d.bK.1=0
 ·have hO:nU c d=(match lP c d.bK.2.rc with | some s=>(0,⟨c,d.bK.2,s⟩) | none=>(1,⟨c,d.bK.2,fU⟩)):=by unfold nU;rw[if_neg (by simpa using h0)]
  rw[if_pos h0,dV,hO]
  simp only[aW,bne_self_eq_false,bn]
  have eW:=zE8 h0
  clear hO
  generalize d.bK.2=l at*
  rw[zE9 (by omega) (fun b hb=>by have:=(bT.rb b hb).2;omega),au]
  simp only
  cases kz:l.rc with
  | nil=>exact absurd kz eW
  | cons b t=>
   have oR:bN b:=(bT.rb b (by rw[kz];simp)).1
   have hlt:(b::t).length<=1000:=by rw[<-kz];omega
   have n5:cE 1 (((b::t).length:Nat):Int).toNat (b::t)=t:=by
    unfold cE
    simp
   have ht8:∀ c∈t,bN c:=fun c hc=>(bT.rb c (by rw[kz];simp[hc])).1
   have jo:t.length<=1000000:=by simp at hlt;omega
   have c1:(0:Int)<=0/\(0:Int)<((b::t).length:Int):=⟨by omega,by simp⟩
   have c2:(0:Int)<=1/\(1:Int)<=((b::t).length:Int)/\((b::t).length:Int)<=((b::t).length:Int):=⟨by omega,by rw[List.length_cons];omega,by omega⟩
   rw[aC c1]
   simp only[List.getD_cons_zero,n5]
   by_cases na:b.length>0
   ·rw[decide_eq_true (by omega),bz,aC c1,zkq oR,au]
    simp only
    by_cases cR:(gj b).2=true
    ·have hS:lP c (b::t)=jb c t (gj b).1:=by show (if _ then (if _ then _ else _) else _)=_;rw[if_pos na,if_pos cR]
     rw[hS]
     simp only[cR,Bool.not_true,bn]
     rw[aC c2]
     have hl:=zlD hc l t ht8 jo t.length 0 (gj b).1 (by omega) (fun hm=>hst b t kz (by intro hh;rw[hh] at hm;simp at hm) na cR)
     rw[kz] at hl
     simp only[List.drop_zero] at hl
     have qR:=hl
     rw[show ((0:Nat):Int)=0 from rfl] at qR
     rw[qR,au]
     cases jb c t (gj b).1 with
     | some s'=>
      rw[dV,if_pos rfl]
      simp only[XN,Dm.ll,kz]
     | none=>
      rw[Br,if_neg (by simp)]
    ·have XO:(gj b).2=false:=by simpa using cR
     have hS:lP c (b::t)=none:=by show (if _ then (if _ then _ else _) else _)=_;rw[if_pos na,if_neg cR]
     rw[hS]
     simp only[XO,Bool.not_false,bz]
     rw[if_neg (by simp)]
     rfl
   ·have hS:lP c (b::t)=jb c t fU:=by show (if _ then (if _ then _ else _) else _)=_;rw[if_neg na]
    rw[hS,decide_eq_false (by omega),bn,aC c2]
    have hl:=zlD hc l t ht8 jo t.length 0 fU (by omega) (fun _=>Qv)
    rw[kz] at hl
    simp only[List.drop_zero] at hl
    have qR:=hl
    rw[show ((0:Nat):Int)=0 from rfl] at qR
    have Ea:B4 (t,(t.length:Int),0,l.dk.left,l.dk.fail,l.dk.down,l.dk.calls,l.dk.kept,c,c.1,c.2.1,c.2.2.1,c.2.2.2.1,c.2.2.2.2.1,c.2.2.2.2.2.1,c.2.2.2.2.2.2.1,c.2.2.2.2.2.2.2.1,c.2.2.2.2.2.2.2.2,0,0,[],[],[],[],[],l.dk.wait,l.rg,l.tn,l.nx,l.br,b::t,())=_:=qR
    rw[Ea,au]
    cases jb c t fU with
    | some s'=>
     rw[dV,if_pos rfl]
     simp only[XN,Dm.ll,kz]
    | none=>
     rw[Br,if_neg (by simp)]
 ·have hO:nU c d=(d.bK.1,⟨c,d.bK.2,fU⟩):=by unfold nU;rw[if_pos h0]
  rw[if_neg h0,Br,hO,if_neg h0]
  simp only[aW,rS h0,bz]
  rfl
def fE(n:Nat):Dk:=⟨List.replicate n zS,[],-1,-1,false,0⟩
theorem XP{n:Nat}(h:n<=512):(fE n).Ok 0:=by
 refine⟨by show (-1:Int)<=-1;omega,by show (-1:Int)<=_;omega,by show (-1:Int)<=-1;omega,by show (-1:Int)<=_;omega,by show (0:Int)<=0;omega,by show (0:Int)<=_;omega,by show ((0:Nat):Int)<=0;omega,by show (List.replicate n zS).length<=512;simpa using h,?_,?_,?_⟩
 ·intro p hp;exact absurd hp (by simp[fE])
 ·intro s hs;rw[List.eq_of_mem_replicate hs];exact PG
 ·intro p hp;exact absurd hp (by simp[fE])
theorem zFd(n:Nat):(fE n).Quiet:=⟨rfl,rfl,rfl⟩
theorem zFe(n:Nat):(fE n).half=(n:Int) / 2:=by unfold Dk.half fE;simp
theorem GX(n:Nat)(h:n<=512):oB (n:Int)=some ([],-1,-1,false,0,List.replicate n zS,()):=by
 have e:(if (if (512:Int)<(n:Int) then (512:Int) else (n:Int))>(0:Int) then if (512:Int)<(n:Int) then (512:Int) else (n:Int) else (0:Int))=n:=by
  rw[if_neg (show ¬ (512:Int)<n by omega)]
  split<;>omega
 unfold oB
 rw[e,Int.toNat_natCast,aC]
 refine⟨by omega,by omega,by omega,?_⟩
 show n*64<=140737488355328
 omega
theorem zlF{n:Nat}(a:Int):(fE n).dC a=zS:=by
 show (List.replicate n zS).getD a.toNat zS=zS
 rw[List.getD_eq_getElem?_getD,List.getElem?_replicate]
 split<;>rfl
theorem zFf(n:Nat):(fE n).j8=⟨fE n,0,0,1,[],false⟩:=by
 have hst:∀ p r,(fE n).my p r=p:=by
  intro p r
  unfold Dk.my
  rw[Xa (fun _=>zlF _)]
  simp
 have hn:(fE n).fp=(0,0):=by unfold Dk.fp;rw[hst,hst]
 have hf:(fE n).found=(1,[]):=by unfold Dk.found;rw[hn,if_neg (by simp)]
 unfold Dk.j8
 rw[hn,hf]
structure nj(l:Lg)(N K:Nat):Prop where
 ok:l.Ok N
 q:l.dk.Quiet
 i:tp l.dk l.rg l.tn l.rc
 nx:l.nx=(gD l.tn l.rc).length
 br:l.br=false
 k:l.dk.kept.length=K
 wt:l.dk.wait=[]
 ne:l.rc≠[]
theorem XQ(os:List fO)(d:Dk)(h:(runs (os++[.f]) d).1=0):(runs (os++[.f]) d).2.wait=[]:=by
 rw[Lr] at h ⊢
 by_cases h1:(runs os d).1=0
 ·rw[if_pos h1,uy] at h ⊢
  have e:fO.run (runs os d).2 .f=(runs os d).2.ix:=rfl
  rw[e] at h ⊢
  by_cases h2:(runs os d).2.ix.1=0
  ·rw[if_pos h2]
   show (runs os d).2.ix.2.wait=[]
   unfold Dk.ix at h2 ⊢
   split at h2
   ·simp at h2
   split at h2
   ·rename_i h3 h4
    rw[if_neg h3,if_pos h4];rfl
   ·rename_i h3 h4
    exact absurd h2 h4
  ·rw[if_neg h2] at h;exact absurd h h2
 ·rw[if_neg h1] at h;exact absurd h h1
theorem zlG(fr kind id:Int)(b:List Int):∃ os,ij fr kind id b=os++[.f]:=⟨i7 fr b 0 ((b.length+63) / 64)++[.f,.w fr (jy kind id b)],by unfold ij;simp⟩
theorem zFg{l:Lg}{b:List Int}(h:(l.app b).1=0):(l.app b).2.dk.wait=[]:=by
 unfold Lg.app at h ⊢
 split at h
 ·simp at h
 split at h
 ·simp at h
 split at h
 ·simp at h
 rename_i g1 g2 g3
 rw[if_neg g1,if_neg g2,if_neg g3]
 split at h
 ·rename_i g4
  rw[if_pos g4]
  obtain⟨os,ho⟩:=zlG (l.rg*l.dk.half+l.nx) 2 l.rc.length b
  unfold Lg.kx at g4 ⊢
  rw[ho] at g4 ⊢
  exact XQ os _ g4
 ·rename_i g4;exact absurd h g4
theorem zlH{l:Lg}{b:List Int}(h:(l.dM b).1=0):(l.dM b).2.dk.wait=[]:=by
 unfold Lg.dM at h ⊢
 split at h
 ·simp at h
 split at h
 ·simp at h
 split at h
 ·simp at h
 rename_i g1 g2 g3
 rw[if_neg g1,if_neg g2,if_neg g3]
 split at h
 ·rename_i g4
  rw[if_pos g4]
  obtain⟨os,ho⟩:=zlG ((1-l.rg)*l.dk.half+0) 1 (l.tn+1) []
  unfold Lg.ky Lg.oK at g4 ⊢
  rw[ho,<-List.append_assoc,<-List.append_assoc] at g4 ⊢
  exact XQ _ _ g4
 ·rename_i g4;exact absurd h g4
theorem nj.app{l:Lg}{N K:Nat}(h:nj l N K){b:List Int}(hb:bN b)(gL:b.length<=16384)(hin:l.nx+sec b.length<=l.dk.half):
  (l.app b).1=0/\nj (l.app b).2 (N+1000) K/\(l.app b).2.rc=l.rc++[b]/\(l.app b).2.tn=l.tn/\(l.app b).2.nx=l.nx+sec b.length/\(l.app b).2.dk.calls>l.dk.calls:=by
 obtain⟨a1,a2,a3,a4,a5,a6,a7,a8,a9,QA,_⟩:=h.i.app h.ok h.q h.nx h.br hb gL hin
 have sy:((gD l.tn (l.rc++[b])).length:Int)=l.nx+sec b.length:=by rw[Xb,List.length_append,h.nx];have:=zL 2 (l.rc.length:Int) b;omega
 exact⟨a1,⟨(Qy h.ok hb).1,a2,by rw[a3,a4,a5];exact a8,by rw[a4,a5];exact a7,a6,by rw[a9];exact h.k,zFg a1,by rw[a5];simp⟩,a5,a4,by rw[a7,sy],QA⟩
theorem nj.dM{l:Lg}{N K:Nat}(h:nj l N K)(ht:l.tn+1<4294967296){b:List Int}(hb:bN b)(gL:b.length<=16384)(hin:1+sec b.length<=l.dk.half):
  (l.dM b).1=0/\nj (l.dM b).2 (N+4000) K/\(l.dM b).2.rc=[b]/\(l.dM b).2.tn=l.tn+1/\(l.dM b).2.nx=1+sec b.length/\(l.dM b).2.dk.calls>l.dk.calls:=by
 obtain⟨a1,a2,a3,a4,a5,a6,a7,a8,a9,QA,_⟩:=zj8 h.ok h.q ht (fun _ _=>by rw[h.i.zj3];show l.tn<l.tn+1;omega) h.br hb gL hin
 have hs:sec (([]:List Int).length:Int)=1:=by unfold sec;simp
 have sy:((gD (l.tn+1) [b]).length:Int)=1+sec b.length:=by
  unfold gD
  have e1:=zL 1 (l.tn+1) []
  have e2:=zL 2 ((0:Nat):Int) b
  rw[hs] at e1
  simp only[jR,List.append_nil,List.length_append]
  omega
 exact⟨a1,⟨(L9 h.ok hb).1,a2,by rw[a3,a4,a5];exact a8,by rw[a4,a5];exact a7,a6,by rw[a9];exact h.k,zlH a1,by rw[a5];simp⟩,a5,a4,by rw[a7,sy],QA⟩
theorem xT{n:Nat}(h1:8<=n)(h2:n<=512):(fE n).bK.1=0/\nj (fE n).bK.2 4000 n/\(fE n).bK.2.rc=[[]]/\(fE n).bK.2.tn=1/\(fE n).bK.2.nx=2:=by
 have hs:sec (([]:List Int).length:Int)=1:=by unfold sec;simp
 have hh:=zFe n
 have vc:=zFf n
 have ok0:=XP h2
 have bT:(fE n).bK=(fE n).j8.dM []:=by
  unfold Dk.bK
  rw[if_neg (by omega),if_neg (by simp[fE])]
  have:(fE n).found.2=[]:=by have:=congrArg Lg.rc vc;exact this
  rw[this,if_neg (by simp)]
 have lok:(fE n).j8.Ok 0:=by rw[vc];exact⟨ok0,by show (0:Int)<=0;omega,by show (0:Int)<=1;omega,by show (0:Int)<=1;omega,by show (1:Int)<=1000;omega,by show (0:Int)<=0;omega,by show (0:Int)<=_;omega,by show ((0:Nat):Int)<=1;omega,by intro b hb;exact absurd hb (by simp)⟩
 obtain⟨a1,a2,a3,a4,a5,a6,a7,a8,a9,QA,_⟩:=zj8 (l:=(fE n).j8) lok (zFd n) (by rw[vc];show (0:Int)+1<_;omega) (fun hx _=>by
  rw[show (fE n).j8.dk=fE n from rfl,Xa (fun _=>zlF _)] at hx;simp at hx) (by rw[vc]) CB (by simp) (by rw[hs];show 1+1<=(fE n).half;omega)
 rw[bT]
 have t0:(fE n).j8.tn=0:=by rw[vc]
 have e1:=zL 1 1 []
 have e2:=zL 2 ((0:Nat):Int) []
 rw[hs] at e1 e2
 have sy:((gD (0+1) [[]]).length:Int)=2:=by
  unfold gD
  simp only[jR,List.append_nil,List.length_append]
  show (((kA 1 1 []).length+_:Nat):Int)=2
  omega
 rw[t0] at a4 a7 a8
 exact⟨a1,⟨by have:=(L9 lok CB).1;simpa using this,a2,by rw[a3,a4,a5];exact a8,by rw[a4,a5];exact a7,a6,by rw[a9];show (List.replicate n zS).length=n;simp,zlH a1,by rw[a5];simp⟩,a5,a4,by rw[a7,sy]⟩
theorem nj.bK{l:Lg}{N K:Nat}(h:nj l N K)(hK:8<=K)(hN:N<=100000000000):l.dk.bK.1=0/\nj l.dk.bK.2 (N+1001) K/\l.dk.bK.2.rc=l.rc/\l.dk.bK.2.tn=l.tn/\l.dk.bK.2.nx=l.nx:=by
 have hh:l.dk.half=(l.dk.kept.length:Int) / 2:=rfl
 have hk:=h.k
 obtain⟨a1,a2,a3,a4,a5,a6,a7,a8,a9,_,_⟩:=h.i.bK h.ok.dk h.q (by omega) h.ne
 have hw:l.dk.bK.2.dk.wait=[]/\l.dk.bK.2.dk.Ok (N+1001):=by
  have hr:(l.dk.found.2.length:Int)>0:=by
   have hk1:=h.ok.dk.k1
   rw[(h.i.find (by omega)).2]
   have:=h.ne
   cases kz:l.rc with
   | nil=>exact absurd kz this
   | cons b t=>simp
  unfold Dk.bK at a1 ⊢
  rw[if_neg (by omega),h.q.down,if_neg (by simp),if_pos hr] at a1 ⊢
  refine⟨XQ _ _ a1,(h.ok.dk.runs _ (Ls _ _ _)).mono ?_⟩
  have XR:=PO h.ok.dk
  have:=Gk l.dk.half l.dk.fp.1 l.dk.found.1 (by have:=h.ok.dk.k1;omega)
  omega
 have ho:=h.ok
 have t1:=ho.t1
 refine⟨a1,⟨⟨hw.2,by rw[a3];exact ho.r0,by rw[a3];exact ho.r1,by rw[a7];omega,by rw[a7,<-h.nx];exact ho.n1,by rw[a4];exact ho.t0,by rw[a4];omega,by rw[a5,a7,<-h.nx];exact ho.rl,by rw[a5];exact ho.rb⟩,a2,by rw[a3,a4,a5];exact a8,by rw[a4,a5];exact a7,a6,by rw[a9];exact hk,hw.1,by rw[a5];exact h.ne⟩,a5,a4,by rw[a7,h.nx]⟩
structure im(x:Dm)(N K:Nat):Prop where
 l:nj x.l N K
 c:ja x.c
 s:cF x.s
 w:gf x.s
theorem QB{s:bj}(h:cF s):(fg s).length<=13844/\20<=(fg s).length:=by
 have l6:∀ m:cH,(nR m).length=6:=fun m=>rfl
 have a1:(s.2.2.1.flatMap gP).length<=s.2.2.1.length*19:=lj fun x hx=>by
  have:=h.hm x hx
  unfold rQ at this
  simp only[Bool.and_eq_true,decide_eq_true_eq] at this
  unfold gP
  simp only[List.length_append,cU,l6,List.length_singleton]
  have:(ofBytes x.2.1).length=x.2.1.length:=by simp[ofBytes]
  omega
 have a2:(s.2.2.2.1.flatMap kB).length<=s.2.2.2.1.length*15:=lj fun x hx=>by
  unfold kB
  simp only[List.length_append,cU,List.length_singleton]
  omega
 have a3:(s.2.2.2.2.1.flatMap kC).length<=s.2.2.2.2.1.length*126:=lj fun x hx=>by
  have:=(h.ks x hx).le
  have hh:(x.2.flatMap lh).length<=x.2.length*15:=lj fun y hy=>by
   unfold lh
   simp only[List.length_append,cU,l6,List.length_singleton]
   omega
  unfold kC
  simp only[List.length_append,cU,List.length_singleton]
  omega
 have a4:(s.2.2.2.2.2.1.flatMap kD).length<=s.2.2.2.2.2.1.length*15:=lj fun x hx=>by
  unfold kD
  simp only[List.length_append,cU,List.length_singleton]
  omega
 have a5:(s.2.2.2.2.2.2.flatMap mz).length<=s.2.2.2.2.2.2.length*21:=lj fun x hx=>by
  unfold mz
  simp only[List.length_append,cU,List.length_singleton]
  omega
 have b1:=h.hl
 have b2:=h.sw.len
 have b3:=h.kl
 have b4:=h.pr.le
 have b5:=h.cr.le
 unfold fg gC
 simp only[List.length_append,cU]
 omega
def Dc(e:Int):Prop:=e≠9/\e≠10/\e≠11
theorem zlJ(s t:bj)(a:Int)(x:aL):Dc (lN s t a x).2:=by
 unfold lN oO
 split
 ·exact⟨by simp,by simp,by simp⟩
 ·split
  ·exact⟨by simp,by simp,by simp⟩
  split
  ·exact⟨by simp,by simp,by simp⟩
  split
  ·exact⟨by simp,by simp,by simp⟩
  ·exact⟨by simp,by simp,by simp⟩
theorem Mb{α:Type}(s:bj){r:Int×α}(f:α->bj)(h:Dc r.1):Dc (jB s r f).2:=by
 unfold jB
 split
 ·exact⟨by simp,by simp,by simp⟩
 ·exact h
theorem zFi{c:bD}{s:bj}(hs:cF s){e:cw}(he:EvR e):Dc (du c s e).2.1:=by
 unfold du
 split
 ·exact⟨by simp,by simp,by simp⟩
 ·show Dc (pO s e).2
  unfold pO
  split
  ·refine Mb s _ ?_
   unfold xN
   split
   ·exact⟨by simp,by simp,by simp⟩
   split
   ·exact⟨by simp,by simp,by simp⟩
   split
   ·exact⟨by simp,by simp,by simp⟩
   ·exact⟨by simp,by simp,by simp⟩
  split
  ·unfold uH
   split
   ·exact⟨by simp,by simp,by simp⟩
   ·exact⟨by simp,by simp,by simp⟩
  split
  ·refine Mb s _ ?_
   unfold Ad
   rcases zkM hs.sw he.block s.1 with⟨h1,h2⟩ | ⟨_,l,h2,_⟩
   ·rw[h2]
    show Dc (GI s.2.2.2.1 e.2.2.1)
    unfold GI
    split
    ·exact⟨by simp,by simp,by simp⟩
    split
    ·exact⟨by simp,by simp,by simp⟩
    split
    ·exact⟨by simp,by simp,by simp⟩
    split
    ·exact⟨by simp,by simp,by simp⟩
    ·exact⟨by simp,by simp,by simp⟩
   ·rw[h2];exact⟨by simp,by simp,by simp⟩
  split
  ·refine Mb s _ ?_
   unfold Ae
   rcases zkS hs.sw e.2.2.1 with⟨_,h2⟩ | ⟨_,l,h2,_⟩
   ·rw[h2];exact⟨by simp,by simp,by simp⟩
   ·rw[h2];exact⟨by simp,by simp,by simp⟩
  split
  ·unfold tA
   split
   ·split
    ·exact⟨by simp,by simp,by simp⟩
    ·exact zlJ _ _ _ _
   ·exact zlJ _ _ _ _
  have nx:∀ f t now,Dc (iz s.2.2.2.2.2.2 e.2.1.1 f t now).1:=by
   intro f t now
   unfold iz
   split
   ·exact⟨by simp,by simp,by simp⟩
   split
   ·exact⟨by simp,by simp,by simp⟩
   ·exact⟨by simp,by simp,by simp⟩
  split
  ·exact Mb s _ (nx _ _ _)
  split
  ·exact Mb s _ (nx _ _ _)
  ·exact⟨by simp,by simp,by simp⟩
theorem zlK(os:List fO):∀ d:Dk,(runs os d).1≠11/\(runs os d).1≠4:=by
 have r1:∀ (o:fO) (d:Dk),(o.run d).1≠11/\(o.run d).1≠4:=by
  intro o d
  have he:d.err≠11/\d.err≠4:=by unfold Dk.err;split;exact⟨by decide,by decide⟩;split<;>exact⟨by decide,by decide⟩
  cases o with
  | w a s=>
   show (d.dT a s).1≠11/\(d.dT a s).1≠4
   unfold Dk.dT
   split;exact⟨by simp,by simp⟩
   split;exact⟨by simp,by simp⟩
   split;exact⟨by simp,by simp⟩
   exact he
  | f=>
   show d.ix.1≠11/\d.ix.1≠4
   unfold Dk.ix
   split;exact⟨by simp,by simp⟩
   split;exact⟨by simp,by simp⟩
   exact he
 induction os with
 | nil=>intro d;exact⟨by simp[runs],by simp[runs]⟩
 | cons o t ih=>
  intro d
  rw[uy]
  split
  ·exact ih _
  ·exact r1 o d
theorem zlL(l:Lg)(b:List Int)(h:l.br=false):(l.app b).1≠11/\((l.app b).1=10->(l.app b).2.br=true)/\((l.app b).1=0\/(l.app b).1=4->(l.app b).2.br=false):=by
 unfold Lg.app
 rw[h,if_neg (by simp)]
 split
 ·exact⟨by simp,by simp,by simp⟩
 split
 ·exact⟨by simp,by simp,fun _=>h⟩
 split
 ·exact⟨by simp,by simp,fun _=>rfl⟩
 ·rename_i h0
  have:=zlK (ij (l.rg*l.dk.half+l.nx) 2 l.rc.length b) l.dk
  refine⟨this.1,fun _=>rfl,fun hh=>?_⟩
  rcases hh with hh | hh
  ·exact absurd hh h0
  ·exact absurd hh this.2
theorem zlM(l:Lg)(b:List Int)(h:l.br=false):(l.dM b).1≠11/\((l.dM b).1=10->(l.dM b).2.br=true)/\((l.dM b).1=0->(l.dM b).2.br=false):=by
 unfold Lg.dM
 rw[h,if_neg (by simp)]
 split
 ·exact⟨by simp,by simp,by simp⟩
 split
 ·exact⟨by simp,by simp,by simp⟩
 split
 ·exact⟨by simp,by simp,fun _=>rfl⟩
 ·rename_i h0
  have:=zlK (l.oK b) l.dk
  exact⟨this.1,fun _=>rfl,fun hh=>absurd hh h0⟩
theorem Dd{x:Dm}(hs:cF x.s){e:cw}(he:EvR e):
  (x.l.br=true->(x.act e).2.1=11)/\(x.l.br=false->(x.act e).2.1≠11)/\((x.act e).2.1≠0->(x.act e).1=[])/\((x.act e).2.1=10->(x.act e).2.2.l.br=true)/\
  (x.act e).2.2.c=x.c/\(x.act e).2.2.s=(if (x.act e).2.1=0 then (du x.c x.s e).1 else x.s):=by
 have hd:=zFi (c:=x.c) hs he
 unfold Dm.act
 cases vP:x.l.br
 ·rw[if_neg (by simp)]
  have ha:=zlL x.l (cS e) vP
  split
  ·exact⟨by simp,by simp,by simp,by simp,by simp,by simp⟩
  split
  ·rename_i h3
   exact⟨by simp,fun _=>hd.2.2,by simp,fun h=>absurd h hd.2.1,by simp,by simp[h3]⟩
  split
  ·rename_i h4
   have hk:=zlM (x.l.app (cS e)).2 (fg x.s) (ha.2.2 (.inr h4))
   generalize hK:Dm.keep { x with l:=(x.l.app (cS e)).2 }=k
   have k1:k.1=((x.l.app (cS e)).2.dM (fg x.s)).1:=by rw[<-hK];rfl
   have k2:k.2.l=((x.l.app (cS e)).2.dM (fg x.s)).2:=by rw[<-hK];rfl
   have k3:k.2.c=x.c:=by rw[<-hK];rfl
   have k4:k.2.s=x.s:=by rw[<-hK];rfl
   rw[<-k1,<-k2] at hk
   simp only
   split
   ·rename_i h5
    have Mc:=zlL k.2.l (cS e) (hk.2.2 h5)
    split
    ·rename_i h6
     exact⟨by simp,fun _=>Mc.1,by simp,fun h=>Mc.2.1 h,k3,by simp[h6,k4]⟩
    ·exact⟨by simp,by simp,by simp,by simp,by simp,by simp⟩
   ·rename_i h5
    exact⟨by simp,fun _=>hk.1,by simp,fun h=>hk.2.1 h,k3,by simp[h5,k4]⟩
  split
  ·rename_i h6
   exact⟨by simp,fun _=>ha.1,by simp,fun h=>ha.2.1 h,by simp,by simp[h6]⟩
  ·exact⟨by simp,by simp,by simp,by simp,by simp,by simp⟩
 ·rw[if_pos rfl]
  exact⟨by simp,by simp,by simp,by simp,by simp,by simp⟩
theorem zFj{x:Dm}{N:Nat}(h:x.l.Ok N)(hs:cF x.s)(hw:gf x.s){e:cw}(hf:rR e):(x.act e).2.2.l.Ok (N+6000):=by
 have oR:bN (cS e):=GU hf
 have mo:∀ {M:Nat} {l:Lg},l.Ok M->M<=N+6000->l.Ok (N+6000):=fun h hm=>⟨h.dk.mono hm,h.r0,h.r1,h.n0,h.n1,h.t0,by have:=h.t1;omega,h.rl,h.rb⟩
 have ha:=(Qy h oR).1
 have hk:=(L9 ha (GF (hs.ok hw))).1
 have Mc:=(Qy hk oR).1
 unfold Dm.act
 split
 ·exact mo h (by omega)
 split
 ·exact mo h (by omega)
 split
 ·exact mo h (by omega)
 split
 ·simp only
  split
  ·split
   ·exact mo Mc (by omega)
   ·exact mo Mc (by omega)
  ·exact mo hk (by omega)
 split
 ·exact mo ha (by omega)
 ·exact mo ha (by omega)
theorem Md{x:Dm}{N K:Nat}(h:im x N K)(hK:512<=K)(ht:x.l.tn+1<4294967296){e:cw}(he:EvR e)(hf:rR e)(ho:e.2.1.2.1.length<=100)(hst:gf (du x.c x.s e).1):
  ((x.act e).2.1≠0/\(x.act e).2.2=x/\(x.act e).2.1=(if (eS (cS e)).2=false then 12 else (du x.c x.s e).2.1))\/
  ((x.act e).2.1=0/\(eS (cS e)).2=true/\(du x.c x.s e).2.1=0/\(x.act e).1=(du x.c x.s e).2.2/\im (x.act e).2.2 (N+6000) K/\(x.act e).2.2.l.dk.calls>x.l.dk.calls/\(x.act e).2.2.l.tn<=x.l.tn+1/\
   ((x.act e).2.2.l.rc=x.l.rc++[cS e]\/(x.act e).2.2.l.rc=[fg x.s]++[cS e])):=by
 have oR:bN (cS e):=GU hf
 have hsR:=Qq h.c h.s he
 have gL:(cS e).length<=150:=by
  have l6:∀ m:cH,(nR m).length=6:=fun m=>rfl
  unfold cS gP
  rw[List.length_append]
  split
  ·simp only[List.length_append,cU,l6,List.length_singleton,Cv];omega
  split
  ·simp only[List.length_append,cU,List.length_singleton];omega
  split
  ·simp only[List.length_append,cU,List.length_singleton,l6];omega
  split
  ·rw[cU];simp
  ·simp
 have xF:sec (cS e).length<=4:=by unfold sec;omega
 have QC:x.l.dk.half>=256:=by have:=h.l.k;unfold Dk.half;omega
 have hmo:∀ {M:Nat} {l:Lg},nj l M K->M<=N+6000->nj l (N+6000) K:=fun h hm=>⟨⟨h.ok.dk.mono hm,h.ok.r0,h.ok.r1,h.ok.n0,h.ok.n1,h.ok.t0,by have:=h.ok.t1;omega,h.ok.rl,h.ok.rb⟩,h.q,h.i,h.nx,h.br,h.k,h.wt,h.ne⟩
 unfold Dm.act
 rw[h.l.br,if_neg (by simp)]
 by_cases h2:(eS (cS e)).2=false
 ·rw[if_pos h2,if_pos h2]
  exact .inl ⟨by simp,rfl,rfl⟩
 ·rw[if_neg h2,if_neg h2]
  have gF:(eS (cS e)).2=true:=by simpa using h2
  by_cases h3:(du x.c x.s e).2.1≠0
  ·rw[if_pos h3]
   exact .inl ⟨h3,rfl,rfl⟩
  ·rw[if_neg h3]
   have jH:(du x.c x.s e).2.1=0:=by simpa using h3
   right
   by_cases zFk:x.l.nx+sec (cS e).length<=x.l.dk.half
   ·obtain⟨a1,a2,a3,a4,a5,a6⟩:=h.l.app oR (by omega) zFk
    rw[if_neg (by rw[a1];decide),if_neg (by simp[a1])]
    exact⟨rfl,gF,jH,rfl,⟨hmo a2 (by omega),h.c,hsR,hst⟩,a6,by show (x.l.app (cS e)).2.tn<=_;omega,.inl a3⟩
   ·have uA:x.l.app (cS e)=(4,x.l):=by
     unfold Lg.app
     rw[h.l.br,if_neg (by simp),if_neg (by omega),if_pos (by omega)]
    rw[uA,if_pos rfl]
    have n5:=QB h.s
    have DY:sec (fg x.s).length<=218:=by unfold sec;omega
    obtain⟨b1,b2,b3,b4,b5,b6⟩:=h.l.dM (b:=fg x.s) ht (GF (h.s.ok h.w)) (by omega) (by omega)
    have zFl:Dm.keep { x with l:=((4,x.l):Int×Lg).2 }=(0,{ x with l:=(x.l.dM (fg x.s)).2 }):=by
     unfold Dm.keep
     simp only
     rw[b1]
    have zGP:(x.l.dM (fg x.s)).2.dk.half>=256:=by have:=b2.k;unfold Dk.half;omega
    obtain⟨a1,a2,a3,a4,a5,a6⟩:=b2.app oR (by omega) (by omega)
    simp only[zFl,if_true]
    rw[if_neg (by simp[a1])]
    refine⟨rfl,gF,jH,rfl,⟨hmo a2 (by omega),h.c,hsR,hst⟩,by show ((x.l.dM (fg x.s)).2.app (cS e)).2.dk.calls>_;omega,by show ((x.l.dM (fg x.s)).2.app (cS e)).2.tn<=_;omega,.inr ?_⟩
    show ((x.l.dM (fg x.s)).2.app (cS e)).2.rc=_
    rw[a3,b3]
end Go.Tr
