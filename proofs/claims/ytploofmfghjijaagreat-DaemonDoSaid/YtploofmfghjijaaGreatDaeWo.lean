/- What guards say of the arguments. Conditions: none. -/
import Derived.Test.YtploofmfghjijaaGreatDaeKd
import Derived.Test.YtploofmfghjijaaGreatTrW
import Derived.Test.YtploofmfghjijaaGreatScriptS
import Derived.Test.YtploofmfghjijaaGreatAddrW
import Derived.Test.YtploofmfghjijaaGreatCodecS
import Derived.Test.YtploofmfghjijaaGreatOpsKc
namespace Go.Tr
open Go
set_option linter.unusedVariables false
set_option linter.unusedSimpArgs false
set_option maxRecDepth 100000
set_option maxHeartbeats 1000000
theorem zFF{h:aX}(ha:cd h.1)(ho:h.2.1.length<=140737488351232)(b:List Int)(hb:b.length<=100):xc h b=some (b++gP h,()):=by
 unfold xc gP
 rw[zF ha b (by omega)]
 simp only[au,aW]
 have l4:=cU h.1 4
 have lo:=Cv h.2.1
 rw[aC (by simp only[kj,List.length_append,List.length_cons,List.length_nil,l4];omega),aC (by simp only[kj,List.length_append,List.length_cons,List.length_nil,l4,lo];omega),aC (by decide),
  aC (by simp only[kj,List.length_append,List.length_cons,List.length_nil,l4,lo];omega),od]
 simp[nR]
theorem zFG{e:cw}(ga:cd e.2.1.1)(gb:cd e.2.2.1.1)(ho:e.2.1.2.1.length<=140737488351232):sN e=some (cS e,()):=by
 unfold sN cS
 have l4:=cU e.2.1.1 4
 have s1:∀ c:Int,([c]:List Int).length<=80000000000000:=fun c=>by simp
 rw[aW,od,zFF ga ho [e.1 % 256] (by simp),WL gb [e.1 % 256] (s1 _),zF ga [e.1 % 256] (by have:=s1 (e.1 % 256);omega)]
 simp only[au,aW,oi,beq_iff_eq]
 rw[aC (by simp only[kj,List.length_append,List.length_cons,List.length_nil,l4];omega),aC (by decide),aC (by simp only[kj,List.length_append,List.length_cons,List.length_nil,l4];omega),od]
 by_cases e1:e.1=1
 ·simp[e1]
 by_cases e3:e.1=3
 ·simp[e3]
 by_cases e4:e.1=4
 ·simp[e4]
 by_cases e5:e.1=5
 ·simp[e5,nR]
 by_cases e2:e.1=2
 ·simp[e2]
 by_cases e6:e.1=6
 ·simp[e6]
 by_cases e7:e.1=7
 ·simp[e7]
 simp[e1,e2,e3,e4,e5,e6,e7]
theorem Mh(e:cw):0<(cS e).length:=by
 unfold cS
 rw[List.length_append]
 simp only[List.length_singleton]
 omega
theorem zlX{c:bD}(hc:ja c){l:Lg}{N K:Nat}(h:nj l N K)(hK:8<=K)(hN:N<=100000000)(hst:∀ b t,l.rc=b::t->t≠[]->0<b.length->(gj b).2=true->cF (gj b).1):
  iv c l.dk.left l.dk.fail l.dk.down l.dk.calls l.dk.kept l.dk.wait=some (match lP c l.rc with
   | some s=>.inl (Dm.ll ⟨c,l.dk.bK.2,s⟩)
   | none=>.inr (l.dk.bK.2.dk.Ma 1)):=by
 obtain⟨b1,b2,b3,b4,b5⟩:=h.bK hK (by omega)
 rw[Qz hc h.ok.dk (by omega) (by rw[b3];exact hst)]
 have ho:nU c l.dk=match lP c l.rc with
   | some s=>(0,⟨c,l.dk.bK.2,s⟩)
   | none=>(1,⟨c,l.dk.bK.2,fU⟩):=by
  unfold nU
  rw[if_neg (fun h=>h b1),b3]
  cases lP c l.rc<;>rfl
 rw[ho]
 cases lP c l.rc with
 | none=>rfl
 | some s=>rfl
theorem daemonForm_law{b:List Int}(h8:bN b){e:cw}(first:Bool)(ga:cd e.2.1.1)(gb:cd e.2.2.1.1)(ho:e.2.1.2.1.length<=140737488351232)(gL:b.length<=140737488351232):
  Ve b e first=some (true,()):=by
 unfold Ve
 rw[Mf,au]
 simp only[Bool.not_true,bn]
 have nZ:(if (300:Int)<(b.length:Int) then (300:Int) else (b.length:Int))=((min 300 b.length:Nat):Int):=by split<;>omega
 simp only[nZ]
 rw[aC ⟨by omega,by omega,by omega⟩]
 have e0:oB (120:Int)=_:=GX 120 (by omega)
 rw[e0,au]
 simp only
 have kL:(cE 0 ((min 300 b.length:Nat):Int).toNat b).length<=300:=by
  unfold cE
  rw[List.length_take]
  omega
 have Df:bN (cE 0 ((min 300 b.length:Nat):Int).toNat b):=fun c hc=>h8 c (List.mem_of_mem_drop (List.mem_of_mem_take hc))
 generalize cE 0 ((min 300 b.length:Nat):Int).toNat b=v at kL Df ⊢
 have eo:=zjT (XP (n:=120) (by omega)) (by omega)
 obtain⟨o1,o2,o3,o4,o5⟩:=xT (n:=120) (by omega) (by omega)
 rw[o1,if_pos rfl] at eo
 generalize (fE 120).bK.2=L at*
 have eo':B1 (-1) (-1) false 0 (List.replicate 120 (List.replicate 64 0)) []=_:=eo
 rw[eo',au,dV]
 simp only[aW,cc,dI,bne_self_eq_false,Bool.or_false,bn]
 have QC:L.dk.half=60:=by have:=o2.k;unfold Dk.half;omega
 have xF:sec v.length<=6:=by unfold sec;omega
 have ev:=zFG ga gb ho
 have jD:decide ((cS e).length>0)=true:=by simpa using Mh e
 have zGR:decide (((cS e).length:Int)>0)=true:=by have:=Mh e;simp;omega
 cases first with
 | true=>
  simp only[bz]
  rw[WU o2.ok (by omega) Df (by omega),au,zkq Df,au]
  obtain⟨b1,b2,b3,b4,b5,b6⟩:=o2.dM (b:=v) (by omega) Df (by omega) (by omega)
  simp only[Lg.out,b1,bne_self_eq_false,bn]
  generalize (L.dM v).2=L2 at*
  have fo:=zlX (c:=jC) C7 b2 (by omega) (by omega) (by rw[b3];intro b t hb ht;simp at hb;exact absurd hb.2.symm (fun hh=>ht hh.symm))
  have X2:iv ((2,3,1,5,2,2,0,4,4):bD) L2.dk.left L2.dk.fail L2.dk.down L2.dk.calls L2.dk.kept L2.dk.wait=_:=fo
  rw[X2,au,b3]
  have vN:lP jC [v]=if v.length>0 then (if (gj v).2=true then some (gj v).1 else none) else some fU:=rfl
  rw[vN]
  by_cases yH:v.length>0
  ·have na:((v.length:Int)==0)=false:=by rw[beq_eq_false_iff_ne];omega
   rw[if_pos yH,na]
   by_cases hr:(gj v).2=true
   ·rw[if_pos hr,dV,hr]
    simp[Dm.ll,ev,fW,au,jD,Mh e]
   ·have AW:(gj v).2=false:=by simpa using hr
    rw[if_neg hr,Br,AW]
    simp[Dk.Ma]
  ·have na:((v.length:Int)==0)=true:=by rw[beq_iff_eq];omega
   rw[if_neg yH,na,dV]
   simp[Dm.ll,ev,fW,au,jD,Mh e]
 | false=>
  simp only[bn]
  rw[WT o2.ok (by omega) Df (by omega),au,Lq Df,au]
  obtain⟨b1,b2,b3,b4,b5,b6⟩:=o2.app Df (by omega) (by omega)
  simp only[Lg.out,b1,bne_self_eq_false,bn]
  generalize (L.app v).2=L2 at*
  rw[o3] at b3
  have fo:=zlX (c:=jC) C7 b2 (by omega) (by omega) (by rw[b3];intro b t hb ht hl;simp at hb;obtain⟨hh,_⟩:=hb;subst hh;simp at hl)
  have X2:iv ((2,3,1,5,2,2,0,4,4):bD) L2.dk.left L2.dk.fail L2.dk.down L2.dk.calls L2.dk.kept L2.dk.wait=_:=fo
  rw[X2,au,b3]
  have vN:lP jC ([[]]++[v])=if (eS v).2=true then some (du jC fU (eS v).1).1 else none:=rfl
  rw[vN]
  by_cases hr:(eS v).2=true
  ·rw[if_pos hr,dV,hr]
   simp[Dm.ll,ev,fW,au,jD,Mh e]
  ·have AW:(eS v).2=false:=by simpa using hr
   rw[if_neg hr,Br,AW]
   simp[Dk.Ma]
end Go.Tr
namespace Go.Tr
open Go
theorem G0{M:Nat}{a:Int}(h:jK M (.int .u8) a):ig a:=by
 have h1:(0:Int)<=a:=h.1
 have h2:a<=255:=h.2
 exact⟨h1,by omega⟩
theorem m6_wf{M:Nat}{m:M6}(h:jK M (.pair (.int .u8) (.pair (.int .u8) (.pair (.int .u8) (.pair (.int .u8) (.pair (.int .u8) (.int .u8)))))) m):iZ m:=
 ⟨G0 h.1,G0 h.2.1,G0 h.2.2.1,G0 h.2.2.2.1,G0 h.2.2.2.2.1,G0 h.2.2.2.2.2⟩
end Go.Tr
namespace Go.Tr
open Go
theorem i64_wf{M:Nat}{a:Int}(h:jK M (.int .i64) a):-9223372036854775808<=a/\a<=9223372036854775807:=⟨h.1,h.2⟩
end Go.Tr
namespace Go.Tr
open Go
theorem zFI{M:Nat}{a:Int}(h:jK M (.int .u8) a):ig a:=by
 have h1:(0:Int)<=a:=h.1
 have h2:a<=255:=h.2
 exact⟨h1,by omega⟩
theorem bys_wf{M:Nat}{b:List Int}(h:jK M (.sl (.int .u8)) b):bN b:=by
 intro c hc
 obtain⟨i,hi,rfl⟩:=List.mem_iff_getElem.1 hc
 exact zFI (h.2 i hi)
theorem bys_len{M:Nat}{b:List Int}(h:jK M (.sl (.int .u8)) b):b.length<=M:=by
 have:=h.1
 have e:(Sh.int IntKind.u8).nb=1:=rfl
 rw[e] at this
 omega
end Go.Tr
