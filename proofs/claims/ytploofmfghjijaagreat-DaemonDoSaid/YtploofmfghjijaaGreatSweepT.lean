/- A block that is put to those that are swept. What is put, and what a tick does: rows stay right. Rows behind some acts. Rows are right as the document says. The document's examples; rows that are turned. Conditions: none but those that each theorem states. -/
import Derived.Test.YtploofmfghjijaaGreatSweepS
import Derived.Test.YtploofmfghjijaaGreatAddrT
namespace Go.Tr
open Go
set_option linter.unusedVariables false
set_option linter.unusedSimpArgs false
set_option maxRecDepth 100000
set_option maxHeartbeats 4000000
theorem zDv{n:Int}(h:bo n)(hw:Wd n<=256):24<=n:=by
 obtain⟨j,hj,rfl,e⟩:=F9 h
 rw[e] at hw
 have hp:(2:Int) ^ j<=2 ^ 8:=hw
 have hj8:j<=8:=by
  have:(2:Nat) ^ j<=2 ^ 8:=by exact_mod_cast hp
  exact (Nat.pow_le_pow_iff_right (by omega)).1 this
 omega
theorem Qa{b:Int×Int}(h:cd b.1)(hr:rB b=true)(hs:fa b<=256):zW b:=by
 have h1:=xw hr
 have h2:=Pw h
 unfold fa at h2 hs
 rw[if_pos hr] at h2 hs
 have h3:=zDv h1.1 hs
 have h4:=Cu h1.1
 have h5:=h1.1
 unfold bo at h5
 exact⟨hr,h,⟨by omega,by omega⟩,⟨by omega,by omega⟩,h1.2,by omega⟩
def jz(x y:Int×Int):Bool:=pH x y||pH y x
theorem zkG(x y:Int×Int):jz x y=jz y x:=by unfold jz;rw[Bool.or_comm]
theorem zDw{x y:Int×Int}(hx:zW x)(hy:zW y):jz x y=true ↔ x.1<y.1+Wd y.2/\y.1<x.1+Wd x.2:=by
 unfold jz
 by_cases h:y.2<=x.2
 ·have n1:=(Xp hx hy h).2
  rw[Xq hx hy h]
  by_cases h2:x.2<=y.2
  ·have n2:=(Xp hy hx h2).2
   rw[Xq hy hx h2]
   simp only[Bool.or_eq_true,Bool.and_eq_true,decide_eq_true_eq]
   rw[n1,n2]
   constructor
   ·rintro (h | h)
    ·exact h
    ·exact⟨h.2,h.1⟩
   ·exact Or.inl
  ·rw[zkF (by omega),Bool.or_false]
   simp only[Bool.and_eq_true,decide_eq_true_eq]
   exact n1
 ·have h2:x.2<=y.2:=by omega
  have n2:=(Xp hy hx h2).2
  rw[zkF (by omega),Bool.false_or,Xq hy hx h2]
  simp only[Bool.and_eq_true,decide_eq_true_eq]
  rw[n2]
  exact And.comm
theorem zkH(l:List aH)(b:Int×Int)(hl:∀ s∈l,cd s.1.1)(Qb:cd b.1)(hn:l.length<=140737488355328):∀ (m k:Nat),k+m=l.length->
  Jx (l,b,(l.length:Int),(k:Int),())=some (rT (iO (fun y:aH=>jz y.1 b) (l.drop k) k))
 | 0,k,hk=>by
  unfold Jx
  rw[List.drop_of_length_le (by omega)]
  rw[dm (y:=.inl ())]
  ·rfl
  ·show Jw l b (l.length:Int) (k:Int)=_
   unfold Jw
   rw[decide_eq_false (by omega)];rfl
 | m+1,k,hk=>by
  have hkl:k<l.length:=by omega
  have ih:=zkH l b hl Qb hn m (k+1) (by omega)
  rw[List.drop_eq_getElem_cons hkl]
  unfold Jx at ih ⊢
  have hb:Jw l b (l.length:Int) (k:Int)=if (jz l[k].1 b)=true then some (.inr (.inr ((k:Int),()))) else some (.inl (l,b,(l.length:Int),((k+1:Nat):Int),())):=by
   unfold Jw
   rw[decide_eq_true (by omega),bz,aC (by omega)]
   simp only[aW,fi,fT]
   have:l.getD k c8=l[k]:=by rw[List.getD_eq_getElem?_getD,List.getElem?_eq_getElem hkl];rfl
   rw[this]
   unfold N6
   rw[zjm (hl _ (List.getElem_mem hkl)) Qb]
   simp only[aW,au,oi]
   rw[bA (by omega) (by omega)];rfl
  by_cases h:(jz l[k].1 b)=true
  ·rw[if_pos h] at hb
   rw[dm (y:=.inr ((k:Int),())) hb,CH (p:=fun y:aH=>jz y.1 b) h]
   unfold rT;rw[if_neg (by omega)]
  ·rw[if_neg h] at hb
   rw[iI (s':=(l,b,(l.length:Int),((k+1:Nat):Int),())) hb,ih,CI (p:=fun y:aH=>jz y.1 b) h]
theorem zDx(l:List aH)(b:Int×Int)(hl:∀ s∈l,cd s.1.1)(Qb:cd b.1)(hn:l.length<=140737488355328):Jy l b=some (l.any fun y=>jz y.1 b,()):=by
 unfold Jy N7
 have L:=zkH l b hl Qb hn l.length 0 (by omega)
 have L':Jx (l,b,(l.length:Int),0,())=_:=L
 rw[L',List.drop_zero]
 have hi:=PV (p:=fun y:aH=>jz y.1 b) (l:=l) (k:=0)
 rw[<-hi]
 generalize iO (fun y:aH=>jz y.1 b) l 0=v
 unfold rT
 by_cases h:v=-1
 ·subst h;rfl
 ·rw[if_neg h];rfl
def zX(s:aH):Prop:=cd s.1.1/\rB s.1=true/\fa s.1<=256/\(0<=s.2.1/\s.2.1<=1099511627776)/\(0<=s.2.2/\s.2.2<fa s.1)
def apart(x y:aH):Prop:=x.1.1<y.1.1/\jz x.1 y.1=false
structure ik(ss:List aH):Prop where
 len:ss.length<=16
 all:∀ s∈ss,zX s
 ap:ss.Pairwise apart
theorem Xr{s:aH}(h:zX s):xM s:=by
 obtain⟨h1,h2,h3,h4,h5,h6⟩:=h
 exact⟨h1,h5,by omega,h3⟩
theorem ik.due{ss:List aH}(h:ik ss):zT ss:=fun s hs=>by
 obtain⟨h1,h2,h3,h4,h5,h6⟩:=h.all s hs
 exact⟨h4.1,by omega⟩
def Xs(x y:aH):Bool:=decide (x.1.1<y.1.1)
theorem zDy{x y:aH}(hx:cd x.1.1)(hy:cd y.1.1):ql x y=some (x.1.1-y.1.1,()):=by
 unfold ql
 obtain⟨a1,a2⟩:=hx
 obtain⟨b1,b2⟩:=hy
 simp only[aW]
 rw[bA (n:=x.1.1) (by omega) (by omega),bA (n:=y.1.1) (by omega) (by omega),bA (by omega) (by omega)]
theorem LL{x y:aH}(hx:cd x.1.1)(hy:cd y.1.1):mQ ql x y=Xs x y:=by
 unfold mQ Xs
 rw[zDy hx hy]
 by_cases h:x.1.1<y.1.1
 ·rw[decide_eq_true h];exact decide_eq_true (by omega)
 ·rw[decide_eq_false h];exact decide_eq_false (by omega)
theorem zDz{ss:List aH}(h:ik ss)(hl:ss.length<16){n:aH}(hn:zX n)(ho:ss.any (fun y=>jz y.1 n.1)=false):
  ∃ l,Jz (ss++[n])=some (l,())/\l.Perm (ss++[n])/\ik l:=by
 have fV:∀ s∈ss,jz s.1 n.1=false:=fun s hs=>by
  have:=List.any_eq_false.1 ho s hs
  simpa using this
 have fA:∀ s∈ss++[n],zX s:=fun s hs=>by
  rcases List.mem_append.1 hs with h1 | h1
  ·exact h.all s h1
  ·have:s=n:=by simpa using h1
   rw[this];exact hn
 have iy:∀ s∈ss++[n],cd s.1.1:=fun s hs=>(fA s hs).1
 have CE:∀ x∈ss++[n],∀ y∈ss++[n],x.1.1=y.1.1->jz x.1 y.1=true:=fun x hx y hy he=>by
  have bx:=Qa (fA x hx).1 (fA x hx).2.1 (fA x hx).2.2.1
  have by':=Qa (fA y hy).1 (fA y hy).2.1 (fA y hy).2.2.1
  rw[zDw bx by']
  have:=bx.w.1
  have:=by'.w.1
  omega
 have mM:∀ x∈ss++[n],∀ y∈ss++[n],jz x.1 y.1=true->x=y:=fun x hx y hy ho=>by
  have key:∀ x∈ss,∀ y∈ss,jz x.1 y.1=true->x=y:=by
   intro x hx y hy ho
   obtain⟨i,hi,rfl⟩:=List.getElem_of_mem hx
   obtain⟨j,hj,rfl⟩:=List.getElem_of_mem hy
   have hp:=List.pairwise_iff_getElem.1 h.ap
   rcases Nat.lt_trichotomy i j with hlt | heq | DV
   ·have:=(hp i j hi hj hlt).2
    rw[this] at ho;simp at ho
   ·subst heq;rfl
   ·have:=(hp j i hj hi DV).2
    rw[zkG,this] at ho;simp at ho
  rcases List.mem_append.1 hx with h1 | h1<;>rcases List.mem_append.1 hy with h2 | h2
  ·exact key x h1 y h2 ho
  ·have:y=n:=by simpa using h2
   rw[this,fV x h1] at ho;simp at ho
  ·have:x=n:=by simpa using h1
   rw[this,zkG,fV y h2] at ho;simp at ho
  ·have e1:x=n:=by simpa using h1
   have e2:y=n:=by simpa using h2
   rw[e1,e2]
 unfold Jz SZ
 rw[aC]
 ·refine⟨_,rfl,List.mergeSort_perm _ _,?_⟩
  have zV:=List.mergeSort_perm (ss++[n]) (fun x y=>!mQ ql y x)
  refine⟨by rw[List.length_mergeSort];simp;omega,fun s hs=>fA s (zV.mem_iff.1 hs),?_⟩
  have hs:((ss++[n]).mergeSort (fun x y=>!mQ ql y x)).Pairwise (fun x y=>x.1.1<=y.1.1):=by
   have e:(ss++[n]).mergeSort (fun x y=>!mQ ql y x)=(ss++[n]).mergeSort (fun x y=>decide (x.1.1<=y.1.1)):=by
    have hm:=List.map_mergeSort (r:=fun x y=>!mQ ql y x) (s:=fun x y:aH=>decide (x.1.1<=y.1.1)) (f:=id) (l:=ss++[n]) (fun a ha b hb=>by
     rw[LL (iy b hb) (iy a ha)]
     unfold Xs
     by_cases h:b.1.1<a.1.1
     ·rw[decide_eq_true h];exact (decide_eq_false (by simp;omega)).symm
     ·rw[decide_eq_false h];exact (decide_eq_true (by simp;omega)).symm)
    simpa using hm
   rw[e]
   have:=List.pairwise_mergeSort (le:=fun x y:aH=>decide (x.1.1<=y.1.1)) (fun a b c h1 h2=>by
    have:=of_decide_eq_true h1
    have:=of_decide_eq_true h2
    exact decide_eq_true (by omega)) (fun a b=>by
    by_cases h:a.1.1<=b.1.1
    ·simp[h]
    ·simp[h];omega) (ss++[n])
   exact this.imp fun h=>of_decide_eq_true h
  have R9:((ss++[n]).mergeSort (fun x y=>!mQ ql y x)).Nodup:=by
   rw[zV.nodup_iff]
   refine List.nodup_append.2 ⟨h.ap.imp fun js he=>?_,by simp,fun a ha b hb he=>?_⟩
   ·rw[he] at js;exact Int.lt_irrefl _ js.1
   ·have:b=n:=by simpa using hb
    rw[he,this] at ha
    have:=fV n ha
    rw[CE n (by simp) n (by simp) rfl] at this
    simp at this
  rw[List.pairwise_iff_getElem] at hs ⊢
  intro i j hi hj nM
  have hle:=hs i j hi hj nM
  have eW:((ss++[n]).mergeSort (fun x y=>!mQ ql y x))[i]≠((ss++[n]).mergeSort (fun x y=>!mQ ql y x))[j]:=by
   intro he
   have:=(List.getElem_inj R9).1 he
   omega
  have mi:=zV.mem_iff.1 (List.getElem_mem hi)
  have mj:=zV.mem_iff.1 (List.getElem_mem hj)
  have Hy:jz (((ss++[n]).mergeSort (fun x y=>!mQ ql y x))[i]).1 (((ss++[n]).mergeSort (fun x y=>!mQ ql y x))[j]).1=false:=by
   rw[<-Bool.not_eq_true]
   exact fun h=>eW (mM _ mi _ mj h)
  refine⟨?_,Hy⟩
  rcases Int.lt_or_eq_of_le hle with h | h
  ·exact h
  ·rw[CE _ mi _ mj h] at Hy;simp at Hy
 ·refine⟨by simp,by simp;omega,fun x hx=>?_,fun x hx y hy z hz h1 h2=>?_,fun x hx y hy z hz h1 h2=>?_,fun x hx y hy h1 h2=>?_⟩
  ·rw[LL (iy x hx) (iy x hx)];exact decide_eq_false (by omega)
  ·rw[LL (iy _ ‹_›) (iy _ ‹_›)] at*
   exact decide_eq_true (by have:=of_decide_eq_true h1;have:=of_decide_eq_true h2;omega)
  ·rw[LL (iy _ ‹_›) (iy _ ‹_›)] at*
   exact decide_eq_false (by have:=of_decide_eq_false h1;have:=of_decide_eq_false h2;omega)
  ·rw[LL (iy _ ‹_›) (iy _ ‹_›)] at*
   refine mM x hx y hy (CE x hx y hy ?_)
   have:=of_decide_eq_false h1
   have:=of_decide_eq_false h2
   omega
def GI(ss:List aH)(b:Int×Int):Int:=if rB b=false then 12 else if fa b>256 then 3 else if ss.any (fun y=>jz y.1 b)=true then 5 else if ss.length>=16 then 4 else 0
def Qc(b:Int×Int)(now:Int):aH:=(b,fD now,0)
theorem zDA{b:Int×Int}(iy:cd b.1)(hr:rB b=true)(hs:fa b<=256)(now:Int):zX (Qc b now):=by
 refine⟨iy,hr,hs,CS now,Int.le_refl 0,?_⟩
 show 0<fa b
 have:=(Qa iy hr hs).w.1
 unfold fa
 rw[if_pos hr];omega
theorem zkM{ss:List aH}(h:ik ss){b:Int×Int}(iy:cd b.1)(now:Int):
  (GI ss b≠0/\yW ss b now=some (GI ss b,[],()))\/
  (GI ss b=0/\∃ l,yW ss b now=some (0,l,())/\l.Perm (ss++[Qc b now])/\ik l/\zX (Qc b now)/\ss.any (fun y=>jz y.1 b)=false/\ss.length<16):=by
 have hl:=h.len
 unfold yW GI
 rw[Gb iy,Gc iy,zDx ss b (fun s hs=>(h.all s hs).1) iy (by omega)]
 simp only[au]
 cases hr:rB b with
 | false=>left;simp
 | true=>
  simp only[Bool.not_true,bn,Bool.true_eq_false,if_false]
  by_cases hs:fa b>256
  ·left;rw[decide_eq_true hs,bz,if_pos hs];simp
  ·rw[decide_eq_false hs,bn,if_neg hs]
   cases ho:ss.any (fun y=>jz y.1 b) with
   | true=>left;simp
   | false=>
    simp only[bn,Bool.false_eq_true,if_false]
    by_cases ub:ss.length>=16
    ·left;rw[decide_eq_true (by omega),bz,if_pos ub];simp
    ·right
     rw[decide_eq_false (by omega),bn,if_neg ub]
     have hn:=zDA iy hr (by omega) now
     obtain⟨l,l1,l2,l3⟩:=zDz h (by omega) hn ho
     refine⟨by simp,l,?_,l2,l3,hn,by simp,by omega⟩
     unfold yV clone
     rw[aC (by omega),oL]
     simp only[au]
     rw[aC (by show _*_<=_;simp;omega)]
     have e:(b,fD now,(0:Int))=Qc b now:=rfl
     rw[e,l1]
     simp
theorem zDB{every:Int}{s:aH}{room:Int}{asks:List Int}(h:zX s):zX (CT every s (lK room s asks))/\(CT every s (lK room s asks)).1=s.1:=by
 have hn:=P8 (room:=room) (asks:=asks) (Xr h)
 obtain⟨h1,h2,h3,h4,h5,h6⟩:=h
 unfold CT
 split
 ·exact⟨⟨h1,h2,h3,CS _,Int.le_refl 0,by show 0<fa s.1;omega⟩,rfl⟩
 ·exact⟨⟨h1,h2,h3,h4,by show 0<=s.2.2+(lK room s asks:Int);omega,by show s.2.2+(lK room s asks:Int)<fa s.1;omega⟩,rfl⟩
theorem zkN{room every:Int}{p:List aH×List Int}{k:Int}(h:ik p.1)(hk:gK p.1 k):ik (gE room every p k).1/\(gE room every p k).1.map (·.1)=p.1.map (·.1):=by
 have hkl:k.toNat<p.1.length:=by have:=hk.1;have:=hk.2;omega
 have hg:p.1.getD k.toNat c8=p.1[k.toNat]:=by rw[List.getD_eq_getElem?_getD,List.getElem?_eq_getElem hkl];rfl
 have GH:p.1.getD k.toNat c8∈p.1:=by rw[hg];exact List.getElem_mem hkl
 have hn:=zDB (every:=every) (room:=room) (asks:=p.2) (h.all _ GH)
 have hm:(gE room every p k).1.map (·.1)=p.1.map (·.1):=by
  unfold gE
  simp only[List.map_set]
  rw[hn.2,hg]
  have:(p.1.map (·.1))[k.toNat]'(by simpa using hkl)=p.1[k.toNat].1:=by simp
  rw[<-this,List.set_getElem_self]
 refine⟨⟨by rw[P9];exact h.len,zkz h.all hn.1,?_⟩,hm⟩
 have hp:(p.1.map (·.1)).Pairwise (fun x y:Int×Int=>x.1<y.1/\jz x y=false):=List.pairwise_map.2 h.ap
 rw[<-hm] at hp
 exact (List.pairwise_map (f:=fun s:aH=>s.1) (R:=fun x y:Int×Int=>x.1<y.1/\jz x y=false)).1 hp
theorem zkO{room every:Int}:∀ (D:List Int) (p:List aH×List Int),ik p.1->(∀ k∈D,gK p.1 k)->
  ik (D.foldl (gE room every) p).1/\(D.foldl (gE room every) p).1.map (·.1)=p.1.map (·.1)
 | [],p,h,_=>⟨h,rfl⟩
 | k::D,p,h,hk=>by
  have h1:=zkN (room:=room) (every:=every) h (hk k (by simp))
  have h2:=zkO (room:=room) (every:=every) D (gE room every p k) h1.1 (fun j hj=>by
   have:=hk j (by simp[hj])
   unfold gK at this ⊢
   rw[P9];exact this)
  exact⟨h2.1,h2.2.trans h1.2⟩
theorem zDC:ik []:=⟨by simp,by simp,by simp⟩
theorem zDD{l:List aH}(h:ik l):Gr l=true:=by
 unfold Gr
 have hlen:=h.len
 rw[decide_eq_true h.len,Bool.and_true,List.all_eq_true]
 intro i hi
 have dD:i<l.length:=by
  have:=List.mem_range'_1.1 hi
  omega
 have h1:∀ s∈l,vQ s=true:=fun s hs=>by
  obtain⟨a1,a2,a3,a4,a5,a6⟩:=h.all s hs
  unfold vQ
  have hc:s.2.1=fD s.2.1:=by unfold fD;split<;>(try split)<;>omega
  simp only[Bool.and_eq_true,decide_eq_true_eq]
  exact⟨a2,a3,hc,a5,a6⟩
 unfold CK
 have hg:l.getD i c8=l[i]:=by rw[List.getD_eq_getElem?_getD,List.getElem?_eq_getElem dD];rfl
 rw[hg,h1 _ (List.getElem_mem dD),Bool.true_and]
 by_cases h0:i=0
 ·simp[h0]
 ·have Xt:l.getD (i-1) c8=l[i-1]:=by rw[List.getD_eq_getElem?_getD,List.getElem?_eq_getElem (by omega)];rfl
  have:=List.pairwise_iff_getElem.1 h.ap (i-1) i (by omega) dD (by omega)
  rw[Xt,decide_eq_false h0,Bool.false_or]
  unfold Lz
  have e:(pH l[i-1].1 l[i].1||pH l[i].1 l[i-1].1)=false:=this.2
  rw[e,decide_eq_true this.1];rfl
theorem ik.cd{l:List aH}(h:ik l):∀ s∈l,Go.Tr.cd s.1.1:=fun s hs=>(h.all s hs).1
end Go.Tr
