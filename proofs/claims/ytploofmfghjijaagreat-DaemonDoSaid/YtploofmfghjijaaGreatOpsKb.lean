/- States that are right, and what keeps them so. What a tick does, step by step. What events do. What the program says of events. Conditions: none but those that each theorem states. -/
import Derived.Test.YtploofmfghjijaaGreatOpsKa
import Derived.Test.YtploofmfghjijaaGreatSweepZ
namespace Go.Tr
open Go
set_option linter.unusedVariables false
set_option linter.unusedSimpArgs false
set_option maxRecDepth 100000
set_option maxHeartbeats 4000000
structure tw(now:Int)(ss:List aL):Prop where
 ne:0<ss.length
 le:ss.length<=8
 ok:∀ t∈ss,(0<=t.1/\t.1<4)/\0<=t.2.2/\t.2.2<=now
 so:ss.Pairwise fun x y=>x.2.2<=y.2.2
def CY(p:aM):Prop:=cd p.1/\p.2.1=p.1 % 65536/\(0<=p.2.2.1/\p.2.2.1<=65535)/\(0<=p.2.2.2.1/\p.2.2.2.1<=1099511627776)/\(0<=p.2.2.2.2/\p.2.2.2.2<=8)
structure oP(ps:List aM):Prop where
 le:ps.length<=16
 ok:∀ p∈ps,CY p
 one:ps.Pairwise fun x y=>x.1≠y.1
def Qm(now:Int)(c:cD):Prop:=(0<=c.2.2.2/\c.2.2.2<=5)/\(0<=c.2.1/\c.2.1<=now)/\(eN c=true->c.2.2.1=0)/\(eN c=false->c.2.1<=c.2.2.1/\c.2.2.1<=now)
structure gx(now:Int)(cs:List cD):Prop where
 le:cs.length<=16
 ok:∀ c∈cs,Qm now c
 one:cs.Pairwise fun x y=>eN x=true->eN y=true->x.1≠y.1
structure cF(s:bj):Prop where
 now:0<=s.1/\s.1<=1099511627776
 seq:0<=s.2.1/\s.2.1<=65535
 hr:gh kH s.2.2.1
 hl:s.2.2.1.length<=48
 hm:∀ h∈s.2.2.1,rQ h.2.1=true
 sw:ik s.2.2.2.1
 kr:gh kK s.2.2.2.2.1
 kl:s.2.2.2.2.1.length<=96
 ks:∀ k∈s.2.2.2.2.1,tw s.1 k.2
 pr:oP s.2.2.2.2.2.1
 cr:gx s.1 s.2.2.2.2.2.2
theorem cF.XD{s:bj}(h:cF s):∀ k∈s.2.2.2.2.1,k.2.length<=1000000:=fun k hk=>by have:=(h.ks k hk).le;omega
theorem gx.find{now:Int}{cs:List cD}(h:gx now cs){i:Nat}(hi:i<cs.length)(ho:eN cs[i]=true):dU cs cs[i].1=(i:Int):=by
 have zkc:(cs.any fun c=>c.1==cs[i].1&&eN c)=true:=List.any_eq_true.2 ⟨_,List.getElem_mem hi,by simp[ho]⟩
 unfold dU
 obtain⟨j,hj,h1,h2,_⟩:=LN (p:=fun c:cD=>c.1==cs[i].1&&eN c) (l:=cs) (k:=0) (CJ.2 zkc)
 rw[h1,Nat.zero_add]
 simp only[Bool.and_eq_true,beq_iff_eq] at h2
 rcases Nat.lt_trichotomy i j with hlt | rfl | DV
 ·exact absurd h2.1.symm (List.pairwise_iff_getElem.1 h.one i j hi hj hlt ho h2.2)
 ·rfl
 ·exact absurd h2.1 (List.pairwise_iff_getElem.1 h.one j i hj hi DV h2.2 ho)
theorem gx.zO{now:Int}{cs:List cD}(h:gx now cs)(hn:now<=1099511627776):zO cs=true:=by
 unfold Go.Tr.zO
 rw[Bool.and_eq_true,List.all_eq_true,decide_eq_true_eq]
 refine⟨fun i hi=>?_,h.le⟩
 have dD:i<cs.length:=by simp at hi;exact hi
 unfold CL Gs
 have hg:cs.getD i (0,0,0,0)=cs[i]:=fq _ _ _ dD
 rw[hg]
 obtain⟨⟨a1,a2⟩,⟨b1,b2⟩,c1,d1⟩:=h.ok _ (List.getElem_mem dD)
 simp only[Bool.and_eq_true,decide_eq_true_eq]
 refine⟨a1,a2,(CW (by omega) (by omega)).symm,?_,?_⟩
 ·cases ho:eN cs[i] with
  | true=>rw[c1 ho];rfl
  | false=>have:=d1 ho;exact (CW (by omega) (by omega)).symm
 ·cases ho:eN cs[i] with
  | true=>simp[c1 ho,h.find dD ho]
  | false=>simp[(d1 ho).1]
theorem gx.XE{now LW:Int}{cs:List cD}(h:gx now cs)(hn:now<=LW):gx LW cs:=by
 refine⟨h.le,fun c hc=>?_,h.one⟩
 obtain⟨a1,b1,c1,d1⟩:=h.ok c hc
 exact⟨a1,by omega,c1,fun ho=>by have:=d1 ho;omega⟩
theorem zk5{α β:Type}{R:α->α->Prop}{S:β->β->Prop}{f:α->β}(hf:∀ x y,R x y->S (f x) (f y)):∀ {l:List α},l.Pairwise R->(l.map f).Pairwise S
 | [],_=>List.Pairwise.nil
 | x::l,h=>by
  rw[List.pairwise_cons] at h
  rw[List.map_cons,List.pairwise_cons]
  refine⟨fun y hy=>?_,zk5 hf h.2⟩
  obtain⟨z,hz,rfl⟩:=List.mem_map.1 hy
  exact hf _ _ (h.1 z hz)
theorem zk6{f:bD}{now:Int}{c:cD}(h:eN (j9 f now c)=true):eN c=true/\j9 f now c=c:=by
 unfold j9 at h ⊢
 split at h
 ·simp[eN] at h
 ·rename_i hc;rw[if_neg hc];exact⟨h,rfl⟩
theorem XF(f:bD)(now:Int)(c:cD):(j9 f now c).1=c.1:=by unfold j9;split<;>rfl
theorem gx.tick{now:Int}{cs:List cD}(h:gx now cs)(f:bD)(hn:0<=now/\now<=1099511627776):gx now (cs.map (j9 f now)):=by
 refine⟨by rw[List.length_map];exact h.le,fun c hc=>?_,?_⟩
 ·obtain⟨x,hx,rfl⟩:=List.mem_map.1 hc
  obtain⟨a1,b1,c1,d1⟩:=h.ok x hx
  unfold j9
  split
  ·rename_i hs
   refine⟨by simp,b1,fun ho=>by simp[eN] at ho,fun _=>?_⟩
   show x.2.1<=fD now/\fD now<=now
   rw[CW hn.1 hn.2];omega
  ·exact⟨a1,b1,c1,d1⟩
 ·refine zk5 (fun x y js h1 h2=>?_) h.one
  rw[XF,XF]
  exact js (zk6 h1).1 (zk6 h2).1
theorem gx.set{now:Int}{cs:List cD}(h:gx now cs){k:Nat}(hk:k<cs.length){c:cD}(hc:Qm now c)(ha:c.1=cs[k].1)(ho:eN c=true->eN cs[k]=true):gx now (cs.set k c):=by
 refine⟨by rw[List.length_set];exact h.le,fun x hx=>?_,?_⟩
 ·rcases List.mem_or_eq_of_mem_set hx with hx | rfl
  ·exact h.ok x hx
  ·exact hc
 ·rw[List.pairwise_iff_getElem]
  intro i j hi hj nM
  rw[List.length_set] at hi hj
  have hp:=List.pairwise_iff_getElem.1 h.one i j hi hj nM
  rw[List.getElem_set,List.getElem_set]
  split
  ·rename_i e
   subst e
   rw[if_neg (by omega)]
   intro h1 h2
   rw[ha]
   exact hp (ho h1) h2
  ·split
   ·rename_i e
    subst e
    intro h1 h2
    rw[ha]
    exact hp h1 (ho h2)
   ·exact hp
theorem zEd{now:Int}{c:cD}(h:Qm now c)(ho:eN c=true){e8:Int}(ht:1<=e8/\e8<=5)(hn:0<=now/\now<=1099511627776):Qm now (uE c e8 now):=by
 obtain⟨a1,b1,c1,d1⟩:=h
 unfold uE
 by_cases h1:e8=1
 ·subst h1
  rw[if_pos (.inr rfl)]
  exact⟨by simp,b1,fun _=>c1 ho,fun h=>by simp[eN] at h⟩
 ·rw[if_neg (by omega)]
  refine⟨⟨by show 0<=e8;omega,ht.2⟩,b1,fun h=>?_,fun _=>?_⟩
  ·unfold eN at h
   simp only[Bool.or_eq_true,beq_iff_eq] at h
   omega
  ·show c.2.1<=fD now/\fD now<=now
   rw[CW hn.1 hn.2];omega
theorem gx.next{now:Int}{cs:List cD}(h:gx now cs)(hn:0<=now/\now<=1099511627776){a:Int}(hf:¬ dU cs a<0){e8:Int}(ht:1<=e8/\e8<=5):
  gx now (cs.set (dU cs a).toNat (uE (cs.getD (dU cs a).toNat ff) e8 now)):=by
 obtain⟨h1,h2,h3,h4⟩:=LU hf
 rw[fq _ _ _ h1] at h3 h4 ⊢
 exact h.set h1 (zEd (h.ok _ (List.getElem_mem h1)) h4 ht hn) rfl fun _=>h4
theorem gx.nil{now:Int}:gx now []:=⟨by simp,by simp,List.Pairwise.nil⟩
theorem gx.iz{now:Int}{cs:List cD}(h:gx now cs)(hn:0<=now/\now<=1099511627776)(a:Int){ov e8:Int}(ht:1<=e8/\e8<=5):gx now (iz cs a ov e8 now).2:=by
 unfold Go.Tr.iz
 split
 ·exact .nil
 ·rename_i hf
  split
  ·exact h.next hn hf ht
  ·exact .nil
theorem gx.cancel{now:Int}{cs:List cD}(h:gx now cs)(hn:0<=now/\now<=1099511627776)(a:Int):gx now (oN cs a now).2:=by
 unfold oN
 split
 ·exact .nil
 ·rename_i hf
  exact h.next hn hf (by omega)
theorem zk7{cs:List cD}{a:Int}(h:¬ 0<=dU cs a):∀ c∈cs,eN c=true->c.1≠a:=by
 intro c hc ho he
 apply h
 unfold dU
 exact CJ.2 (List.any_eq_true.2 ⟨c,hc,by simp[ho,he]⟩)
theorem gx.app{now:Int}{cs:List cD}(h:gx now cs)(hn:0<=now/\now<=1099511627776){a:Int}(ha:∀ c∈cs,eN c=true->c.1≠a)(hl:cs.length<16):gx now (cs++[CX a now]):=by
 refine⟨by simp;omega,fun c hc=>?_,?_⟩
 ·rcases List.mem_append.1 hc with hc | hc
  ·exact h.ok c hc
  ·have:c=CX a now:=by simpa using hc
   subst this
   unfold CX
   rw[CW hn.1 hn.2]
   exact⟨by simp,⟨hn.1,Int.le_refl _⟩,fun _=>rfl,fun h=>by simp[eN] at h⟩
 ·rw[List.pairwise_append]
  refine⟨h.one,by simp,fun x hx y hy ho _=>?_⟩
  have:y=CX a now:=by simpa using hy
  subst this
  exact ha x hx ho
theorem gx.raise{now:Int}{cs:List cD}(h:gx now cs)(hn:0<=now/\now<=1099511627776)(f:bD)(a:Int):gx now (tu f cs a now).2:=by
 unfold tu
 have hle:=h.le
 split
 ·exact .nil
 ·rename_i hf
  split
  ·exact .nil
  ·split
   ·rename_i ub
    split
    ·exact .nil
    ·rename_i hs
     have n5:=Qk f cs now cs.length
     have nY:=Qe cs (gd f cs now cs.length).toNat
     have hlen:(cs.take (gd f cs now cs.length).toNat++cs.drop ((gd f cs now cs.length).toNat+1)).length+1=cs.length:=by simp;omega
     exact gx.app ⟨by omega,fun c hc=>h.ok c (nY.mem hc),h.one.sublist nY⟩ hn (fun c hc=>zk7 hf c (nY.mem hc)) (by omega)
   ·exact gx.app h hn (zk7 hf) (by omega)
theorem zk8{ps:List aM}:(ps.Pairwise fun x y=>x.1≠y.1) ↔ (ps.map (·.1)).Pairwise (·≠·):=by rw[List.pairwise_map]
theorem zk9{c:bD}(hc:ja c){now room:Int}:∀ (ps:List aM) (q:List aM×List aM),(∀ p∈ps,CY p)->(∀ p∈q.1,CY p)->
  (∀ p∈(ps.foldl (pL c now room) q).1,CY p)/\(((ps.foldl (pL c now room) q).1.map (·.1)).Sublist (q.1.map (·.1)++ps.map (·.1)))/\((q.2.length:Int)<=max 0 room->((ps.foldl (pL c now room) q).2.length:Int)<=max 0 room)
 | [],q,_,hq=>⟨hq,by simp,fun h=>h⟩
 | p::ps,q,hp,hq=>by
  have h1:∀ x∈(pL c now room q p).1,CY x:=by
   obtain⟨a1,a2,a3,a4,a5⟩:=hp p (by simp)
   unfold pL
   split
   ·intro x hx
    rcases List.mem_append.1 hx with hx | hx
    ·exact hq x hx
    ·have:x=p:=by simpa using hx
     subst this;exact hp _ (by simp)
   ·split
    ·exact hq
    ·rename_i tI
     split
     ·intro x hx
      rcases List.mem_append.1 hx with hx | hx
      ·exact hq x hx
      ·have:x=(p.1,p.2.1,p.2.2.1,fD now,p.2.2.2.2+1):=by simpa using hx
       subst this
       have:=hc.again
       exact⟨a1,a2,a3,CS now,by show 0<=p.2.2.2.2+1/\p.2.2.2.2+1<=8;omega⟩
     ·intro x hx
      rcases List.mem_append.1 hx with hx | hx
      ·exact hq x hx
      ·have:x=p:=by simpa using hx
       subst this;exact hp _ (by simp)
  obtain⟨g1,g2,g3⟩:=zk9 hc (now:=now) (room:=room) ps (pL c now room q p) (fun x hx=>hp x (by simp[hx])) h1
  refine⟨g1,g2.trans ?_,fun h=>g3 ?_⟩
  ·have:((pL c now room q p).1.map (·.1)).Sublist (q.1.map (·.1)++[p.1]):=by
    unfold pL
    split
    ·simp
    ·split
     ·simp
     ·split<;>simp
   have h2:=List.Sublist.append this (List.Sublist.refl (ps.map (·.1)))
   simpa using h2
  ·unfold pL
   split
   ·exact h
   ·split
    ·exact h
    ·split
     ·simp only[List.length_append,List.length_singleton];omega
     ·exact h
theorem oP.late{c:bD}(hc:ja c){ps:List aM}(h:oP ps)(now room:Int):oP (lL c ps now room).1/\((lL c ps now room).2.length:Int)<=max 0 room:=by
 obtain⟨g1,g2,g3⟩:=zk9 hc (now:=now) (room:=room) ps ([],[]) h.ok (by simp)
 simp only[List.map_nil,List.nil_append] at g2
 refine⟨⟨?_,g1,zk8.2 ((zk8.1 h.one).sublist g2)⟩,g3 (by simp;omega)⟩
 have:=g2.length_le
 simp only[List.length_map] at this
 exact Nat.le_trans this h.le
theorem zEe{a seq:Int}(ha:cd a)(now:Int):CY (vW a seq now):=by
 unfold vW
 exact⟨ha,rfl,by show 0<=seq % 65536/\seq % 65536<=65535;omega,CS now,by simp⟩
theorem oP.put{ps:List aM}(h:oP ps){p:aM}(hp:CY p)(h0:(uG ps p).1=0):oP (uG ps p).2:=by
 unfold uG at h0 ⊢
 split at h0
 ·simp at h0
 ·rename_i ha
  split at h0
  ·simp at h0
  ·rename_i hl
   rw[if_neg ha,if_neg hl]
   refine⟨by simp;omega,fun x hx=>?_,?_⟩
   ·rcases List.mem_append.1 hx with hx | hx
    ·exact h.ok x hx
    ·have:x=p:=by simpa using hx
     subst this;exact hp
   ·rw[List.pairwise_append]
    refine⟨h.one,by simp,fun x hx y hy=>?_⟩
    have:y=p:=by simpa using hy
    subst this
    have:=List.any_eq_false.1 (Bool.eq_false_iff.2 ha) x hx
    simpa using this
theorem oP.sub{l m:List aM}(h:oP l)(hs:m.Sublist l):oP m:=⟨Nat.le_trans hs.length_le h.le,fun p hp=>h.ok p (hs.mem hp),h.one.sublist hs⟩
theorem oP.ans{ps l:List aM}{a:Int}(h:oP ps)(ha:GL ps a=some l):oP l:=by
 unfold GL at ha
 split at ha
 ·simp only[Option.some.injEq] at ha
  subst ha
  exact h.sub (Qe _ _)
 ·simp at ha
theorem oP.zN{ps:List aM}(h:oP ps):zN ps=true:=by
 unfold Go.Tr.zN
 rw[Bool.and_eq_true,List.all_eq_true,decide_eq_true_eq]
 refine⟨fun i hi=>?_,h.le⟩
 have dD:i<ps.length:=by simp at hi;exact hi
 unfold CG
 have hg:ps.getD i (0,0,0,0,0)=ps[i]:=fq _ _ _ dD
 simp only[hg]
 obtain⟨a1,a2,a3,a4,a5⟩:=h.ok _ (List.getElem_mem dD)
 simp only[Bool.and_eq_true,decide_eq_true_eq,Bool.not_eq_true']
 refine⟨⟨a2,a3,(CW a4.1 a4.2).symm,a5⟩,?_⟩
 rw[List.any_eq_false]
 intro x hx
 obtain⟨j,hj,rfl⟩:=List.getElem_of_mem hx
 rw[List.length_take] at hj
 rw[List.getElem_take]
 have:=List.pairwise_iff_getElem.1 h.one j i (by omega) dD (by omega)
 simpa using this
theorem gh.sub{α:Type}{key:α->Int}{l m:List α}(h:gh key l)(hs:m.Sublist l):gh key m:=List.Pairwise.sublist hs h
theorem gh.nil{α:Type}{key:α->Int}:gh key ([]:List α):=List.Pairwise.nil
theorem gh.ins{α:Type}{key:α->Int}{l:List α}(h:gh key l){x:α}(hx:gw key l (key x)=false):gh key (zZ key l x):=by
 have fV:∀ y∈l,key y≠key x:=fun y hy e=>by
  have:=List.any_eq_false.1 hx y hy
  simp[e] at this
 unfold zZ gh
 have vt:∀ y∈l.take (cY key l (key x)),key y<key x:=fun y hy=>by
  obtain⟨j,hj,rfl⟩:=List.getElem_of_mem hy
  rw[List.length_take] at hj
  rw[List.getElem_take]
  exact CU (by omega) _
 have zlb:∀ y∈l.drop (cY key l (key x)),key x<key y:=fun y hy=>by
  obtain⟨j,hj,rfl⟩:=List.getElem_of_mem hy
  rw[List.length_drop] at hj
  rw[List.getElem_drop]
  have h1:=h.ge (a:=key x) (i:=cY key l (key x)+j) (by omega) (by omega)
  have h2:=fV _ (List.getElem_mem (show cY key l (key x)+j<l.length by omega))
  omega
 rw[List.append_assoc,List.pairwise_append]
 refine⟨List.Pairwise.sublist (List.take_sublist _ _) h,?_,fun y hy z hz=>?_⟩
 ·rw[List.singleton_append,List.pairwise_cons]
  exact⟨zlb,List.Pairwise.sublist (List.drop_sublist _ _) h⟩
 ·rcases List.mem_append.1 hz with hz | hz
  ·have:z=x:=by simpa using hz
   subst this;exact vt y hy
  ·have:=vt y hy
   have:=zlb z hz
   omega
theorem Qn{α:Type}{key:α->Int}{l:List α}{x y:α}(h:y∈zZ key l x):y∈l\/y=x:=by
 unfold zZ at h
 rcases List.mem_append.1 h with h | h
 ·rcases List.mem_append.1 h with h | h
  ·exact .inl (List.take_subset _ _ h)
  ·exact .inr (by simpa using h)
 ·exact .inl (List.drop_subset _ _ h)
theorem zlc{α:Type}{key:α->Int}{l:List α}{x:α}:(zZ key l x).length=l.length+1:=by
 have:=uD key l (key x)
 unfold zZ;simp;omega
theorem cF.zM{s:bj}(h:cF s):zM s.2.2.1=true:=by
 unfold Go.Tr.zM
 rw[Bool.and_eq_true,List.all_eq_true,decide_eq_true_eq]
 refine⟨fun i hi=>?_,h.hl⟩
 have dD:i<s.2.2.1.length:=by simp at hi;exact hi
 unfold CF
 rw[fq _ _ _ dD,h.hm _ (List.getElem_mem dD),Bool.true_and,Bool.or_eq_true,decide_eq_true_eq,decide_eq_true_eq]
 by_cases h0:i=0
 ·exact .inl h0
 ·refine .inr ?_
  rw[fq _ _ _ (show i-1<_ by omega)]
  exact h.hr.lt (i:=i-1) (j:=i) (by omega) dD
theorem tw.zP{now:Int}{ss:List aL}(h:tw now ss):zP ss=true:=by
 unfold Go.Tr.zP
 rw[List.all_eq_true]
 intro j hj
 have ly:j<ss.length:=by simp at hj;exact hj
 unfold Gt
 rw[fq _ _ _ ly]
 obtain⟨a1,a2,a3⟩:=h.ok _ (List.getElem_mem ly)
 simp only[Bool.and_eq_true,decide_eq_true_eq,Bool.or_eq_true]
 refine⟨a1.1,a1.2,a2,?_⟩
 by_cases h0:j=0
 ·exact .inl h0
 ·refine .inr ?_
  rw[fq _ _ _ (show j-1<_ by omega)]
  exact List.pairwise_iff_getElem.1 h.so (j-1) j (by omega) ly (by omega)
theorem cF.zQ{s:bj}(h:cF s):zQ s.2.2.2.2.1=true:=by
 unfold Go.Tr.zQ
 rw[Bool.and_eq_true,List.all_eq_true,decide_eq_true_eq]
 refine⟨fun i hi=>?_,h.kl⟩
 have dD:i<s.2.2.2.2.1.length:=by simp at hi;exact hi
 unfold CM
 rw[fq _ _ _ dD]
 have hk:=h.ks _ (List.getElem_mem dD)
 simp only[Bool.and_eq_true,decide_eq_true_eq,Bool.or_eq_true]
 refine⟨?_,by have:=hk.ne;omega,hk.le,hk.zP⟩
 by_cases h0:i=0
 ·exact .inl h0
 ·refine .inr ?_
  rw[fq _ _ _ (show i-1<_ by omega)]
  exact h.kr.lt (i:=i-1) (j:=i) (by omega) dD
theorem cF.qA{s:bj}(h:cF s):qA s=true:=by
 unfold Go.Tr.qA
 simp only[Bool.and_eq_true,decide_eq_true_eq]
 exact⟨h.now.1,h.now.2,h.seq.1,h.seq.2,h.zM,zDD h.sw,h.zQ,h.pr.zN,h.cr.zO h.now.2⟩
theorem tw.XE{now LW:Int}{ss:List aL}(h:tw now ss)(hn:now<=LW):tw LW ss:=⟨h.ne,h.le,fun t ht=>by have:=h.ok t ht;omega,h.so⟩
theorem tw.last{now:Int}{ss:List aL}(h:tw now ss):(0<=vV ss/\vV ss<=now)/\∀ t∈ss,t.2.2<=vV ss:=by
 have eW:=h.ne
 have hl:ss.length-1<ss.length:=by omega
 unfold vV
 rw[fq _ _ _ hl]
 refine⟨(h.ok _ (List.getElem_mem hl)).2,fun t ht=>?_⟩
 obtain⟨j,hj,rfl⟩:=List.getElem_of_mem ht
 by_cases e:j=ss.length-1
 ·simp only[e];exact Int.le_refl _
 ·exact List.pairwise_iff_getElem.1 h.so j (ss.length-1) hj hl (by omega)
theorem tw.keep{now:Int}{ss:List aL}(h:tw now ss){s:aL}(hs:0<=s.1/\s.1<4)(ha:s.2.2=now):tw now (xO ss s):=by
 have hl:=h.last
 have nY:(xO ss s).Sublist (ss++[s]):=List.drop_sublist _ _
 have hlen:(xO ss s).length=min (ss.length+1) 8:=by unfold xO;simp;omega
 refine⟨by have:=h.ne;omega,by omega,fun t ht=>?_,List.Pairwise.sublist nY ?_⟩
 ·rcases List.mem_append.1 (nY.mem ht) with ht | ht
  ·exact h.ok t ht
  ·have:t=s:=by simpa using ht
   subst this
   have:=h.last.1
   omega
 ·rw[List.pairwise_append]
  refine⟨h.so,by simp,fun x hx y hy=>?_⟩
  have:y=s:=by simpa using hy
  subst this
  have:=hl.2 x hx
  have:=hl.1
  omega
theorem zld{room every:Int}:∀ (D:List Int) (p:List aH×List Int),ik p.1->(∀ k∈D,gK p.1 k)->(∀ a∈p.2,cd a)->∀ a∈(D.foldl (gE room every) p).2,cd a
 | [],p,_,_,h=>h
 | k::D,p,h,hk,hp=>by
  refine zld D (gE room every p k) (zkN h (hk k (by simp))).1 (fun j hj=>by
   have:=hk j (by simp[hj])
   unfold gK at this ⊢
   rw[P9];exact this) fun a ha=>?_
  have hkl:k.toNat<p.1.length:=by have:=hk k (by simp);unfold gK at this;omega
  have hsw:=h.all _ (List.getElem_mem hkl)
  have hn:=P8 (room:=room) (asks:=p.2) (Xr hsw)
  unfold gE at ha
  rw[fq _ _ _ hkl] at ha
  rcases List.mem_append.1 ha with ha | ha
  ·exact hp a ha
  ·unfold xL at ha
   obtain⟨i,hi,rfl⟩:=List.mem_map.1 ha
   obtain⟨g1,g2,g3,g4,g5⟩:=hsw
   have hb:=Qa g1 g2 g3
   have ht:=hb.t
   have hz:fa p.1[k.toNat].1=Wd p.1[k.toNat].1.2:=by unfold fa;rw[if_pos g2]
   rw[List.mem_range] at hi
   have ia:=hn.2
   rw[hz] at ia
   unfold cd at g1 ⊢
   have hii:(i:Int)<(lK room p.1[k.toNat] p.2:Int):=by omega
   omega
abbrev ka:Type:=Bool×Int×Int×cH×Int×Int
def ni(c:bD)(s:bj)(a:Int):Int:=GN c (LQ s.2.2.1 a) (vU s.2.2.2.2.1 a) s.1
theorem zEf{l:List ep}(hs:∀ x∈l,x.2.length<=1000000)(a:Int):(vU l a).length<=1000000:=by
 unfold vU
 split
 ·rw[List.getD_eq_getElem?_getD]
  cases hh:l[cY kK l a]? with
  | none=>simp
  | some x=>exact hs x (List.mem_of_getElem? hh)
 ·simp
structure Qo(s:bj):Prop where
 hr:gh kH s.2.2.1
 hl:s.2.2.1.length<=1000000
 kr:gh kK s.2.2.2.2.1
 kl:s.2.2.2.2.1.length<=1000000
 ks:∀ k∈s.2.2.2.2.1,k.2.length<=1000000
theorem cF.dC{s:bj}(h:cF s):Qo s:=⟨h.hr,by have:=h.hl;omega,h.kr,by have:=h.kl;omega,h.XD⟩
theorem CZ{c:bD}(hc:ja c){s:bj}(h:Qo s)(a:Int):rv c s a=some (ni c s a,()):=by
 unfold rv ni
 rw[zkW h.hr h.hl,au]
 have hl:=zEf h.ks a
 unfold LQ
 cases gw kH s.2.2.1 a with
 | true=>
  simp only[bz,if_true,zk0 h.kr h.kl h.ks,au,Option.getD_some]
  rw[zEb c hc _ _ _ hl];rfl
 | false=>
  simp only[bn,Bool.false_eq_true,if_false,zk0 h.kr h.kl h.ks,au]
  rw[zEc c hc _ _ hl];rfl
theorem zEg{c:bD}{s:bj}{a:Int}(h:ni c s a=3):gw kH s.2.2.1 a=true:=by
 unfold ni LQ at h
 cases hk:gw kH s.2.2.1 a with
 | true=>rfl
 | false=>
  rw[hk] at h
  unfold GN at h
  simp only[Bool.false_eq_true,if_false] at h
  split at h
  ·simp at h
  ·split at h<;>simp at h
def C0(c:bD)(s:bj)(k:cD):bj:=
 if k.2.2.2=1 then (if ni c s k.1=3 then z7 (z6 s (CV s.2.2.1 k.1)) (iz s.2.2.2.2.2.2 k.1 1 5 s.1).2 else z7 s (oN s.2.2.2.2.2.2 k.1 s.1).2) else s
def C1(c:bD)(s:bj):bj:=s.2.2.2.2.2.2.foldl (C0 c) s
structure Aa(cs:List cD)(s:bj)(k:Nat):Prop where
 st:cF s
 len:s.2.2.2.2.2.2.length=cs.length
 same:∀ j,k<=j->s.2.2.2.2.2.2[j]? =cs[j]?
theorem cF.cases{s:bj}(h:cF s){x:List cD}(hx:gx s.1 x):cF (z7 s x):=⟨h.now,h.seq,h.hr,h.hl,h.hm,h.sw,h.kr,h.kl,h.ks,h.pr,hx⟩
theorem cF.LX{s:bj}(h:cF s){x:List aX}(h1:gh kH x)(h2:x.length<=48)(h3:∀ y∈x,rQ y.2.1=true):cF (z6 s x):=⟨h.now,h.seq,h1,h2,h3,h.sw,h.kr,h.kl,h.ks,h.pr,h.cr⟩
theorem cF.Qp{s:bj}(h:cF s){x:List aH}(hx:ik x):cF (LV s x):=⟨h.now,h.seq,h.hr,h.hl,h.hm,hx,h.kr,h.kl,h.ks,h.pr,h.cr⟩
theorem cF.known{s:bj}(h:cF s){x:List ep}(h1:gh kK x)(h2:x.length<=96)(h3:∀ k∈x,tw s.1 k.2):cF (GM s x):=⟨h.now,h.seq,h.hr,h.hl,h.hm,h.sw,h1,h2,h3,h.pr,h.cr⟩
theorem cF.LY{s:bj}(h:cF s){x:List aM}(hx:oP x):cF (tv s x):=⟨h.now,h.seq,h.hr,h.hl,h.hm,h.sw,h.kr,h.kl,h.ks,hx,h.cr⟩
theorem LZ{l:List aX}(a:Int):(CV l a).Sublist l:=Qe l _
theorem cF.take{s:bj}(h:cF s)(a:Int):cF (z6 s (CV s.2.2.1 a)):=
 h.LX (h.hr.sub (LZ a)) (Nat.le_trans (LZ a).length_le h.hl) fun y hy=>h.hm y ((LZ a).mem hy)
theorem Aa.find{cs:List cD}{s:bj}{k:Nat}(h:Aa cs s k)(hk:k<cs.length)(ho:eN cs[k]=true):dU s.2.2.2.2.2.2 cs[k].1=(k:Int):=by
 have fB:k<s.2.2.2.2.2.2.length:=by rw[h.len];exact hk
 have hs:=h.same k (Nat.le_refl _)
 rw[List.getElem?_eq_getElem fB,List.getElem?_eq_getElem hk,Option.some.injEq] at hs
 rw[<-hs] at ho ⊢
 exact h.st.cr.find fB ho
theorem Aa.next{c:bD}{cs:List cD}{s:bj}{k:Nat}(h:Aa cs s k)(hk:k<cs.length):Aa cs (C0 c s cs[k]) (k+1):=by
 unfold C0
 split
 ·rename_i h1
  have ho:eN cs[k]=true:=by unfold eN;rw[h1];rfl
  have hf:=h.find hk ho
  have hnn:¬ dU s.2.2.2.2.2.2 cs[k].1<0:=by omega
  have hU:∀ e8,(s.2.2.2.2.2.2.set (dU s.2.2.2.2.2.2 cs[k].1).toNat (uE (s.2.2.2.2.2.2.getD (dU s.2.2.2.2.2.2 cs[k].1).toNat ff) e8 s.1)).length=cs.length/\∀ j,k+1<=j->(s.2.2.2.2.2.2.set (dU s.2.2.2.2.2.2 cs[k].1).toNat (uE (s.2.2.2.2.2.2.getD (dU s.2.2.2.2.2.2 cs[k].1).toNat ff) e8 s.1))[j]? =cs[j]? :=by
   intro e8
   refine⟨by rw[List.length_set];exact h.len,fun j hj=>?_⟩
   rw[hf,Int.toNat_natCast,List.getElem?_set_ne (by omega)]
   exact h.same j (by omega)
  split
  ·have hst:(s.2.2.2.2.2.2.getD (dU s.2.2.2.2.2.2 cs[k].1).toNat ff).2.2.2=1:=by
    have fB:k<s.2.2.2.2.2.2.length:=by rw[h.len];exact hk
    have hs:=h.same k (Nat.le_refl _)
    rw[List.getElem?_eq_getElem fB,List.getElem?_eq_getElem hk,Option.some.injEq] at hs
    rw[hf,Int.toNat_natCast,fq _ _ _ fB,hs];exact h1
   have e:(iz s.2.2.2.2.2.2 cs[k].1 1 5 s.1).2=s.2.2.2.2.2.2.set (dU s.2.2.2.2.2.2 cs[k].1).toNat (uE (s.2.2.2.2.2.2.getD (dU s.2.2.2.2.2.2 cs[k].1).toNat ff) 5 s.1):=by
    unfold iz;rw[if_neg hnn,if_pos hst]
   refine⟨(h.st.take _).cases (h.st.cr.iz h.st.now _ (by omega)),?_,?_⟩
   ·show (iz s.2.2.2.2.2.2 cs[k].1 1 5 s.1).2.length=_
    rw[e];exact (hU 5).1
   ·intro j hj
    show (iz s.2.2.2.2.2.2 cs[k].1 1 5 s.1).2[j]? =_
    rw[e];exact (hU 5).2 j hj
  ·have e:(oN s.2.2.2.2.2.2 cs[k].1 s.1).2=s.2.2.2.2.2.2.set (dU s.2.2.2.2.2.2 cs[k].1).toNat (uE (s.2.2.2.2.2.2.getD (dU s.2.2.2.2.2.2 cs[k].1).toNat ff) 4 s.1):=by
    unfold oN;rw[if_neg hnn]
   refine⟨h.st.cases (h.st.cr.cancel h.st.now _),?_,?_⟩
   ·show (oN s.2.2.2.2.2.2 cs[k].1 s.1).2.length=_
    rw[e];exact (hU 4).1
   ·intro j hj
    show (oN s.2.2.2.2.2.2 cs[k].1 s.1).2[j]? =_
    rw[e];exact (hU 4).2 j hj
 ·exact⟨h.st,h.len,fun j hj=>h.same j (by omega)⟩
theorem C2{α A:Type}{g:A->α->A}{P:A->Nat->Prop}:∀ (xs:List α),(∀ k (h:k<xs.length) a,P a k->P (g a xs[k]) (k+1))->∀ a,P a 0->P (xs.foldl g a) xs.length
 | [],_,a,h=>h
 | x::xs,hs,a,h=>by
  have:=C2 (P:=fun a k=>P a (k+1)) xs (fun k hk a hp=>hs (k+1) (Nat.succ_lt_succ hk) a hp) (g a x) (hs 0 (Nat.succ_pos _) a h)
  exact this
theorem zlg{c:bD}{s:bj}(h:cF s):Aa s.2.2.2.2.2.2 (C1 c s) s.2.2.2.2.2.2.length:=
 C2 (P:=fun t k=>Aa s.2.2.2.2.2.2 t k) s.2.2.2.2.2.2 (fun k hk a hp=>hp.next hk) s ⟨h,rfl,fun _ _=>rfl⟩
theorem zEh{c:bD}(hc:ja c){s:bj}(h:cF s):JR c s=some (C1 c s,()):=by
 unfold JR zcg C1
 have hle:=h.cr.le
 generalize gq:s.2.2.2.2.2.2=cs at hle ⊢
 generalize hz:((0,0,[],[],[],[],[]):bj)=z
 have hl:=zY (f:=fun s:(List cD)×Int×Int×bD×bj×bj×Unit=>BL s.1 s.2.1 s.2.2.1 s.2.2.2.1 s.2.2.2.2.1 s.2.2.2.2.2.1) cs (C0 c)
  (fun t k=>(cs,(cs.length:Int),(k:Int),c,t,z,())) (fun t=>(.inl (t,z,()):(bj×bj×Unit)⊕(bj×Unit))) (fun t k=>Aa cs t k) (fun k hk t hp=>by
   show BL cs (cs.length:Int) (k:Int) c t z=_
   unfold BL C0
   rw[decide_eq_true (by omega),bz,aC (by omega)]
   simp only[aW,fi,fT,fq cs k _ hk]
   rw[bA (by omega) (by omega)]
   by_cases h1:cs[k].2.2.2=1
   ·have e1:(cs[k].2.2.2 != 1)=false:=by rw[h1];rfl
    rw[e1,if_pos h1,bn,CZ hc hp.st.dC,au]
    have dh:t.2.2.2.2.2.2.length<=1000000:=by have:=hp.st.cr.le;omega
    by_cases h3:ni c t cs[k].1=3
    ·have e2:(ni c t cs[k].1 != 3)=false:=by rw[h3];rfl
     simp only[e2]
     rw[if_pos h3,bn,zDQ _ _ _ dh,au,zkX hp.st.hr hp.st.dC.hl,if_pos (zEg h3),au]
     rfl
    ·have e2:(ni c t cs[k].1 != 3)=true:=bne_iff_ne.2 h3
     simp only[e2]
     rw[if_neg h3,bz,Xz _ _ _ dh,au]
     rfl
   ·have e1:(cs[k].2.2.2 != 1)=true:=bne_iff_ne.2 h1
    rw[e1,if_neg h1,bz];rfl)
  (fun k hk t hp=>hp.next hk) (fun t hp=>by
   show BL cs (cs.length:Int) (cs.length:Int) c t z=_
   unfold BL
   rw[decide_eq_false (by omega)];rfl) cs.length 0 s (by omega) ⟨h,by rw[gq],fun _ _=>by rw[gq]⟩
 rw[List.drop_zero] at hl
 have qR:ct (fun s:(List cD)×Int×Int×bD×bj×bj×Unit=>BL s.1 s.2.1 s.2.2.1 s.2.2.2.1 s.2.2.2.2.1 s.2.2.2.2.2.1) (cs,(cs.length:Int),(0:Int),c,s,z,())=_:=hl
 rw[qR];rfl
def C3(c:bD)(s:bj)(h:aX):bj:=
 if ni c s h.1=3 then (if (tu c s.2.2.2.2.2.2 h.1 s.1).1=0 then z7 s (tu c s.2.2.2.2.2.2 h.1 s.1).2 else s) else s
def GO(c:bD)(s:bj):bj:=s.2.2.1.foldl (C3 c) s
theorem zlh{c:bD}{s:bj}(h:cF s)(x:aX):cF (C3 c s x):=by
 unfold C3
 split
 ·split
  ·exact h.cases (h.cr.raise h.now c _)
  ·exact h
 ·exact h
theorem zli{c:bD}{s:bj}(h:cF s):cF (GO c s):=C2 (P:=fun t _=>cF t) s.2.2.1 (fun k hk a hp=>zlh hp _) s h
theorem zEi{c:bD}(hc:ja c){s:bj}(h:cF s):JW c s=some (GO c s,()):=by
 unfold JW zcl GO
 have hle:=h.hl
 generalize gq:s.2.2.1=hs at hle ⊢
 generalize hz:((0,0,[],[],[],[],[]):bj)=z
 have hl:=zY (f:=fun s:(List aX)×Int×Int×bD×bj×bj×Unit=>BN s.1 s.2.1 s.2.2.1 s.2.2.2.1 s.2.2.2.2.1 s.2.2.2.2.2.1) hs (C3 c)
  (fun t k=>(hs,(hs.length:Int),(k:Int),c,t,z,())) (fun t=>(.inl (t,z,()):(bj×bj×Unit)⊕(bj×Unit))) (fun t k=>cF t) (fun k hk t hp=>by
   show BN hs (hs.length:Int) (k:Int) c t z=_
   unfold BN C3
   rw[decide_eq_true (by omega),bz,aC (by omega)]
   simp only[aW,fi,fT,fq hs k _ hk,CZ hc hp.dC,au]
   rw[bA (by omega) (by omega)]
   have dh:t.2.2.2.2.2.2.length<=1000000:=by have:=hp.cr.le;omega
   by_cases h3:ni c t hs[k].1=3
   ·have e2:(ni c t hs[k].1 != 3)=false:=by rw[h3];rfl
    rw[e2,if_pos h3,bn,zDW _ _ _ _ dh,au]
    by_cases h4:(tu c t.2.2.2.2.2.2 hs[k].1 t.1).1=0
    ·have e3:((tu c t.2.2.2.2.2.2 hs[k].1 t.1).1==0)=true:=beq_iff_eq.2 h4
     simp only[e3]
     rw[if_pos h4];rfl
    ·have e3:((tu c t.2.2.2.2.2.2 hs[k].1 t.1).1==0)=false:=beq_eq_false_iff_ne.2 h4
     simp only[e3]
     rw[if_neg h4];rfl
   ·have e2:(ni c t hs[k].1 != 3)=true:=bne_iff_ne.2 h3
    rw[e2,if_neg h3];rfl)
  (fun k hk t hp=>zlh hp _) (fun t hp=>by
   show BN hs (hs.length:Int) (hs.length:Int) c t z=_
   unfold BN
   rw[decide_eq_false (by omega)];rfl) hs.length 0 s (by omega) h
 rw[List.drop_zero] at hl
 have qR:ct (fun s:(List aX)×Int×Int×bD×bj×bj×Unit=>BN s.1 s.2.1 s.2.2.1 s.2.2.2.1 s.2.2.2.2.1 s.2.2.2.2.2.1) (hs,(hs.length:Int),(0:Int),c,s,z,())=_:=hl
 rw[qR];rfl
def C4(c:bD)(s:bj)(k:ep):Bool:=gw kH s.2.2.1 k.1||(decide ((vU s.2.2.2.2.1 k.1).length≠0)&&qB s.1 (uF s.2.2.2.2.1 k.1) c.2.1)
def L3(c:bD)(s:bj):bj:=GM s (s.2.2.2.2.1.filter (C4 c s))
theorem zlj{c:bD}{s:bj}(h:cF s):cF (L3 c s):=
 h.known (h.kr.sub List.filter_sublist) (Nat.le_trans (List.length_filter_le _ _) h.kl) fun k hk=>h.ks k (List.mem_filter.1 hk).1
theorem zEj{c:bD}{s:bj}(h:Qo s)(k:ep):JY k.1 s.1 s.2.1 s.2.2.1 s.2.2.2.1 s.2.2.2.2.1 s.2.2.2.2.2.1 s.2.2.2.2.2.2 c.1 c.2.1 c.2.2.1 c.2.2.2.1 c.2.2.2.2.1 c.2.2.2.2.2.1 c.2.2.2.2.2.2.1 c.2.2.2.2.2.2.2.1 c.2.2.2.2.2.2.2.2=
  some (C4 c s k,s.1,s.2.1,s.2.2.1,s.2.2.2.1,s.2.2.2.2.1,s.2.2.2.2.2.1,s.2.2.2.2.2.2,c.1,c.2.1,c.2.2.1,c.2.2.2.1,c.2.2.2.2.1,c.2.2.2.2.2.1,c.2.2.2.2.2.2.1,c.2.2.2.2.2.2.2.1,c.2.2.2.2.2.2.2.2,()):=by
 unfold JY C4
 rw[zkW h.hr h.hl,au,zk1 h.kr h.kl h.ks,au]
 simp only[cc,dI,vw,LR,gX,aW]
theorem zEk{c:bD}{s:bj}(h:Qo s):JZ c s=some (L3 c s,()):=by
 unfold JZ Ow zcs L3
 have hkl:=h.kl
 have hl:=zY (f:=fun x:(List ep)×Int×Int×(List ep)×Int×Int×(List aX)×(List aH)×(List ep)×(List aM)×(List cD)×Int×Int×Int×Int×Int×Int×Int×Int×Int×Unit=>Fj x.1 x.2.1 x.2.2.1 x.2.2.2.1 x.2.2.2.2.1 x.2.2.2.2.2.1 x.2.2.2.2.2.2.1 x.2.2.2.2.2.2.2.1 x.2.2.2.2.2.2.2.2.1 x.2.2.2.2.2.2.2.2.2.1 x.2.2.2.2.2.2.2.2.2.2.1 x.2.2.2.2.2.2.2.2.2.2.2.1 x.2.2.2.2.2.2.2.2.2.2.2.2.1 x.2.2.2.2.2.2.2.2.2.2.2.2.2.1 x.2.2.2.2.2.2.2.2.2.2.2.2.2.2.1 x.2.2.2.2.2.2.2.2.2.2.2.2.2.2.2.1 x.2.2.2.2.2.2.2.2.2.2.2.2.2.2.2.2.1 x.2.2.2.2.2.2.2.2.2.2.2.2.2.2.2.2.2.1 x.2.2.2.2.2.2.2.2.2.2.2.2.2.2.2.2.2.2.1 x.2.2.2.2.2.2.2.2.2.2.2.2.2.2.2.2.2.2.2.1) s.2.2.2.2.1
  (fun (o:List ep) k=>if C4 c s k=true then o++[k] else o)
  (fun o k=>(s.2.2.2.2.1,(s.2.2.2.2.1.length:Int),(k:Int),o,s.1,s.2.1,s.2.2.1,s.2.2.2.1,s.2.2.2.2.1,s.2.2.2.2.2.1,s.2.2.2.2.2.2,c.1,c.2.1,c.2.2.1,c.2.2.2.1,c.2.2.2.2.1,c.2.2.2.2.2.1,c.2.2.2.2.2.2.1,c.2.2.2.2.2.2.2.1,c.2.2.2.2.2.2.2.2,()))
  (fun o=>(.inl (s.1,s.2.1,s.2.2.1,s.2.2.2.1,s.2.2.2.2.1,s.2.2.2.2.2.1,s.2.2.2.2.2.2,c.1,c.2.1,c.2.2.1,c.2.2.2.1,c.2.2.2.2.1,c.2.2.2.2.2.1,c.2.2.2.2.2.2.1,c.2.2.2.2.2.2.2.1,c.2.2.2.2.2.2.2.2,o,()):(Int×Int×(List aX)×(List aH)×(List ep)×(List aM)×(List cD)×Int×Int×Int×Int×Int×Int×Int×Int×Int×(List ep)×Unit)⊕(bj×bD×(List ep)×Unit)))
  (fun o k=>o.length<=k) (fun k hk o hp=>by
   show Fj s.2.2.2.2.1 (s.2.2.2.2.1.length:Int) (k:Int) o s.1 s.2.1 s.2.2.1 s.2.2.2.1 s.2.2.2.2.1 s.2.2.2.2.2.1 s.2.2.2.2.2.2 c.1 c.2.1 c.2.2.1 c.2.2.2.1 c.2.2.2.2.1 c.2.2.2.2.2.1 c.2.2.2.2.2.2.1 c.2.2.2.2.2.2.2.1 c.2.2.2.2.2.2.2.2=_
   unfold Fj
   rw[decide_eq_true (by omega),bz,aC (by omega)]
   simp only[aW,fi,fT,fq s.2.2.2.2.1 k _ hk,zEj h,au]
   rw[bA (by omega) (by omega)]
   cases C4 c s s.2.2.2.2.1[k] with
   | true=>simp only[bz,if_true];rw[aC (by show _*_<=_;simp;omega)];rfl
   | false=>rfl)
  (fun k hk o hp=>by split<;>(try rw[List.length_append,List.length_singleton])<;>omega) (fun o hp=>by
   show Fj s.2.2.2.2.1 (s.2.2.2.2.1.length:Int) (s.2.2.2.2.1.length:Int) o s.1 s.2.1 s.2.2.1 s.2.2.2.1 s.2.2.2.2.1 s.2.2.2.2.2.1 s.2.2.2.2.2.2 c.1 c.2.1 c.2.2.1 c.2.2.2.1 c.2.2.2.2.1 c.2.2.2.2.2.1 c.2.2.2.2.2.2.1 c.2.2.2.2.2.2.2.1 c.2.2.2.2.2.2.2.2=_
   unfold Fj
   rw[decide_eq_false (by omega)];rfl) s.2.2.2.2.1.length 0 [] (by omega) (by simp)
 rw[List.drop_zero] at hl
 have hf:∀ (l o:List ep),l.foldl (fun (o:List ep) k=>if C4 c s k=true then o++[k] else o) o=o++l.filter (C4 c s):=by
  intro l
  induction l with
  | nil=>intro o;simp
  | cons x l ih=>
   intro o
   rw[List.foldl_cons,ih,List.filter_cons]
   split<;>simp
 rw[hf,List.nil_append] at hl
 have qR:=hl
 simp only[Int.ofNat_zero] at qR
 erw [qR]
 rfl
def Ab(p:aM):ka:=(false,0,p.1,cJ,p.2.1,p.2.2.1)
def XG(s:bj)(v:Int):bj:=(s.1,v,s.2.2)
def tz(q:bj×List ka)(a:Int):bj×List ka:=
 if (uG q.1.2.2.2.2.2.1 (vW a ((q.1.2.1+1) % 65536) q.1.1)).1=0 then (tv (XG q.1 ((q.1.2.1+1) % 65536)) (uG q.1.2.2.2.2.2.1 (vW a ((q.1.2.1+1) % 65536) q.1.1)).2,q.2++[Ab (vW a ((q.1.2.1+1) % 65536) q.1.1)])
 else (XG q.1 ((q.1.2.1+1) % 65536),q.2)
noncomputable def mD(c:bD)(s:bj)(room:Int):List Int×List aH×Unit:=(zb c s.2.2.2.1 s.1 room).getD ([],[],())
def pM(c:bD)(q:List aM×List aM):Int:=max 0 (min (c.2.2.2.2.1-(q.2.length:Int)) (16-(q.1.length:Int)))
noncomputable def pN(c:bD)(s:bj):bj×List ka:=
 (mD c s (pM c (lL c s.2.2.2.2.2.1 s.1 c.2.2.2.2.1))).1.foldl tz
  (LV (tv s (lL c s.2.2.2.2.2.1 s.1 c.2.2.2.2.1).1) (mD c s (pM c (lL c s.2.2.2.2.2.1 s.1 c.2.2.2.2.1))).2.1,(lL c s.2.2.2.2.2.1 s.1 c.2.2.2.2.1).2.map Ab)
theorem zlk(c:bD){s:bj}(h:ik s.2.2.2.1)(room:Int):zb c s.2.2.2.1 s.1 room=some ((mD c s room).1,(mD c s room).2.1,())/\ik (mD c s room).2.1/\(((mD c s room).1.length:Int)<=max 0 room)/\(∀ a∈(mD c s room).1,cd a)/\
  (mD c s room).2.1.map (·.1)=s.2.2.2.1.map (·.1):=by
 obtain⟨D,d1,d2,d3,d4,d5⟩:=zDK h c s.1 room
 have hin:∀ k∈D,gK s.2.2.2.1 k:=fun k hk=>by
  have:=GG (d1.mem_iff.1 hk)
  exact⟨this.1,this.2.1⟩
 have h1:=zkP (room:=room) (every:=c.2.2.2.1) D (s.2.2.2.1,[]) (by simp;omega)
 have h2:=zld (room:=room) (every:=c.2.2.2.1) D (s.2.2.2.1,[]) h hin (by simp)
 have e:mD c s room=((D.foldl (gE room c.2.2.2.1) (s.2.2.2.1,[])).2,(D.foldl (gE room c.2.2.2.1) (s.2.2.2.1,[])).1,()):=by unfold mD;rw[d3];rfl
 rw[e]
 exact⟨d3,d4,h1,h2,d5⟩
structure GP(q:bj×List ka)(n:Nat):Prop where
 st:cF q.1
 len:q.2.length<=n
theorem cF.zll{s:bj}(h:cF s){v:Int}(hv:0<=v/\v<=65535):cF (XG s v):=⟨h.now,hv,h.hr,h.hl,h.hm,h.sw,h.kr,h.kl,h.ks,h.pr,h.cr⟩
theorem zlm{q:bj×List ka}{n:Nat}(h:GP q n){a:Int}(ha:cd a):GP (tz q a) (n+1):=by
 have hv:0<=(q.1.2.1+1) % 65536/\(q.1.2.1+1) % 65536<=65535:=by omega
 unfold tz
 split
 ·rename_i h0
  refine⟨(h.st.zll hv).LY (h.st.pr.put (zEe ha q.1.1) h0),?_⟩
  have:=h.len
  simp only[List.length_append,List.length_singleton];omega
 ·exact⟨h.st.zll hv,by have:=h.len;simp only;omega⟩
theorem zEl{c:bD}(hc:ja c){s:bj}(h:cF s):cF (pN c s).1/\((pN c s).2.length:Int)<=c.2.2.2.2.1:=by
 have hl:=h.pr.late hc s.1 c.2.2.2.2.1
 have hp:=zlk c h.sw (pM c (lL c s.2.2.2.2.2.1 s.1 c.2.2.2.2.1))
 have hr:=hc.XB
 have key:GP (pN c s) ((lL c s.2.2.2.2.2.1 s.1 c.2.2.2.2.1).2.length+(mD c s (pM c (lL c s.2.2.2.2.2.1 s.1 c.2.2.2.2.1))).1.length):=by
  unfold pN
  refine C2 (P:=fun q k=>GP q ((lL c s.2.2.2.2.2.1 s.1 c.2.2.2.2.1).2.length+k)) _ (fun k hk a ha=>?_) _ ⟨(h.LY hl.1).Qp hp.2.1,by simp⟩
  exact zlm ha (hp.2.2.2.1 _ (List.getElem_mem hk))
 refine⟨key.st,?_⟩
 have h1:=key.len
 have h2:=hl.2
 have h3:=hp.2.2.1
 unfold pM at h1 h3
 have cW:((pN c s).2.length:Int)<=((lL c s.2.2.2.2.2.1 s.1 c.2.2.2.2.1).2.length:Int)+((mD c s (max 0 (min (c.2.2.2.2.1-((lL c s.2.2.2.2.2.1 s.1 c.2.2.2.2.1).2.length:Int)) (16-((lL c s.2.2.2.2.2.1 s.1 c.2.2.2.2.1).1.length:Int))))).1.length:Int):=by omega
 omega
theorem zEm(c:bD)(s z:bj)(again ps:List aM)(hl:again.length<=1000000):
  Ux (again,again,(again.length:Int),0,[],c,s,z,ps,())=some (.inl (again,c,s,z,again.map Ab,ps,())):=by
 unfold Ux
 have h:=zY (f:=fun s:(List aM)×(List aM)×Int×Int×(List ka)×bD×bj×bj×(List aM)×Unit=>Fo s.1 s.2.1 s.2.2.1 s.2.2.2.1 s.2.2.2.2.1 s.2.2.2.2.2.1 s.2.2.2.2.2.2.1 s.2.2.2.2.2.2.2.1 s.2.2.2.2.2.2.2.2.1) again (fun (o:List ka) p=>o++[Ab p])
  (fun o k=>(again,again,(again.length:Int),(k:Int),o,c,s,z,ps,())) (fun o=>(.inl (again,c,s,z,o,ps,()):((List aM)×bD×bj×bj×(List ka)×(List aM)×Unit)⊕(bj×(List ka)×Unit))) (fun o k=>o.length=k) (fun k hk o hp=>by
   show Fo again again (again.length:Int) (k:Int) o c s z ps=_
   unfold Fo Fl
   rw[decide_eq_true (by omega),bz,aC (by omega)]
   simp only[aW,fi,fT,fq again k _ hk,au]
   rw[bA (by omega) (by omega),aC (by show _*_<=_;simp;omega)];rfl)
  (fun k hk o hp=>by simp;omega) (fun o hp=>by
   show Fo again again (again.length:Int) (again.length:Int) o c s z ps=_
   unfold Fo
   rw[decide_eq_false (by omega)];rfl) again.length 0 [] (by omega) rfl
 rw[List.drop_zero] at h
 have hf:∀ (l:List aM) (o:List ka),l.foldl (fun (o:List ka) p=>o++[Ab p]) o=o++l.map Ab:=by
  intro l
  induction l with
  | nil=>intro o;simp
  | cons x l ih=>intro o;rw[List.foldl_cons,ih];simp
 rw[hf,List.nil_append] at h
 exact h
theorem zEn(z:bj)(asks:List Int)(iy:∀ a∈asks,cd a)(hl:asks.length<=1000)(q:bj×List ka)(hq:GP q 1000):
  OC (asks,(asks.length:Int),0,q.1,z,q.2,())=some (.inl ((asks.foldl tz q).1,z,(asks.foldl tz q).2,())):=by
 unfold OC
 have h:=zY (f:=fun s:(List Int)×Int×Int×bj×bj×(List ka)×Unit=>Fp s.1 s.2.1 s.2.2.1 s.2.2.2.1 s.2.2.2.2.1 s.2.2.2.2.2.1) asks tz
  (fun q k=>(asks,(asks.length:Int),(k:Int),q.1,z,q.2,())) (fun q=>(.inl (q.1,z,q.2,()):(bj×bj×(List ka)×Unit)⊕(bj×(List ka)×Unit))) (fun q k=>GP q (1000+k)) (fun k hk q hp=>by
   show Fp asks (asks.length:Int) (k:Int) q.1 z q.2=_
   have ha:=iy _ (List.getElem_mem hk)
   have hsq:=hp.st.seq
   have hv:0<=(q.1.2.1+1) % 65536/\(q.1.2.1+1) % 65536<=1000000:=by omega
   have hlen:=hp.len
   unfold Fp tz
   rw[decide_eq_true (by omega),bz,aC (by omega)]
   simp only[aW,Int.toNat_natCast,fq asks k _ hk]
   have e16:(2:Int) ^ 16=65536:=by decide
   rw[bA (n:=q.1.2.1+1) (by omega) (by omega),IA 16 (by omega) (by decide) (by decide),e16,bA (n:=_ % _) (by omega) (by omega),zD6 ha hv,au,zD5 _ _ (by have:=hp.st.pr.le;omega),au,bA (n:=(k:Int)+1) (by omega) (by omega)]
   by_cases h0:(uG q.1.2.2.2.2.2.1 (vW asks[k] ((q.1.2.1+1) % 65536) q.1.1)).1=0
   ·have e0:((uG q.1.2.2.2.2.2.1 (vW asks[k] ((q.1.2.1+1) % 65536) q.1.1)).1==0)=true:=beq_iff_eq.2 h0
    simp only[e0,bz]
    unfold Fl
    rw[if_pos h0,au,aC (by show _*_<=_;simp;omega)];rfl
   ·have e0:((uG q.1.2.2.2.2.2.1 (vW asks[k] ((q.1.2.1+1) % 65536) q.1.1)).1==0)=false:=beq_eq_false_iff_ne.2 h0
    simp only[e0,bn]
    rw[if_neg h0];rfl)
  (fun k hk q hp=>zlm hp (iy _ (List.getElem_mem hk))) (fun q hp=>by
   show Fp asks (asks.length:Int) (asks.length:Int) q.1 z q.2=_
   unfold Fp
   rw[decide_eq_false (by omega)];rfl) asks.length 0 q (by omega) hq
 rw[List.drop_zero] at h
 exact h
theorem zEp(a b:Int):(if b<a then b else a)=min a b:=by split<;>omega
theorem zEq(a:Int):(if a>0 then a else 0)=max 0 a:=by split<;>omega
theorem zEr{c:bD}(hc:ja c){s:bj}(h:cF s):J5 c s=some ((pN c s).1,(pN c s).2,()):=by
 have hl:=h.pr.late hc s.1 c.2.2.2.2.1
 have hp:=zlk c h.sw (pM c (lL c s.2.2.2.2.2.1 s.1 c.2.2.2.2.1))
 have hr:=hc.XB
 have hle:=h.pr.le
 have Hu:=hl.1.le
 have yq:=hl.2
 have AK:((mD c s (pM c (lL c s.2.2.2.2.2.1 s.1 c.2.2.2.2.1))).1.length:Int)<=64:=by
  have:=hp.2.2.1
  unfold pM at this ⊢
  omega
 unfold J5 pN
 rw[zD3 c hc _ _ _ (by omega) (fun p hp=>(h.pr.ok p hp).2.2.2.2.1),au]
 generalize lL c s.2.2.2.2.2.1 s.1 c.2.2.2.2.1=q at hl hp Hu yq AK ⊢
 simp only
 rw[zEm _ _ _ _ _ (by omega),au,dV]
 simp only[aW]
 rw[bA (n:=c.2.2.2.2.1-(q.2.length:Int)) (by omega) (by omega),bA (n:=16-(q.1.length:Int)) (by omega) (by omega),zEp,zEq]
 have e:max 0 (min (c.2.2.2.2.1-(q.2.length:Int)) (16-(q.1.length:Int)))=pM c q:=rfl
 rw[e,hp.1,au]
 have ha:=zEn ((0,0,[],[],[],[],[]):bj) (mD c s (pM c q)).1 hp.2.2.2.1 (by omega) (LV (tv s q.1) (mD c s (pM c q)).2.1,q.2.map Ab) ⟨(h.LY hl.1).Qp hp.2.1,by rw[List.length_map];omega⟩
 have P7:OC ((mD c s (pM c q)).1,((mD c s (pM c q)).1.length:Int),0,(s.1,s.2.1,s.2.2.1,(mD c s (pM c q)).2.1,s.2.2.2.2.1,q.1,s.2.2.2.2.2.2),((0,0,[],[],[],[],[]):bj),q.2.map Ab,())=_:=ha
 rw[P7]
 rfl
def C5(c:bD)(s:bj):bj:=(tt s.1 1,s.2.1,s.2.2.1,s.2.2.2.1,s.2.2.2.2.1,s.2.2.2.2.2.1,s.2.2.2.2.2.2.map (j9 c (tt s.1 1)))
noncomputable def C6(c:bD)(s:bj):bj×List ka:=pN c (L3 c (GO c (C1 c (C5 c s))))
theorem zEs{t:Int}(h:0<=t/\t<=1099511627776):tt t 1=min (t+1) 1099511627776:=by
 unfold tt
 rw[CW h.1 h.2]
 unfold fD
 split<;>(try split)<;>omega
theorem zln{c:bD}{s:bj}(h:cF s):cF (C5 c s):=by
 have hn:=h.now
 have e:=zEs hn
 have h0:0<=tt s.1 1/\tt s.1 1<=1099511627776:=by rw[e];omega
 have h1:s.1<=tt s.1 1:=by rw[e];omega
 exact⟨h0,h.seq,h.hr,h.hl,h.hm,h.sw,h.kr,h.kl,fun k hk=>(h.ks k hk).XE h1,h.pr,(h.cr.XE h1).tick c h0⟩
theorem zlo{c:bD}(hc:ja c){s:bj}(h:cF s):cF (C6 c s).1/\((C6 c s).2.length:Int)<=c.2.2.2.2.1:=zEl hc (zlj (zli (zlg (zln h)).st))
theorem zEt{c:bD}(hc:ja c){s:bj}(h:cF s):J6 c s=some ((C6 c s).1,(C6 c s).2,()):=by
 unfold J6
 rw[zky,au,zDN _ _ _ (by have:=h.cr.le;omega),au]
 have e:((tt s.1 1,s.2.1,s.2.2.1,s.2.2.2.1,s.2.2.2.2.1,s.2.2.2.2.2.1,s.2.2.2.2.2.2.map (j9 c (tt s.1 1))):bj)=C5 c s:=rfl
 have h1:=zln (c:=c) h
 have h2:=(zlg (c:=c) h1).st
 have h3:=zli (c:=c) h2
 have h4:=zlj (c:=c) h3
 simp only[e]
 rw[zEh hc h1,au,zEi hc h2,au,zEk h3.dC,au,zEr hc h4,au]
 rfl
def Ac(s:bj)(a:Int):bj:=if (oN s.2.2.2.2.2.2 a s.1).1=0 then z7 s (oN s.2.2.2.2.2.2 a s.1).2 else s
theorem zlp{s:bj}(h:cF s)(a:Int):cF (Ac s a):=by
 unfold Ac
 split
 ·exact h.cases (h.cr.cancel h.now a)
 ·exact h
def lN(s t:bj)(a:Int)(x:aL):bj×Int:=if (oO t.2.2.2.2.1 a x).1=0 then (Ac (GM t (oO t.2.2.2.2.1 a x).2) a,0) else (s,(oO t.2.2.2.2.1 a x).1)
def tA(s:bj)(e:cw):bj×Int:=
 if e.2.2.2.1=0 then (match GL s.2.2.2.2.2.1 e.2.1.1 with
  | none=>(s,7)
  | some l=>lN s (tv s l) e.2.1.1 (e.2.2.2.1,cJ,s.1))
 else lN s s e.2.1.1 (e.2.2.2.1,e.2.2.2.2.1,s.1)
def uH(s:bj)(a:Int):bj×Int:=if gw kH s.2.2.1 a=true then (Ac (z6 s (CV s.2.2.1 a)) a,0) else (s,7)
def jB{α:Type}(s:bj)(r:Int×α)(f:α->bj):bj×Int:=if r.1=0 then (f r.2,0) else (s,r.1)
noncomputable def Ad(s:bj)(b:Int×Int):Int×List aH:=match yW s.2.2.2.1 b s.1 with
 | some (e,l,_)=>(e,l)
 | none=>(0,[])
noncomputable def Ae(s:bj)(b:Int×Int):Int×List aH:=match yY s.2.2.2.1 b with
 | some (e,l,_)=>(e,l)
 | none=>(0,[])
theorem zlq{s:bj}(h:ik s.2.2.2.1){b:Int×Int}(hb:cd b.1):yW s.2.2.2.1 b s.1=some ((Ad s b).1,(Ad s b).2,())/\((Ad s b).1=0->ik (Ad s b).2):=by
 unfold Ad
 rcases zkM h hb s.1 with⟨h1,h2⟩ | ⟨_,l,h2,_,h3,_⟩
 ·rw[h2];exact⟨rfl,fun h=>absurd h h1⟩
 ·rw[h2];exact⟨rfl,fun _=>h3⟩
theorem zlr{s:bj}(h:ik s.2.2.2.1)(b:Int×Int):yY s.2.2.2.1 b=some ((Ae s b).1,(Ae s b).2,())/\((Ae s b).1=0->ik (Ae s b).2):=by
 unfold Ae
 rcases zkS h b with⟨_,h2⟩ | ⟨_,l,h2,h3,_⟩
 ·rw[h2];exact⟨rfl,fun h=>by simp at h⟩
 ·rw[h2];exact⟨rfl,fun _=>h3⟩
noncomputable def pO(s:bj)(e:cw):bj×Int:=
 if e.1=1 then jB s (xN s.2.2.1 e.2.1) (z6 s)
 else if e.1=2 then uH s e.2.1.1
 else if e.1=3 then jB s (Ad s e.2.2.1) (LV s)
 else if e.1=4 then jB s (Ae s e.2.2.1) (LV s)
 else if e.1=5 then tA s e
 else if e.1=6 then jB s (iz s.2.2.2.2.2.2 e.2.1.1 0 1 s.1) (z7 s)
 else if e.1=7 then jB s (iz s.2.2.2.2.2.2 e.2.1.1 0 2 s.1) (z7 s)
 else (s,12)
noncomputable def du(c:bD)(s:bj)(e:cw):bj×Int×List ka:=
 if e.1=0 then ((C6 c s).1,0,(C6 c s).2) else ((pO s e).1,(pO s e).2,[])
structure EvR(e:cw):Prop where
 block:cd e.2.2.1.1
 owner:e.2.1.2.1.length<=140737488355328
theorem zls{s t:bj}(hs:cF s)(ht:cF t)(a:Int){x:aL}(hx:x.2.2=t.1):cF (lN s t a x).1:=by
 unfold lN
 split
 ·rename_i h0
  refine zlp ?_ a
  unfold oO at h0 ⊢
  split at h0
  ·simp at h0
  ·rename_i h1
   split at h0
   ·simp at h0
   ·rename_i h2
    split at h0
    ·simp at h0
    ·rename_i h3
     rw[if_neg h1,if_neg h2,if_neg h3]
     simp only
     cases hk:gw kK t.2.2.2.2.1 a with
     | true=>
      obtain⟨g1,g2⟩:=ht.kr.at hk
      simp only[if_true]
      rw[fq _ _ _ g1]
      refine ht.known ?_ (by rw[List.length_set];exact ht.kl) fun k fB=>?_
      ·have hm:(t.2.2.2.2.1.set (cY kK t.2.2.2.2.1 a) ((t.2.2.2.2.1[cY kK t.2.2.2.2.1 a]).1,xO (t.2.2.2.2.1[cY kK t.2.2.2.2.1 a]).2 x)).map kK=t.2.2.2.2.1.map kK:=by
        rw[List.map_set]
        have:(t.2.2.2.2.1.map kK)[cY kK t.2.2.2.2.1 a]'(by simpa using g1)=(t.2.2.2.2.1[cY kK t.2.2.2.2.1 a]).1:=by simp
        show (t.2.2.2.2.1.map kK).set _ (t.2.2.2.2.1[cY kK t.2.2.2.2.1 a]).1=_
        rw[<-this,List.set_getElem_self]
       unfold gh
       rw[<-List.pairwise_map (f:=kK) (R:=fun x y=>x<y),hm,List.pairwise_map]
       exact ht.kr
      ·rcases List.mem_or_eq_of_mem_set fB with fB | rfl
       ·exact ht.ks k fB
       ·exact (ht.ks _ (List.getElem_mem g1)).keep (by omega) hx
     | false=>
      simp only[Bool.false_eq_true,if_false]
      refine ht.known (ht.kr.ins hk) ?_ fun k fB=>?_
      ·rw[zlc]
       have jH:¬ 96<=t.2.2.2.2.1.length:=fun h=>h3 ⟨hk,h⟩
       omega
      ·rcases Qn fB with fB | rfl
       ·exact ht.ks k fB
       ·have hn:=ht.now
        exact⟨by simp,by simp,fun y hy=>by
         have:y=x:=by simpa using hy
         subst this
         omega,by simp⟩
 ·exact hs
theorem zEu{s:bj}(h:cF s){e:cw}(he:EvR e):cF (pO s e).1:=by
 unfold pO
 split
 ·unfold jB
  split
  ·rename_i h0
   unfold xN at h0 ⊢
   split at h0
   ·simp at h0
   ·rename_i h1
    split at h0
    ·simp at h0
    ·rename_i h2
     split at h0
     ·simp at h0
     ·rename_i h3
      rw[if_neg h1,if_neg h2,if_neg h3]
      refine h.LX (h.hr.ins (by simpa using h2)) (by rw[zlc];omega) fun y hy=>?_
      rcases Qn hy with hy | rfl
      ·exact h.hm y hy
      ·simpa using h1
  ·exact h
 ·split
  ·unfold uH
   split
   ·exact zlp (h.take _) _
   ·exact h
  ·split
   ·unfold jB
    split
    ·rename_i h0;exact h.Qp ((zlq h.sw he.block).2 h0)
    ·exact h
   ·split
    ·unfold jB
     split
     ·rename_i h0;exact h.Qp ((zlr h.sw _).2 h0)
     ·exact h
    ·split
     ·unfold tA
      split
      ·split
       ·exact h
       ·rename_i l hl
        exact zls h (h.LY (h.pr.ans hl)) _ rfl
      ·exact zls h h _ rfl
     ·split
      ·unfold jB
       split
       ·exact h.cases (h.cr.iz h.now _ (by omega))
       ·exact h
      ·split
       ·unfold jB
        split
        ·exact h.cases (h.cr.iz h.now _ (by omega))
        ·exact h
       ·exact h
theorem Qq{c:bD}(hc:ja c){s:bj}(h:cF s){e:cw}(he:EvR e):cF (du c s e).1:=by
 unfold du
 split
 ·exact (zlo hc h).1
 ·exact zEu h he
theorem xP{e:Int}(h:e=0):(e==(0:Int))=true:=beq_iff_eq.2 h
theorem xQ{e:Int}(h:¬ e=0):(e==(0:Int))=false:=beq_eq_false_iff_ne.2 h
theorem GQ{e:Int}(h:e=0):(e != (0:Int))=false:=by rw[h];rfl
theorem Af{e:Int}(h:¬ e=0):(e != (0:Int))=true:=bne_iff_ne.2 h
theorem zlt{s t:bj}(ht:cF t)(a:Int)(x:aL):
  (ao (BV t.2.2.2.2.1 a x) fun y3=>ay (y3.1 != 0) (some (s,y3.1,())) (ao (xe t.2.2.2.2.2.2 a t.1) fun y5=>ay (y5.1==0)
   (some ((t.1,t.2.1,t.2.2.1,t.2.2.2.1,y3.2.1,t.2.2.2.2.2.1,y5.2.1),(0:Int),())) (some ((t.1,t.2.1,t.2.2.1,t.2.2.2.1,y3.2.1,t.2.2.2.2.2),(0:Int),()))))=some ((lN s t a x).1,(lN s t a x).2,()):=by
 rw[zD1 ht.kr ht.dC.kl ht.XD,au]
 unfold lN
 by_cases h0:(oO t.2.2.2.2.1 a x).1=0
 ·rw[if_pos h0]
  simp only[GQ h0,bn]
  rw[Xz _ _ _ (by have:=ht.cr.le;omega),au]
  unfold Ac
  have e1:(GM t (oO t.2.2.2.2.1 a x).2).2.2.2.2.2.2=t.2.2.2.2.2.2:=rfl
  have e2:(GM t (oO t.2.2.2.2.1 a x).2).1=t.1:=rfl
  rw[e1,e2]
  by_cases h1:(oN t.2.2.2.2.2.2 a t.1).1=0
  ·rw[if_pos h1];simp only[xP h1,bz];rfl
  ·rw[if_neg h1];simp only[xQ h1,bn];rfl
 ·rw[if_neg h0]
  simp only[Af h0,bz]
theorem zEw{s:bj}(h:cF s)(e:cw):∃ t,Kc s e=some (t,(tA s e).2,())/\((tA s e).2=0->t=(tA s e).1)/\((tA s e).2≠0->(tA s e).1=s):=by
 unfold Kc tA
 simp only[aW]
 have L4:∀ (s t:bj) (a:Int) (x:aL),(lN s t a x).2≠0->(lN s t a x).1=s:=fun s t a x eW=>by
  unfold lN at eW ⊢
  split at eW
  ·exact absurd rfl eW
  ·rename_i h0;rw[if_neg h0]
 by_cases h0:e.2.2.2.1=0
 ·rw[if_pos h0,xP h0,bz,zD8 _ _ (by have:=h.pr.le;omega)]
  cases ha:GL s.2.2.2.2.2.1 e.2.1.1 with
  | none=>exact⟨s,rfl,fun h=>by simp at h,fun _=>rfl⟩
  | some l=>
   simp only[au]
   have hd:((0:Int) != 0)=false:=rfl
   rw[hd,bn]
   have ht:=h.LY (h.pr.ans ha)
   have hp:=zlt (s:=tv s l) ht e.2.1.1 (e.2.2.2.1,cJ,s.1)
   refine⟨(lN (tv s l) (tv s l) e.2.1.1 (e.2.2.2.1,cJ,s.1)).1,?_,fun hz=>?_,fun hz=>L4 _ _ _ _ hz⟩
   ·refine hp.trans ?_
    unfold lN
    by_cases h0:(oO (tv s l).2.2.2.2.1 e.2.1.1 (e.2.2.2.1,cJ,s.1)).1=0
    ·rw[if_pos h0,if_pos h0]
    ·rw[if_neg h0,if_neg h0]
   ·unfold lN at hz ⊢
    by_cases h0:(oO (tv s l).2.2.2.2.1 e.2.1.1 (e.2.2.2.1,cJ,s.1)).1=0
    ·rw[if_pos h0,if_pos h0]
    ·rw[if_neg h0] at hz;exact absurd hz h0
 ·rw[if_neg h0,xQ h0,bn]
  exact⟨_,zlt h _ _,fun _=>rfl,fun hz=>L4 _ _ _ _ hz⟩
theorem drop_eq{s:bj}(h:cF s)(a:Int):J8 s a=some ((uH s a).1,(uH s a).2,()):=by
 unfold J8 uH
 rw[zkX h.hr h.dC.hl]
 cases hk:gw kH s.2.2.1 a with
 | false=>rfl
 | true=>
  simp only[if_true,au,aW]
  have hd:((0:Int) != 0)=false:=rfl
  rw[hd,bn,Xz _ _ _ (by have:=h.cr.le;omega),au]
  unfold Ac
  have e1:(z6 s (CV s.2.2.1 a)).2.2.2.2.2.2=s.2.2.2.2.2.2:=rfl
  have e2:(z6 s (CV s.2.2.1 a)).1=s.1:=rfl
  rw[e1,e2]
  by_cases h1:(oN s.2.2.2.2.2.2 a s.1).1=0
  ·rw[if_pos h1];simp only[xP h1,bz];rfl
  ·rw[if_neg h1];simp only[xQ h1,bn];rfl
theorem Qr{c:bD}(hc:ja c){s:bj}(h:cF s){e:cw}(he:EvR e):vF c s e=some ((du c s e).1,(du c s e).2.1,(du c s e).2.2,()):=by
 unfold vF du pO
 have dh:s.2.2.2.2.2.2.length<=1000000:=by have:=h.cr.le;omega
 simp only[aW]
 by_cases h0:e.1=0
 ·rw[if_pos h0,xP h0,bz,zEt hc h];rfl
 ·rw[if_neg h0,xQ h0,bn]
  by_cases h1:e.1=1
  ·rw[if_pos h1,beq_iff_eq.2 h1,bz,zDY h.hr h.dC.hl _ he.owner,au]
   unfold OE jB
   simp only[aW]
   by_cases hz:(xN s.2.2.1 e.2.1).1=0
   ·rw[if_pos hz];simp only[xP hz,bz,au,GQ hz,bn];rfl
   ·rw[if_neg hz];simp only[xQ hz,bn,au,Af hz,bz]
  ·rw[if_neg h1,beq_eq_false_iff_ne.2 h1,bn]
   by_cases h2:e.1=2
   ·rw[if_pos h2,beq_iff_eq.2 h2,bz,drop_eq h,au]
    by_cases hz:(uH s e.2.1.1).2=0
    ·simp only[hz];rfl
    ·simp only[Af hz,bz]
     have:(uH s e.2.1.1).1=s:=by
      unfold uH at hz ⊢
      split at hz
      ·exact absurd rfl hz
      ·rename_i hk;rw[if_neg hk]
     rw[this]
   ·rw[if_neg h2,beq_eq_false_iff_ne.2 h2,bn]
    by_cases h3:e.1=3
    ·rw[if_pos h3,beq_iff_eq.2 h3,bz,(zlq h.sw he.block).1,au]
     unfold Fq jB
     simp only[aW]
     by_cases hz:(Ad s e.2.2.1).1=0
     ·rw[if_pos hz];simp only[xP hz,bz,au,GQ hz,bn];rfl
     ·rw[if_neg hz];simp only[xQ hz,bn,au,Af hz,bz]
    ·rw[if_neg h3,beq_eq_false_iff_ne.2 h3,bn]
     by_cases h4:e.1=4
     ·rw[if_pos h4,beq_iff_eq.2 h4,bz,(zlr h.sw _).1,au]
      unfold Fq jB
      simp only[aW]
      by_cases hz:(Ae s e.2.2.1).1=0
      ·rw[if_pos hz];simp only[xP hz,bz,au,GQ hz,bn];rfl
      ·rw[if_neg hz];simp only[xQ hz,bn,au,Af hz,bz]
     ·rw[if_neg h4,beq_eq_false_iff_ne.2 h4,bn]
      by_cases h5:e.1=5
      ·rw[if_pos h5,beq_iff_eq.2 h5,bz]
       obtain⟨t,g1,g2,g3⟩:=zEw h e
       rw[g1,au]
       by_cases hz:(tA s e).2=0
       ·simp only[hz,g2 hz];rfl
       ·simp only[Af hz,bz,g3 hz]
      ·rw[if_neg h5,beq_eq_false_iff_ne.2 h5,bn]
       by_cases h6:e.1=6
       ·rw[if_pos h6,beq_iff_eq.2 h6,bz,zDR _ _ _ dh,au]
        unfold Fs jB
        simp only[aW]
        by_cases hz:(iz s.2.2.2.2.2.2 e.2.1.1 0 1 s.1).1=0
        ·rw[if_pos hz];simp only[xP hz,bz,au,GQ hz,bn];rfl
        ·rw[if_neg hz];simp only[xQ hz,bn,au,Af hz,bz]
       ·rw[if_neg h6,beq_eq_false_iff_ne.2 h6,bn]
        by_cases h7:e.1=7
        ·rw[if_pos h7,beq_iff_eq.2 h7,bz,zDS _ _ _ dh,au]
         unfold Fs jB
         simp only[aW]
         by_cases hz:(iz s.2.2.2.2.2.2 e.2.1.1 0 2 s.1).1=0
         ·rw[if_pos hz];simp only[xP hz,bz,au,GQ hz,bn];rfl
         ·rw[if_neg hz];simp only[xQ hz,bn,au,Af hz,bz]
        ·rw[if_neg h7,beq_eq_false_iff_ne.2 h7,bn]
         rfl
end Go.Tr
