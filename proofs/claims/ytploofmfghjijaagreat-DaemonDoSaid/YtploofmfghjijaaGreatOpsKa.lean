/- A tick's plan, where the configuration is one value: printed by a program out of the texts on sweeps. Searches in rows that rise: holders, and what is known. Cases: what becomes of them, and that rows of them stay right. Holders that are put, sightings, questions: what they answer. How addresses are; questions; a state's parts. Conditions: none but those that each theorem states. -/
import Derived.Test.YtploofmfghjijaaGreatOpsD
import Derived.Test.YtploofmfghjijaaGreatSweepT
import Derived.Test.YtploofmfghjijaaGreatSweepZ
import Derived.Test.YtploofmfghjijaaGreatScriptS
namespace Go.Tr
open Go
set_option linter.unusedVariables false
set_option linter.unusedSimpArgs false
set_option maxRecDepth 100000
set_option maxHeartbeats 4000000
theorem zDG(room t22 t23:Int)(c:bD)(x:List Int)(k:Nat):∀ (m:Nat) (out:List aH) (asks:List Int) (s:aH),k<out.length->out.getD k c8=s->cd s.1.1->0<=s.2.2->s.2.2<=fa s.1->m=lK room s asks->
  asks.length+m<=1000000000000->
  Ox (room,k,t22,t23,c,out,asks,x,())=some (.inl (room,k,t22,t23,c,out.set k (s.1,s.2.1,s.2.2+(m:Int)),asks++xL s m,x,())):=by
 intro m
 induction m with
 | zero=>
  intro out asks s hk hs iy h0 h1 hm hb
  have e1:out.set k (s.1,s.2.1,s.2.2+((0:Nat):Int))=out:=by
   have:(s.1,s.2.1,s.2.2+((0:Nat):Int))=s:=by simp
   rw[this,<-hs,List.getD_eq_getElem?_getD,List.getElem?_eq_getElem hk]
   simp
  rw[e1]
  unfold Ox
  refine dm ?_
  show J1 room k t22 t23 c out asks x=_
  unfold J1
  rw[hs,Gc (b:=(s.1.1,s.1.2)) iy]
  simp only[cc,gX,aW]
  rw[aC (fun _=>hk),aC (fun _=>hk)]
  have hd:(decide ((asks.length:Int)<room)&&decide (s.2.2<fa (s.1.1,s.1.2)))=false:=by
   unfold lK at hm
   rw[<-Bool.not_eq_true,Bool.and_eq_true,decide_eq_true_eq,decide_eq_true_eq]
   intro h
   have:fa (s.1.1,s.1.2)=fa s.1:=rfl
   rw[this] at h
   omega
  rw[hd,bn]
  simp[xL]
 | succ m ih=>
  intro out asks s hk hs iy h0 h1 hm hb
  have cq:fa (s.1.1,s.1.2)=fa s.1:=rfl
  have wD:s.2.2<fa s.1/\(asks.length:Int)<room:=by unfold lK at hm;omega
  have hle:=Pw iy
  have zU:J1 room k t22 t23 c out asks x=some (.inl (room,k,t22,t23,c,out.set k (s.1,s.2.1,s.2.2+1),asks++[s.1.1+s.2.2],x,())):=by
   unfold J1
   rw[hs,Gc (b:=(s.1.1,s.1.2)) iy,zBl (b:=(s.1.1,s.1.2)) iy]
   simp only[cc,gX,aW]
   rw[aC (fun _=>hk),aC (fun _=>hk),cq,decide_eq_true wD.1,decide_eq_true wD.2,if_pos ⟨h0,wD.1⟩]
   simp only[Bool.and_self,bz,au]
   simp only[aC hk]
   have zGI:0<=s.1.1:=iy.1
   rw[aC (by show _*_<=_;simp;omega),bA (by omega) (by omega)]
  have gJ:(out.set k (s.1,s.2.1,s.2.2+1)).getD k c8=(s.1,s.2.1,s.2.2+1):=by
   rw[List.getD_eq_getElem?_getD,List.getElem?_set_self hk];rfl
  have:=ih (out.set k (s.1,s.2.1,s.2.2+1)) (asks++[s.1.1+s.2.2]) _ (by simpa using hk) gJ iy (by show 0<=s.2.2+1;omega) (by show s.2.2+1<=fa s.1;omega)
   (by unfold lK at hm ⊢;simp only[List.length_append,List.length_singleton];omega) (by simp;omega)
  unfold Ox at this ⊢
  rw[iI zU,this,List.set_set]
  have e2:s.2.2+1+(m:Int)=s.2.2+((m+1:Nat):Int):=by omega
  simp only[e2]
  have e3:asks++[s.1.1+s.2.2]++xL (s.1,s.2.1,s.2.2+1) m=asks++xL s (m+1):=by
   unfold xL
   rw[List.append_assoc,List.range_succ_eq_map]
   simp only[List.map_cons,List.map_map,List.singleton_append]
   congr 2
   ·simp
   ·apply List.map_congr_left
    intro i _
    simp only[Function.comp]
    omega
  rw[e3]
theorem zDH(room t22 i:Int)(c:bD)(x asks:List Int)(out:List aH)(hi:0<=i)(wQ:i<(x.length:Int))(ht:t22=(x.length:Int))(hx:x.length<=1000)(hk:gK out (x.getD i.toNat 0))(hI:∀ s∈out,xM s)(ha:asks.length<=1000000):
  Oy room t22 i asks c out x=some (.inl (room,t22,i+1,(gE room c.2.2.2.1 (out,asks) (x.getD i.toNat 0)).2,c,(gE room c.2.2.2.1 (out,asks) (x.getD i.toNat 0)).1,x,())):=by
 unfold Oy
 rw[decide_eq_true (by omega),bz,aC (by omega),aC (by omega),aC (show 0<=x.getD i.toNat 0/\x.getD i.toNat 0<(out.length:Int) from hk)]
 generalize hke:x.getD i.toNat 0=kk at hk ⊢
 have hkl:kk.toNat<out.length:=by have:=hk.1;have:=hk.2;omega
 generalize hs:out.getD kk.toNat c8=s
 have GH:s∈out:=by
  rw[<-hs,List.getD_eq_getElem?_getD,List.getElem?_eq_getElem hkl];exact List.getElem_mem hkl
 have LO:=hI s GH
 have hn:=P8 (room:=room) (asks:=asks) LO
 rw[zDG room t22 i c x kk.toNat (lK room s asks) out asks s hkl hs LO.1 LO.2.1 LO.2.2.1 rfl (by omega)]
 simp only[au,dV]
 have Ea:kk.toNat<(out.set kk.toNat (s.1,s.2.1,s.2.2+(lK room s asks:Int))).length:=by simpa using hkl
 have hg:(out.set kk.toNat (s.1,s.2.1,s.2.2+(lK room s asks:Int))).getD kk.toNat c8=(s.1,s.2.1,s.2.2+(lK room s asks:Int)):=by
  rw[List.getD_eq_getElem?_getD,List.getElem?_set_self hkl];rfl
 simp only[aC Ea,hg]
 rw[Gc (b:=(s.1.1,s.1.2)) LO.1]
 have cq:fa (s.1.1,s.1.2)=fa s.1:=rfl
 simp only[au,cq]
 unfold gE CT
 simp only[hs]
 by_cases hc:fa s.1<=s.2.2+(lK room s asks:Int)
 ·rw[decide_eq_true hc,bz,zky]
  simp only[au,aW]
  rw[if_pos hc,aC (by simpa using hkl),bA (by omega) (by omega)]
  have Xt:(out.set kk.toNat ((s.1.1,s.1.2),s.2.1,(0:Int))).getD kk.toNat c8=(s.1,s.2.1,0):=by
   rw[List.getD_eq_getElem?_getD,List.getElem?_set_self hkl];rfl
  simp only[List.set_set,Xt]
 ·rw[decide_eq_false hc,bn,if_neg hc]
  simp only[aW]
  rw[bA (by omega) (by omega)]
theorem zDI(room:Int)(c:bD):∀ (rest done:List Int) (out:List aH) (asks:List Int),done.length+rest.length<=1000->(∀ k∈rest,gK out k)->(∀ s∈out,xM s)->asks.length+256*rest.length<=1000000->
  Oz (room,((done.length+rest.length:Nat):Int),(done.length:Int),asks,c,out,done++rest,())=
   some (.inl ((rest.foldl (gE room c.2.2.2.1) (out,asks)).1,(rest.foldl (gE room c.2.2.2.1) (out,asks)).2,())):=by
 intro rest
 induction rest with
 | nil=>
  intro done out asks h1 h2 h3 h4
  unfold Oz
  refine dm ?_
  unfold Oy
  rw[decide_eq_false (by simp),bn]
  rfl
 | cons k rest ih=>
  intro done out asks h1 h2 h3 h4
  have hg:(done++k::rest).getD ((done.length:Int)).toNat 0=k:=by rw[Int.toNat_natCast];exact Xl rfl _ _
  have hb:=zDH room ((done.length+(k::rest).length:Nat):Int) (done.length:Int) c (done++k::rest) asks out (by omega) (by simp;omega) (by simp) (by simp at h1 ⊢;omega)
   (by rw[hg];exact h2 k (by simp)) h3 (by omega)
  rw[hg] at hb
  have hst:=zDn (room:=room) (every:=c.2.2.2.1) (p:=(out,asks)) h3 (h2 k (by simp))
  have:=ih (done++[k]) (gE room c.2.2.2.1 (out,asks) k).1 (gE room c.2.2.2.1 (out,asks) k).2 (by simp at h1 ⊢;omega) (fun j hj=>by
   have:=h2 j (by simp[hj])
   unfold gK at this ⊢
   rw[P9];exact this) hst.1 (by have:=hst.2;simp at h4 this ⊢;omega)
  unfold Oz at this ⊢
  rw[iI hb]
  have e1:(((done++[k]).length+rest.length:Nat):Int)=((done.length+(k::rest).length:Nat):Int):=by simp;omega
  have e2:(((done++[k]).length:Nat):Int)=(done.length:Int)+1:=by simp
  have e3:done++[k]++rest=done++k::rest:=by simp
  rw[e1,e2,e3] at this
  rw[this]
  rfl
theorem zDJ{o:List aH}(ho:zT o)(hI:∀ s∈o,xM s)(hl:o.length<20)(c:bD)(now room:Int):
  ∃ D:List Int,D.Perm (mA o now o.length)/\D.Pairwise (vR o)/\zb c o now room=some ((D.foldl (gE room c.2.2.2.1) (o,[])).2,(D.foldl (gE room c.2.2.2.1) (o,[])).1,()):=by
 obtain⟨D,d1,d2,d3⟩:=zDl ho hl now
 refine⟨D,d2,d3,?_⟩
 unfold zb yV clone
 rw[aC (by omega)]
 simp only[au]
 rw[d1]
 simp only[au]
 have zp:D.length<=o.length:=by rw[d2.length_eq];exact Xo _ _ _
 have:=zDI room c D [] o [] (by simp;omega) (fun k hk=>by
  have:=GG (d2.mem_iff.1 hk)
  exact⟨this.1,this.2.1⟩) hI (by simp;omega)
 simp only[List.nil_append,List.length_nil,Nat.zero_add] at this
 have e0:((0:Nat):Int)=0:=rfl
 rw[e0] at this
 rw[this]
 simp
theorem zDK{o:List aH}(h:ik o)(c:bD)(now room:Int):
  ∃ D:List Int,D.Perm (mA o now o.length)/\D.Pairwise (vR o)/\zb c o now room=some ((D.foldl (gE room c.2.2.2.1) (o,[])).2,(D.foldl (gE room c.2.2.2.1) (o,[])).1,())/\
   ik (D.foldl (gE room c.2.2.2.1) (o,[])).1/\(D.foldl (gE room c.2.2.2.1) (o,[])).1.map (·.1)=o.map (·.1):=by
 obtain⟨D,d1,d2,d3⟩:=zDJ h.due (fun s hs=>Xr (h.all s hs)) (by have:=h.len;omega) c now room
 have:=zkO (room:=room) (every:=c.2.2.2.1) D (o,[]) h (fun k hk=>by
  have:=GG (d1.mem_iff.1 hk)
  exact⟨this.1,this.2.1⟩)
 exact⟨D,d1,d2,d3,this.1,this.2⟩
theorem zY{α A S Y:Type}{f:S->Option (S⊕Y)}(xs:List α)(g:A->α->A)(mk:A->Nat->S)(out:A->Y)(P:A->Nat->Prop)
  (hb:∀ k (h:k<xs.length) a,P a k->f (mk a k)=some (.inl (mk (g a xs[k]) (k+1)))) (hP:∀ k (h:k<xs.length) a,P a k->P (g a xs[k]) (k+1)) (he:∀ a,P a xs.length->f (mk a xs.length)=some (.inr (out a))):
  ∀ (m k:Nat) (a:A),k+m=xs.length->P a k->ct f (mk a k)=some (out ((xs.drop k).foldl g a))
 | 0,k,a,hk,hp=>by
  have:k=xs.length:=by omega
  subst this
  rw[List.drop_length,dm (he a hp)];rfl
 | m+1,k,a,hk,hp=>by
  have hkl:k<xs.length:=by omega
  rw[List.drop_eq_getElem_cons hkl,iI (hb k hkl a hp),zY xs g mk out P hb hP he m (k+1) _ (by omega) (hP k hkl a hp)]
  rfl
theorem zkU{S:Type}{f:S->Option (S⊕((Int×Unit)⊕(Int×Unit)))}(St:Nat->Nat->S)(p:Nat->Bool)(n k:Nat)(hk1:∀ i,i<k->p i=false)(hk2:∀ i,k<=i->i<n->p i=true)(hkn:k<=n)
  (hb:∀ i j:Nat,i<j->j<=n->f (St i j)=if p ((i+j) / 2)=true then some (.inl (St i ((i+j) / 2))) else some (.inl (St ((i+j) / 2+1) j))) (he:∀ i:Nat,i<=n->f (St i i)=some (.inr (.inl ((i:Int),())))):
  ∀ (m i j:Nat),j-i<=m->i<=k->k<=j->j<=n->ct f (St i j)=some (.inl ((k:Int),())):=by
 intro m
 induction m with
 | zero=>
  intro i j hm h1 h2 h3
  have:i=k:=by omega
  have:j=k:=by omega
  subst this
  subst this
  exact dm (he _ h3)
 | succ m ih=>
  intro i j hm h1 h2 h3
  by_cases nM:i=j
  ·subst nM
   have:i=k:=by omega
   subst this
   exact dm (he _ h3)
  ·have hlt:i<j:=by omega
   have h4:=hb i j hlt h3
   by_cases hp:p ((i+j) / 2)=true
   ·rw[if_pos hp] at h4
    have:¬ (i+j) / 2<k:=fun h=>by rw[hk1 _ h] at hp;simp at hp
    rw[iI h4]
    exact ih _ _ (by omega) h1 (by omega) (by omega)
   ·rw[if_neg hp] at h4
    have:(i+j) / 2<k:=by
     rcases Nat.lt_or_ge ((i+j) / 2) k with h | h
     ·exact h
     ·exact absurd (hk2 _ h (by omega)) hp
    rw[iI h4]
    exact ih _ _ (by omega) (by omega) h2 h3
def gh{α:Type}(key:α->Int)(l:List α):Prop:=l.Pairwise fun x y=>key x<key y
def cY{α:Type}(key:α->Int)(l:List α)(a:Int):Nat:=(l.takeWhile fun x=>decide (key x<a)).length
def gw{α:Type}(key:α->Int)(l:List α)(a:Int):Bool:=l.any fun x=>key x==a
theorem uD{α:Type}(key:α->Int)(l:List α)(a:Int):cY key l a<=l.length:=(List.takeWhile_sublist _).length_le
theorem CU{α:Type}{key:α->Int}:∀ {l:List α} {a:Int} {i:Nat} (h:i<cY key l a) (hi:i<l.length),key l[i]<a
 | [],a,i,h,hi=>by simp at hi
 | x::l,a,i,h,hi=>by
  unfold cY at h
  rw[List.takeWhile_cons] at h
  split at h
  ·rename_i hx
   cases i with
   | zero=>simpa using hx
   | succ i=>exact CU (l:=l) (by unfold cY;simpa using h) (by simpa using hi)
  ·simp at h
theorem Qf{α:Type}{key:α->Int}:∀ {l:List α} {a:Int} (h:cY key l a<l.length),a<=key l[cY key l a]
 | [],a,h=>by simp at h
 | x::l,a,h=>by
  by_cases hx:key x<a
  ·have e:cY key (x::l) a=cY key l a+1:=by unfold cY;rw[List.takeWhile_cons,if_pos (by simpa using hx)];rfl
   have:=Qf (key:=key) (l:=l) (a:=a) (by rw[e] at h;simpa using h)
   simp only[e,List.getElem_cons_succ]
   exact this
  ·have e:cY key (x::l) a=0:=by unfold cY;rw[List.takeWhile_cons,if_neg (by simpa using hx)];rfl
   simp only[e,List.getElem_cons_zero]
   omega
theorem gh.lt{α:Type}{key:α->Int}{l:List α}(h:gh key l){i j:Nat}(nM:i<j)(hj:j<l.length):key (l[i]'(by omega))<key l[j]:=List.pairwise_iff_getElem.1 h i j (by omega) hj nM
theorem gh.ge{α:Type}{key:α->Int}{l:List α}(h:gh key l){a:Int}{i:Nat}(hi:cY key l a<=i)(hl:i<l.length):a<=key l[i]:=by
 have h1:=Qf (key:=key) (l:=l) (a:=a) (by omega)
 by_cases e:cY key l a=i
 ·simp only[e] at h1;exact h1
 ·have:=h.lt (i:=cY key l a) (j:=i) (by omega) hl
  omega
theorem gh.has{α:Type}{key:α->Int}{l:List α}(h:gh key l)(a:Int)(z:α):(decide (((cY key l a:Nat):Int)<(l.length:Int))&&(key (l.getD (cY key l a) z)==a))=gw key l a:=by
 have hle:=uD key l a
 by_cases hlt:cY key l a<l.length
 ·rw[decide_eq_true (by omega),fq _ _ _ hlt,Bool.true_and]
  cases hk:gw key l a with
  | true=>
   unfold gw at hk
   obtain⟨x,hx,LP⟩:=List.any_eq_true.1 hk
   obtain⟨i,hi,rfl⟩:=List.getElem_of_mem hx
   have Qg:key l[i]=a:=by simpa using LP
   have:¬ i<cY key l a:=fun h=>by have:=CU (key:=key) h hi;omega
   by_cases e:cY key l a=i
   ·simp only[e];simpa using Qg
   ·have h1:=h.lt (i:=cY key l a) (j:=i) (by omega) hi
    have h2:=Qf (key:=key) hlt
    omega
  | false=>
   unfold gw at hk
   have:=List.any_eq_false.1 hk l[cY key l a] (List.getElem_mem hlt)
   simpa using this
 ·rw[decide_eq_false (by omega),Bool.false_and]
  cases hk:gw key l a with
  | false=>rfl
  | true=>
   unfold gw at hk
   obtain⟨x,hx,LP⟩:=List.any_eq_true.1 hk
   obtain⟨i,hi,rfl⟩:=List.getElem_of_mem hx
   have Qg:key l[i]=a:=by simpa using LP
   have:=CU (key:=key) (l:=l) (a:=a) (i:=i) (by omega) hi
   omega
theorem gh.at{α:Type}{key:α->Int}{l:List α}(h:gh key l){a:Int}(hk:gw key l a=true):∃ hl:cY key l a<l.length,key l[cY key l a]=a:=by
 unfold gw at hk
 obtain⟨x,hx,LP⟩:=List.any_eq_true.1 hk
 obtain⟨i,hi,rfl⟩:=List.getElem_of_mem hx
 have Qg:key l[i]=a:=by simpa using LP
 have h0:¬ i<cY key l a:=fun h=>by have:=CU (key:=key) h hi;omega
 by_cases e:cY key l a=i
 ·refine⟨by omega,?_⟩
  simp only[e];exact Qg
 ·have h1:=h.lt (i:=cY key l a) (j:=i) (by omega) hi
  have h2:=Qf (key:=key) (l:=l) (a:=a) (by omega)
  omega
abbrev kH:aX->Int:=fun h=>h.1
abbrev kK:ep->Int:=fun k=>k.1
theorem zkV{i j:Nat}(h:i<j)(hj:j<=1000000):IntKind.i64.wrap (rZ IntKind.u64 (IntKind.u64.wrap (IntKind.i64.wrap ((i:Int)+(j:Int)))) 1)=(((i+j) / 2:Nat):Int):=by
 have e1:(1:Int)=((1:Nat):Int):=rfl
 rw[bA (n:=(i:Int)+(j:Int)) (by omega) (by omega),zpL (by omega) (by omega),e1,SU 1 (by decide),bA (by omega) (by omega)]
 omega
theorem zDL{l:List aX}(h:gh kH l)(hl:l.length<=1000000)(a:Int):JK (l.length:Int) l a=some (((cY kH l a:Nat):Int),()):=by
 unfold JK zb8
 have hs:=zkU (f:=fun s:(List aX)×Int×Int×Int×Unit=>BH s.1 s.2.1 s.2.2.1 s.2.2.2.1) (fun i j:Nat=>(l,a,(i:Int),(j:Int),())) (fun i=>decide ((l.getD i fC).1>=a)) l.length (cY kH l a)
  (fun i hi=>by
   have dD:i<l.length:=Nat.lt_of_lt_of_le hi (uD _ _ _)
   rw[fq _ _ _ dD]
   have:=CU (key:=kH) hi dD
   exact decide_eq_false (by show ¬ a<=kH l[i];omega))
  (fun i hi dD=>by
   rw[fq _ _ _ dD]
   exact decide_eq_true (h.ge hi dD)) (uD _ _ _)
  (fun i j nM hj=>by
   show BH l a (i:Int) (j:Int)=_
   unfold BH
   rw[decide_eq_true (by omega),bz]
   simp only[aW]
   rw[aC (by decide),zkV nM (by omega)]
   unfold Oe
   rw[aC (by omega)]
   simp only[aW,fi,fT,au]
   rw[bA (n:=_+1) (by omega) (by omega)]
   cases decide ((l.getD ((i+j) / 2) fC).1>=a)<;>rfl)
  (fun i hi=>by
   show BH l a (i:Int) (i:Int)=_
   unfold BH
   rw[decide_eq_false (by omega)];rfl) l.length 0 l.length (by omega) (Nat.zero_le _) (uD _ _ _) (Nat.le_refl _)
 have gJ:ct (fun s:(List aX)×Int×Int×Int×Unit=>BH s.1 s.2.1 s.2.2.1 s.2.2.2.1) (l,a,(0:Int),(l.length:Int),())=_:=hs
 rw[gJ];rfl
theorem Xv{l:List aX}(h:gh kH l)(hl:l.length<=1000000)(a:Int):BI l a=some (((cY kH l a:Nat):Int),gw kH l a,()):=by
 unfold BI
 rw[zDL h hl]
 have hh:=h.has a fC
 simp only[au,cc,aW,fi,fT]
 rw[aC (fun hd=>by have:=of_decide_eq_true hd;omega)]
 simp only[kH] at hh ⊢
 rw[hh]
theorem zDM{l:List ep}(h:gh kK l)(hl:l.length<=1000000)(a:Int):JL (l.length:Int) l a=some (((cY kK l a:Nat):Int),()):=by
 unfold JL zca
 have hs:=zkU (f:=fun s:(List ep)×Int×Int×Int×Unit=>BJ s.1 s.2.1 s.2.2.1 s.2.2.2.1) (fun i j:Nat=>(l,a,(i:Int),(j:Int),())) (fun i=>decide ((l.getD i (0,[])).1>=a)) l.length (cY kK l a)
  (fun i hi=>by
   have dD:i<l.length:=Nat.lt_of_lt_of_le hi (uD _ _ _)
   rw[fq _ _ _ dD]
   have:=CU (key:=kK) hi dD
   exact decide_eq_false (by show ¬ a<=kK l[i];omega))
  (fun i hi dD=>by
   rw[fq _ _ _ dD]
   exact decide_eq_true (h.ge hi dD)) (uD _ _ _)
  (fun i j nM hj=>by
   show BJ l a (i:Int) (j:Int)=_
   unfold BJ
   rw[decide_eq_true (by omega),bz]
   simp only[aW]
   rw[aC (by decide),zkV nM (by omega)]
   unfold Of
   rw[aC (by omega)]
   simp only[aW,fi,fT,au]
   rw[bA (n:=_+1) (by omega) (by omega)]
   cases decide ((l.getD ((i+j) / 2) (0,[])).1>=a)<;>rfl)
  (fun i hi=>by
   show BJ l a (i:Int) (i:Int)=_
   unfold BJ
   rw[decide_eq_false (by omega)];rfl) l.length 0 l.length (by omega) (Nat.zero_le _) (uD _ _ _) (Nat.le_refl _)
 have gJ:ct (fun s:(List ep)×Int×Int×Int×Unit=>BJ s.1 s.2.1 s.2.2.1 s.2.2.2.1) (l,a,(0:Int),(l.length:Int),())=_:=hs
 rw[gJ];rfl
theorem Xw{l:List ep}(h:gh kK l)(hl:l.length<=1000000)(a:Int):BK l a=some (((cY kK l a:Nat):Int),gw kK l a,()):=by
 unfold BK
 rw[zDM h hl]
 have hh:=h.has a ((0,[]):ep)
 simp only[au,cc,aW,fi,fT]
 rw[aC (fun hd=>by have:=of_decide_eq_true hd;omega)]
 simp only[kK] at hh ⊢
 rw[hh]
def LQ(l:List aX)(a:Int):Option aX:=if gw kH l a=true then some (l.getD (cY kH l a) fC) else none
theorem zkW{l:List aX}(h:gh kH l)(hl:l.length<=1000000)(a:Int):E9 l a=some ((LQ l a).getD fC,gw kH l a,()):=by
 unfold E9 LQ
 rw[Xv h hl,au]
 cases hk:gw kH l a with
 | false=>rfl
 | true=>
  obtain⟨h1,h2⟩:=h.at hk
  simp only[bz,if_true]
  rw[aC (by omega)]
  simp only[aW,fi,fT]
  rfl
theorem GK{α:Type}(l:List α)(i:Nat):cE i l.length l=l.drop i:=by
 unfold cE
 rw[List.take_of_length_le (by simp)]
theorem Qh{α:Type}(l:List α)(i:Nat):cE 0 i l=l.take i:=by
 unfold cE
 simp
def CV(l:List aX)(a:Int):List aX:=l.take (cY kH l a)++l.drop (cY kH l a+1)
theorem zkX{l:List aX}(h:gh kH l)(hl:l.length<=1000000)(a:Int):Fg l a=some (if gw kH l a=true then (0,CV l a,()) else (7,[],())):=by
 unfold Fg
 rw[Xv h hl,au]
 cases hk:gw kH l a with
 | false=>rfl
 | true=>
  obtain⟨h1,h2⟩:=h.at hk
  simp only[Bool.not_true,bn,if_true,aW,Int.toNat_natCast]
  rw[bA (by omega) (by omega)]
  have e1:(((cY kH l a:Nat):Int)+1).toNat=cY kH l a+1:=by omega
  rw[e1,Qh,GK,aC (by omega),aC (by show _*_<=_;simp;omega),aC (by omega),aC (by show _*_<=_;simp;omega)]
  rfl
def vS(now t:Int):Int:=fD now-fD t
def qB(now t n:Int):Bool:=decide (0<=vS now t)&&decide (vS now t<n)
theorem Xx(now t:Int):za now t=some (vS now t,()):=by
 have h1:=CS now
 have h2:=CS t
 unfold za vS
 rw[oL,oL]
 simp only[au,aW]
 rw[bA (by omega) (by omega)]
theorem LR(now t n:Int):vE now t n=some (qB now t n,()):=by
 unfold vE qB
 rw[Xx]
 simp only[au,cc,aW,gX]
theorem CW{n:Int}(h0:0<=n)(h1:n<=1099511627776):fD n=n:=by unfold fD;split<;>(try split)<;>omega
def Qi(f:bD)(now:Int)(c:cD):Bool:=eN c||(c.2.2.2==2&&qB now c.2.2.1 f.2.2.2.2.2.2.2.2)
def j9(f:bD)(now:Int)(c:cD):cD:=if c.2.2.2=0/\f.2.2.2.2.2.2.2.1<=vS now c.2.1 then (c.1,c.2.1,fD now,3) else c
theorem Xy{α:Type}{l m:List α}{k:Nat}(h:k=l.length)(x y:α):(l++x::m).set k y=l++y::m:=by subst h;simp
theorem zkY{α:Type}{l m:List α}{k:Nat}(h:k=l.length)(x z:α):(l++x::m).getD k z=x:=by subst h;simp
theorem zDN(f:bD)(cs:List cD)(now:Int)(hl:cs.length<=1000000):JJ f cs now=some (cs.map (j9 f now),()):=by
 unfold JJ yZ clone
 rw[aC (by omega),au]
 have hb:∀ k,0<=k->k<cs.length->BG now (cs.length:Int) (k:Int) f ((cs.take k).map (j9 f now)++cs.drop k)=some (.inl (now,(cs.length:Int),((k+1:Nat):Int),f,(cs.take (k+1)).map (j9 f now)++cs.drop (k+1),())):=by
  intro k _ hk
  have hd:cs.drop k=cs[k]::cs.drop (k+1):=List.drop_eq_getElem_cons hk
  have hlen:((cs.take k).map (j9 f now)).length=k:=by simp;omega
  have htk:(cs.take (k+1)).map (j9 f now)=(cs.take k).map (j9 f now)++[j9 f now cs[k]]:=by
   rw[List.take_succ_eq_append_getElem hk,List.map_append];rfl
  have NG:((cs.take k).map (j9 f now)++cs.drop k).length=cs.length:=by simp;omega
  unfold BG
  rw[decide_eq_true (by omega),bz,aC (by omega),aC (by omega),Int.toNat_natCast,Xx]
  simp only[aW,cc,gX]
  rw[hd] at NG ⊢
  rw[zkY hlen.symm,htk]
  rw[bA (by omega) (by omega)]
  by_cases hc:cs[k].2.2.2=0/\f.2.2.2.2.2.2.2.1<=vS now cs[k].2.1
  ·have e1:(cs[k].2.2.2==(0:Int)&&decide (vS now cs[k].2.1>=f.2.2.2.2.2.2.2.1))=true:=by simp[hc.1,hc.2]
   rw[e1,bz,oL,au,aC (by omega),aC (by omega),aC (by rw[List.length_set];omega),aC (by rw[List.length_set];omega)]
   rw[Xy hlen.symm,Xy hlen.symm,zkY hlen.symm]
   unfold j9
   rw[if_pos hc]
   simp
  ·have e1:(cs[k].2.2.2==(0:Int)&&decide (vS now cs[k].2.1>=f.2.2.2.2.2.2.2.1))=false:=by
    rw[<-Bool.not_eq_true,Bool.and_eq_true,decide_eq_true_eq,beq_iff_eq]
    exact hc
   rw[e1,bn]
   unfold j9
   rw[if_neg hc]
   simp
 have hN:BG now (cs.length:Int) (cs.length:Int) f ((cs.take cs.length).map (j9 f now)++cs.drop cs.length)=some (.inr (.inl (cs.map (j9 f now),()))):=by
  unfold BG
  rw[decide_eq_false (by omega),bn];simp
 have h0:Ub (now,(cs.length:Int),0,f,cs,())=some (.inl (cs.map (j9 f now),())):=by
  unfold Ub
  have:=jL (f:=fun s:Int×Int×Int×bD×(List cD)×Unit=>BG s.1 s.2.1 s.2.2.1 s.2.2.2.1 s.2.2.2.2.1) (n:=cs.length) (fun k:Nat=>(now,(cs.length:Int),(k:Int),f,(cs.take k).map (j9 f now)++cs.drop k,())) (Nat.zero_le _) hb
  simp only[List.take_zero,List.map_nil,List.drop_zero,List.nil_append] at this
  have WE:ct (fun s:Int×Int×Int×bD×(List cD)×Unit=>BG s.1 s.2.1 s.2.2.1 s.2.2.2.1 s.2.2.2.2.1) (now,(cs.length:Int),(0:Int),f,cs,())=_:=this
  rw[WE]
  exact dm hN
 rw[h0];rfl
def uE(c:cD)(e8 now:Int):cD:=(c.1,c.2.1,if e8=0\/e8=1 then c.2.2.1 else fD now,e8)
def iz(cs:List cD)(a ov e8 now:Int):Int×List cD:=
 if dU cs a<0 then (7,[]) else if (cs.getD (dU cs a).toNat ff).2.2.2=ov then (0,cs.set (dU cs a).toNat (uE (cs.getD (dU cs a).toNat ff) e8 now)) else (8,[])
theorem LU{cs:List cD}{a:Int}(h:¬ dU cs a<0):(dU cs a).toNat<cs.length/\dU cs a=(((dU cs a).toNat:Nat):Int)/\(cs.getD (dU cs a).toNat ff).1=a/\eN (cs.getD (dU cs a).toNat ff)=true:=by
 unfold dU at h ⊢
 obtain⟨j,hj,h1,h2,_⟩:=LN (p:=fun c:cD=>c.1==a&&eN c) (l:=cs) (k:=0) (by omega)
 rw[Nat.zero_add] at h1
 simp only[Bool.and_eq_true,beq_iff_eq] at h2
 rw[h1,Int.toNat_natCast,fq _ _ _ hj]
 exact⟨hj,rfl,h2.1,h2.2⟩
theorem Qj(cs:List cD)(a ov e8 now:Int)(hl:cs.length<=1000000):cases_next cs a ov e8 now=some ((iz cs a ov e8 now).1,(iz cs a ov e8 now).2,()):=by
 unfold cases_next iz
 rw[find_eq _ _ (by omega)]
 simp only[au]
 by_cases h:dU cs a<0
 ·rw[decide_eq_true h,if_pos h];rfl
 ·obtain⟨h1,h2,h3,h4⟩:=LU h
  rw[decide_eq_false h,if_neg h,bn,aC (by omega)]
  have hg:Option.rec (motive:=fun _=>cD) ff (fun v=>v) cs[(dU cs a).toNat]? =cs.getD (dU cs a).toNat ff:=by rw[fi,List.getD_eq_getElem?_getD]
  simp only[aW]
  rw[hg]
  by_cases h5:(cs.getD (dU cs a).toNat ff).2.2.2=ov
  ·have e1:((cs.getD (dU cs a).toNat ff).2.2.2 != ov)=false:=by rw[h5];exact bne_self_eq_false _
   rw[e1,if_pos h5,bn]
   unfold yZ clone
   rw[aC (by omega),au]
   simp only[List.length_set]
   rw[aC (by omega),aC h1,aC (by omega),aC h1,PW,au]
   have hgs:∀ x:cD,(cs.set (dU cs a).toNat x).getD (dU cs a).toNat ff=x:=fun x=>by
    rw[List.getD_eq_getElem?_getD,List.getElem?_set_self h1];rfl
   rw[hgs]
   by_cases h6:e8=0\/e8=1
   ·have e2:eN ((cs.getD (dU cs a).toNat ff).1,(cs.getD (dU cs a).toNat ff).2.1,(cs.getD (dU cs a).toNat ff).2.2.1,e8)=true:=by
     unfold eN;rcases h6 with h6 | h6<;>simp[h6]
    rw[e2]
    unfold uE
    rw[if_pos h6]
    rfl
   ·have e2:eN ((cs.getD (dU cs a).toNat ff).1,(cs.getD (dU cs a).toNat ff).2.1,(cs.getD (dU cs a).toNat ff).2.2.1,e8)=false:=by
     unfold eN
     simp only[Bool.or_eq_false_iff,beq_eq_false_iff_ne]
     exact⟨fun h=>h6 (.inl h),fun h=>h6 (.inr h)⟩
    rw[e2]
    simp only[Bool.not_false,bz,oL,au]
    rw[aC (by omega),aC h1,List.set_set]
    unfold uE
    rw[if_neg h6]
  ·have e1:((cs.getD (dU cs a).toNat ff).2.2.2 != ov)=true:=bne_iff_ne.2 h5
   rw[e1,if_neg h5];rfl
def oN(cs:List cD)(a now:Int):Int×List cD:=
 if dU cs a<0 then (7,[]) else (0,cs.set (dU cs a).toNat (uE (cs.getD (dU cs a).toNat ff) 4 now))
theorem Xz(cs:List cD)(a now:Int)(hl:cs.length<=1000000):xe cs a now=some ((oN cs a now).1,(oN cs a now).2,()):=by
 unfold xe oN
 rw[find_eq _ _ (by omega)]
 simp only[au]
 by_cases h:dU cs a<0
 ·rw[decide_eq_true h,if_pos h];rfl
 ·obtain⟨h1,h2,h3,h4⟩:=LU h
  rw[decide_eq_false h,if_neg h,bn,aC (by omega)]
  have hg:Option.rec (motive:=fun _=>cD) ff (fun v=>v) cs[(dU cs a).toNat]? =cs.getD (dU cs a).toNat ff:=by rw[fi,List.getD_eq_getElem?_getD]
  simp only[aW]
  rw[hg,Qj _ _ _ _ _ hl,au]
  unfold iz
  rw[if_neg h,if_pos rfl]
theorem zDQ(cs:List cD)(a now:Int)(hl:cs.length<=1000000):JQ cs a now=some ((iz cs a 1 5 now).1,(iz cs a 1 5 now).2,()):=by
 unfold JQ;rw[Qj _ _ _ _ _ hl];rfl
theorem zDR(cs:List cD)(a now:Int)(hl:cs.length<=1000000):Kd cs a now=some ((iz cs a 0 1 now).1,(iz cs a 0 1 now).2,()):=by
 unfold Kd;rw[Qj _ _ _ _ _ hl];rfl
theorem zDS(cs:List cD)(a now:Int)(hl:cs.length<=1000000):Ke cs a now=some ((iz cs a 0 2 now).1,(iz cs a 0 2 now).2,()):=by
 unfold Ke;rw[Qj _ _ _ _ _ hl];rfl
def XA(f:bD)(cs:List cD)(a now:Int):Bool:=cs.any fun c=>(c.1==a&&c.2.2.2==2)&&qB now c.2.2.1 f.2.2.2.2.2.2.2.2
theorem zDT(f:bD)(cs:List cD)(a now:Int)(hl:cs.length<=1000000):JS f cs a now=some (XA f cs a now,()):=by
 unfold JS Ou Ot zci
 have h:=LM (f:=fun s:(List cD)×Int×Int×bD×Int×Int×Unit=>BM s.1 s.2.1 s.2.2.1 s.2.2.2.1 s.2.2.2.2.1 s.2.2.2.2.2.1) (fun k:Nat=>(cs,a,now,f,(cs.length:Int),(k:Int),())) cs
  (fun c=>(c.1==a&&c.2.2.2==2)&&qB now c.2.2.1 f.2.2.2.2.2.2.2.2) (fun k hk=>by
  show BM cs a now f (cs.length:Int) (k:Int)=_
  unfold BM Oq
  rw[decide_eq_true (by omega),bz,aC (by omega)]
  simp only[aW,fi,fT,fq cs k _ hk,LR,cc,gX,au,oi]
  rw[bA (by omega) (by omega)];rfl) (by
  show BM cs a now f (cs.length:Int) (cs.length:Int)=_
  unfold BM
  rw[decide_eq_false (by omega)];rfl) cs.length 0 (by omega)
 rw[List.drop_zero] at h
 have h':ct (fun s:(List cD)×Int×Int×bD×Int×Int×Unit=>BM s.1 s.2.1 s.2.2.1 s.2.2.2.1 s.2.2.2.2.1 s.2.2.2.2.2.1) (cs,a,now,f,(cs.length:Int),(0:Int),())=_:=h
 rw[h',au,Qd,au,PV]
 rfl
def gd(f:bD)(cs:List cD)(now:Int):Nat->Int
 | 0=>-1
 | k+1=>if Qi f now (cs.getD k ff)=true then gd f cs now k else if gd f cs now k<0\/(cs.getD k ff).2.2.1<(cs.getD (gd f cs now k).toNat ff).2.2.1 then (k:Int) else gd f cs now k
theorem Qk(f:bD)(cs:List cD)(now:Int):∀ k,-1<=gd f cs now k/\gd f cs now k<(k:Int)
 | 0=>by simp[gd]
 | k+1=>by
  have:=Qk f cs now k
  unfold gd
  split
  ·omega
  ·split<;>omega
theorem zDU(f:bD)(cs:List cD)(now:Int)(hl:cs.length<=1000000):JU f cs now=some (gd f cs now cs.length,()):=by
 unfold JU
 have h0:Up (cs,now,-1,cs,(cs.length:Int),0,f,())=some (.inl (gd f cs now cs.length,())):=by
  unfold Up
  refine (jL (n:=cs.length) (fun k:Nat=>(cs,now,gd f cs now k,cs,(cs.length:Int),(k:Int),f,())) (Nat.zero_le _) fun k _ hk=>?_).trans ?_
  ·show JT cs now (gd f cs now k) cs (cs.length:Int) (k:Int) f=_
   have hs:=Qk f cs now k
   unfold JT
   have hpc:((!decide (gd f cs now k<0))=true->0<=gd f cs now k/\gd f cs now k<(cs.length:Int)):=fun h=>by
    simp only[Bool.not_eq_true',decide_eq_false_iff_not] at h;omega
   rw[decide_eq_true (by omega),bz,aC (by omega)]
   simp only[aW,fi,fT,PW,au,LR,gX,cc,vw,dI,aC hpc]
   rw[bA (by omega) (by omega)]
   have hg:(cs[(gd f cs now k).toNat]?.getD ff)=cs.getD (gd f cs now k).toNat ff:=by rw[List.getD_eq_getElem?_getD]
   rw[hg]
   have hb:(eN (cs.getD k ff)||((cs.getD k ff).2.2.2==2&&qB now (cs.getD k ff).2.2.1 f.2.2.2.2.2.2.2.2))=Qi f now (cs.getD k ff):=rfl
   rw[hb]
   have Ay:gd f cs now (k+1)=if Qi f now (cs.getD k ff)=true then gd f cs now k else if gd f cs now k<0\/(cs.getD k ff).2.2.1<(cs.getD (gd f cs now k).toNat ff).2.2.1 then (k:Int) else gd f cs now k:=rfl
   rw[Ay]
   cases Qi f now (cs.getD k ff) with
   | true=>rfl
   | false=>
    simp only[bn,Bool.false_eq_true,if_false]
    by_cases hc:gd f cs now k<0\/(cs.getD k ff).2.2.1<(cs.getD (gd f cs now k).toNat ff).2.2.1
    ·have e:(decide (gd f cs now k<0)||decide ((cs.getD k ff).2.2.1<(cs.getD (gd f cs now k).toNat ff).2.2.1))=true:=by simpa using hc
     rw[e,if_pos hc];rfl
    ·have e:(decide (gd f cs now k<0)||decide ((cs.getD k ff).2.2.1<(cs.getD (gd f cs now k).toNat ff).2.2.1))=false:=by
      rw[<-Bool.not_eq_true,Bool.or_eq_true,decide_eq_true_eq,decide_eq_true_eq];exact hc
     rw[e,if_neg hc];rfl
  ·refine dm ?_
   show JT cs now (gd f cs now cs.length) cs (cs.length:Int) (cs.length:Int) f=_
   unfold JT
   rw[decide_eq_false (by omega)];rfl
 rw[h0];rfl
def CX(a now:Int):cD:=(a,fD now,0,0)
def tu(f:bD)(cs:List cD)(a now:Int):Int×List cD:=
 if 0<=dU cs a then (6,[]) else if XA f cs a now=true then (8,[]) else if 16<=cs.length then
  (if gd f cs now cs.length<0 then (4,[]) else (0,(cs.take (gd f cs now cs.length).toNat++cs.drop ((gd f cs now cs.length).toNat+1))++[CX a now])) else (0,cs++[CX a now])
theorem zDW(f:bD)(cs:List cD)(a now:Int)(hl:cs.length<=1000000):JV f cs a now=some ((tu f cs a now).1,(tu f cs a now).2,()):=by
 unfold JV tu
 rw[find_eq _ _ (by omega),zDT _ _ _ _ hl]
 simp only[au]
 by_cases h:0<=dU cs a
 ·rw[decide_eq_true (show dU cs a>=0 from h),if_pos h];rfl
 ·rw[decide_eq_false (show ¬ dU cs a>=0 from h),if_neg h,bn]
  cases hq:XA f cs a now with
  | true=>rfl
  | false=>
   simp only[bn,Bool.false_eq_true,if_false]
   unfold yZ clone
   rw[aC (by omega),au]
   by_cases ub:16<=cs.length
   ·rw[decide_eq_true (show (cs.length:Int)>=16 by omega),if_pos ub,bz]
    simp only[zDU _ _ _ hl,au]
    have hs:=Qk f cs now cs.length
    by_cases jY:gd f cs now cs.length<0
    ·rw[decide_eq_true jY,if_pos jY];rfl
    ·rw[decide_eq_false jY,if_neg jY,bn]
     obtain⟨j,hj⟩:=Int.eq_ofNat_of_zero_le (show 0<=gd f cs now cs.length by omega)
     rw[hj] at hs ⊢
     simp only[aW]
     unfold Ov
     rw[Xu cs j (by omega) (by omega),au,oL,au,aC (by show _*_<=_;simp;omega),Int.toNat_natCast]
     rfl
   ·rw[decide_eq_false (show ¬ (cs.length:Int)>=16 by omega),if_neg ub,bn,oL,au,aC (by show _*_<=_;simp;omega)]
    rfl
structure ja(c:bD):Prop where
 fresh:1<=c.1/\c.1<=1000
 old:c.1<=c.2.1/\c.2.1<=10000
 zDX:1<=c.2.2.1/\c.2.2.1<=6
 every:1<=c.2.2.2.1/\c.2.2.2.1<=1000
 XB:1<=c.2.2.2.2.1/\c.2.2.2.2.1<=64
 wait:1<=c.2.2.2.2.2.1/\c.2.2.2.2.2.1<=100
 again:0<=c.2.2.2.2.2.2.1/\c.2.2.2.2.2.2.1<=8
 bK:1<=c.2.2.2.2.2.2.2.1/\c.2.2.2.2.2.2.2.1<=1000
 quiet:0<=c.2.2.2.2.2.2.2.2/\c.2.2.2.2.2.2.2.2<=1000
def zZ{α:Type}(key:α->Int)(l:List α)(x:α):List α:=l.take (cY key l (key x))++[x]++l.drop (cY key l (key x))
def xN(l:List aX)(h:aX):Int×List aX:=if rQ h.2.1=false then (12,[]) else if gw kH l h.1=true then (6,[]) else if 48<=l.length then (4,[]) else (0,zZ kH l h)
theorem zDY{l:List aX}(hr:gh kH l)(hl:l.length<=1000000)(h:aX)(ho:h.2.1.length<=140737488355328):J7 l h=some ((xN l h).1,(xN l h).2,()):=by
 unfold J7 xN
 rw[Xv hr hl,WI ho]
 simp only[au]
 cases rQ h.2.1 with
 | false=>rfl
 | true=>
  simp only[Bool.not_true,bn,Bool.true_eq_false,if_false]
  cases gw kH l h.1 with
  | true=>rfl
  | false=>
   simp only[bn,Bool.false_eq_true,if_false]
   by_cases h48:48<=l.length
   ·rw[decide_eq_true (show (l.length:Int)>=48 by omega),if_pos h48];rfl
   ·rw[decide_eq_false (show ¬ (l.length:Int)>=48 by omega),if_neg h48,bn]
    have hle:=uD kH l h.1
    simp only[Int.toNat_natCast,Qh,GK]
    rw[aC (by omega),aC (by show _*_<=_;simp;omega),aC (by show _*_<=_;simp;omega),aC (by omega),aC (by show _*_<=_;simp;omega)]
    rfl
def vU(l:List ep)(a:Int):List aL:=if gw kK l a=true then (l.getD (cY kK l a) (0,[])).2 else []
theorem zk0{l:List ep}(hr:gh kK l)(hl:l.length<=1000000)(hs:∀ x∈l,x.2.length<=1000000)(a:Int):Fa l a=some (vU l a,()):=by
 unfold Fa vU
 rw[Xw hr hl,au]
 cases hk:gw kK l a with
 | false=>rfl
 | true=>
  obtain⟨h1,h2⟩:=hr.at hk
  simp only[bz,if_true]
  rw[aC (by omega)]
  simp only[aW,fi,fT]
  rw[fq _ _ _ h1,aC (by have:=hs _ (List.getElem_mem h1);show _*_<=_;simp;omega)]
def vV(ss:List aL):Int:=(ss.getD (ss.length-1) ko).2.2
def uF(l:List ep)(a:Int):Int:=if (vU l a).length=0 then 0 else vV (vU l a)
theorem zk1{l:List ep}(hr:gh kK l)(hl:l.length<=1000000)(hs:∀ x∈l,x.2.length<=1000000)(a:Int):Fi l a=some (uF l a,decide ((vU l a).length≠0),()):=by
 unfold Fi uF vU
 rw[Xw hr hl]
 simp only[au,cc,dI,aW,fi,fT,Bool.not_not]
 have hle:=uD kK l a
 cases hk:gw kK l a with
 | false=>
  rw[aC (by simp)]
  simp
 | true=>
  obtain⟨h1,h2⟩:=hr.at hk
  have Lx:0<=((cY kK l a:Nat):Int)/\((cY kK l a:Nat):Int)<(l.length:Int):=by omega
  have PT:true=true->0<=((cY kK l a:Nat):Int)/\((cY kK l a:Nat):Int)<(l.length:Int):=fun _=>Lx
  simp only[aC Lx,aC PT,fq _ _ _ h1,if_true]
  have n5:=hs _ (List.getElem_mem h1)
  by_cases h0:(l[cY kK l a]).2.length=0
  ·rw[if_pos h0]
   simp[h0,aj,h1]
  ·rw[if_neg h0,bA (by omega) (by omega)]
   have e1:(((l[cY kK l a]).2.length:Int)==0)=false:=by simp;intro h;exact h0 (by rw[h];rfl)
   rw[e1]
   have e2:(((l[cY kK l a]).2.length:Int)-1).toNat=(l[cY kK l a]).2.length-1:=by omega
   rw[e2,decide_eq_true h0]
   unfold vV
   rw[List.getD_eq_getElem?_getD]
   simp only[Bool.not_true,Bool.or_self,bn,cc]
   exact (aC (fun _=>Lx) _).trans (aC (by omega) _)
def xO(ss:List aL)(s:aL):List aL:=(ss++[s]).drop (ss.length+1-8)
theorem zDZ(ss:List aL)(s:aL)(hl:ss.length<=1000000):Kb ss s=some (xO ss s,()):=by
 unfold Kb xO
 rw[aC (by show _*_<=_;simp;omega),aC (by show _*_<=_;simp;omega)]
 simp only[aW]
 have hlen:(ss++[s]).length=ss.length+1:=by simp
 rw[hlen,bA (by omega) (by omega)]
 have e:(if ((ss.length+1:Nat):Int)-8>0 then ((ss.length+1:Nat):Int)-8 else 0)=((ss.length+1-8:Nat):Int):=by split<;>omega
 rw[e]
 rw[aC (by omega),aC (by omega)]
 have e2:((ss.length+1-8:Nat):Int).toNat+((((ss.length+1:Nat):Int)).toNat-((ss.length+1-8:Nat):Int).toNat)=(ss++[s]).length:=by rw[hlen];omega
 rw[e2,Int.toNat_natCast,GK]
def oO(l:List ep)(a:Int)(s:aL):Int×List ep:=
 if s.1<0\/4<=s.1 then (12,[]) else if s.2.2<max 0 (uF l a) then (3,[]) else if gw kK l a=false/\96<=l.length then (4,[]) else
  (0,if gw kK l a=true then l.set (cY kK l a) ((l.getD (cY kK l a) (0,[])).1,xO (l.getD (cY kK l a) (0,[])).2 s) else zZ kK l (a,[s]))
theorem zD0{α:Type}(l:List α)(z x:α)(k:Nat)(hk:k<=l.length):
  (bH (k+1) (l.length-k) ((l++[z]).drop k) (l++[z])).set k x=l.take k++[x]++l.drop k:=by
 unfold bH
 have h1:((l++[z]).drop k).take (l.length-k)=l.drop k:=by
  rw[List.drop_append_of_le_length hk,List.take_append_of_le_length (by simp),List.take_of_length_le (by simp)]
 have h2:(l++[z]).drop (k+1+min (l.length-k) ((l++[z]).drop k).length)=[]:=List.drop_eq_nil_of_le (by simp;omega)
 have h3:(l++[z]).take (k+1)=l.take k++[(l++[z])[k]'(by simp;omega)]:=by
  rw[List.take_succ_eq_append_getElem (by simp;omega),List.take_append_of_le_length hk]
 rw[h1,h2,h3,List.append_nil,List.append_assoc,List.singleton_append,Xy (by simp;omega)]
 simp
theorem zD1{l:List ep}(hr:gh kK l)(hl:l.length<=1000000)(hs:∀ x∈l,x.2.length<=1000000)(a:Int)(s:aL):BV l a s=some ((oO l a s).1,(oO l a s).2,()):=by
 unfold BV oO
 rw[Xw hr hl,zk1 hr hl hs]
 simp only[au,cc,dI,aW]
 have hle:=uD kK l a
 by_cases h1:s.1<0\/4<=s.1
 ·have e:(decide (s.1<0)||decide (s.1>=4))=true:=by simpa using h1
  rw[e,if_pos h1];rfl
 ·have e:(decide (s.1<0)||decide (s.1>=4))=false:=by
   rw[<-Bool.not_eq_true,Bool.or_eq_true,decide_eq_true_eq,decide_eq_true_eq];exact h1
  rw[e,if_neg h1,bn]
  have em:(if uF l a>0 then uF l a else 0)=max 0 (uF l a):=by split<;>omega
  rw[em]
  by_cases h2:s.2.2<max 0 (uF l a)
  ·rw[decide_eq_true h2,if_pos h2];rfl
  ·rw[decide_eq_false h2,if_neg h2,bn]
   cases hk:gw kK l a with
   | true=>
    obtain⟨g1,g2⟩:=hr.at hk
    simp only[Bool.not_true,Bool.false_and,bn,Bool.true_eq_false,false_and,if_false,bz,if_true]
    have n5:=hs _ (List.getElem_mem g1)
    rw[aC (by show _*_<=_;simp;omega),aC (by omega),aC (by omega),Int.toNat_natCast,fq _ _ _ g1,zDZ _ _ n5,au,aC (by omega),aC g1]
   | false=>
    simp only[Bool.not_false,Bool.true_and,true_and,Bool.false_eq_true,if_false]
    by_cases h3:96<=l.length
    ·rw[decide_eq_true (show (l.length:Int)>=96 by omega),if_pos h3];rfl
    ·rw[decide_eq_false (show ¬ (l.length:Int)>=96 by omega),if_neg h3,bn]
     have hlen:∀ z:ep,(l++[z]).length=l.length+1:=fun z=>by simp
     simp only[hlen,bn]
     rw[bA (by omega) (by omega)]
     have e1:(((cY kK l a:Nat):Int)+1).toNat=cY kK l a+1:=by omega
     have e2:(((l.length+1:Nat):Int)).toNat-(cY kK l a+1)=l.length-cY kK l a:=by omega
     have e3:cY kK l a+((((l.length+1:Nat):Int)).toNat-cY kK l a)=(l++[((0:Int),([]:List aL))]).length:=by rw[hlen];omega
     simp only[e1,e2,Int.toNat_natCast,e3,GK]
     have dh:=Hz (off:=cY kK l a+1) (len:=l.length-cY kK l a) (ys:=(l++[((0:Int),([]:List aL))]).drop (cY kK l a)) (xs:=l++[((0:Int),([]:List aL))]) (by rw[hlen];omega)
     have e4:cY kK l a+(l.length+1-cY kK l a)=(l++[((0:Int),([]:List aL))]).length:=by rw[hlen];omega
     simp only[e4,GK,Nat.add_sub_add_right]
     rw[aC (by show _*_<=_;simp;omega),aC (by show _*_<=_;simp;omega),aC (by omega),aC (by omega),aC (by rw[hlen];omega),aC (by omega),dh,aC (by rw[hlen];omega),aC (by rw[hlen];omega),zD0 _ _ _ _ hle]
     rfl
def pL(c:bD)(now room:Int)(q:List aM×List aM)(p:aM):List aM×List aM:=
 if vS now p.2.2.2.1<c.2.2.2.2.2.1 then (q.1++[p],q.2) else if c.2.2.2.2.2.2.1<=p.2.2.2.2 then q else
  if (q.2.length:Int)<room then (q.1++[(p.1,p.2.1,p.2.2.1,fD now,p.2.2.2.2+1)],q.2++[(p.1,p.2.1,p.2.2.1,fD now,p.2.2.2.2+1)]) else (q.1++[p],q.2)
def lL(c:bD)(ps:List aM)(now room:Int):List aM×List aM:=ps.foldl (pL c now room) ([],[])
theorem zD2(c:bD)(now room:Int)(q:List aM×List aM)(p:aM):(pL c now room q p).1.length<=q.1.length+1/\(pL c now room q p).2.length<=q.2.length+1:=by
 unfold pL
 split
 ·simp
 ·split
  ·simp
  ·split<;>simp
theorem zD3(c:bD)(hc:ja c)(ps:List aM)(now room:Int)(hl:ps.length<=1000000)(ht:∀ p∈ps,0<=p.2.2.2.2):J0 c ps now room=some ((lL c ps now room).2,(lL c ps now room).1,()):=by
 unfold J0 lL zcu
 have ha:=hc.again
 have h:=zY (f:=fun s:Int×Int×(List aM)×Int×Int×(List aM)×(List aM)×bD×Unit=>BP s.1 s.2.1 s.2.2.1 s.2.2.2.1 s.2.2.2.2.1 s.2.2.2.2.2.1 s.2.2.2.2.2.2.1 s.2.2.2.2.2.2.2.1) ps (pL c now room)
  (fun q k=>(now,room,ps,(ps.length:Int),(k:Int),q.1,q.2,c,())) (fun q=>(.inl (q.1,q.2,()):((List aM)×(List aM)×Unit)⊕((List aM)×(List aM)×Unit))) (fun q k=>q.1.length<=k/\q.2.length<=k) (fun k hk q hp=>by
   show BP now room ps (ps.length:Int) (k:Int) q.1 q.2 c=_
   unfold BP pL
   rw[decide_eq_true (by omega),bz,aC (by omega)]
   simp only[aW,fi,fT]
   have hg:ps.getD k zpU=ps[k]:=fq _ _ _ hk
   rw[hg,Xx,au,bA (by omega) (by omega)]
   by_cases h1:vS now ps[k].2.2.2.1<c.2.2.2.2.2.1
   ·rw[decide_eq_true h1,if_pos h1,bz,aC (by show _*_<=_;simp;omega)];rfl
   ·rw[decide_eq_false h1,if_neg h1,bn]
    by_cases h2:c.2.2.2.2.2.2.1<=ps[k].2.2.2.2
    ·rw[decide_eq_true (show ps[k].2.2.2.2>=c.2.2.2.2.2.2.1 from h2),if_pos h2];rfl
    ·rw[decide_eq_false (show ¬ ps[k].2.2.2.2>=c.2.2.2.2.2.2.1 from h2),if_neg h2,bn]
     by_cases h3:(q.2.length:Int)<room
     ·rw[decide_eq_true h3,if_pos h3,bz,oL,au]
      have zJ:=ht _ (List.getElem_mem hk)
      rw[bA (n:=_+1) (by omega) (by omega),aC (by show _*_<=_;simp;omega),aC (by show _*_<=_;simp;omega)]
      rfl
     ·rw[decide_eq_false h3,if_neg h3,bn,aC (by show _*_<=_;simp;omega)];rfl)
  (fun k hk q hp=>by have:=zD2 c now room q ps[k];omega) (fun q hp=>by
   show BP now room ps (ps.length:Int) (ps.length:Int) q.1 q.2 c=_
   unfold BP
   rw[decide_eq_false (by omega)];rfl) ps.length 0 ([],[]) (by omega) (by simp)
 rw[List.drop_zero] at h
 have h':ct (fun s:Int×Int×(List aM)×Int×Int×(List aM)×(List aM)×bD×Unit=>BP s.1 s.2.1 s.2.2.1 s.2.2.2.1 s.2.2.2.2.1 s.2.2.2.2.2.1 s.2.2.2.2.2.2.1 s.2.2.2.2.2.2.2.1) (now,room,ps,(ps.length:Int),(0:Int),[],[],c,())=_:=h
 rw[h'];rfl
def uG(ps:List aM)(p:aM):Int×List aM:=if (ps.any fun y=>y.1==p.1)=true then (6,[]) else if 16<=ps.length then (4,[]) else (0,ps++[p])
theorem zD4(l:List aM)(x:aM)(hn:l.length<=1000000):J3 l x=some (l.any fun y=>y.1==x.1,()):=by
 unfold J3 OB zcy
 have h:=LM (f:=fun s:(List aM)×aM×Int×Int×Unit=>BQ s.1 s.2.1 s.2.2.1 s.2.2.2.1) (fun k:Nat=>(l,x,(l.length:Int),(k:Int),())) l (fun y=>y.1==x.1) (fun k hk=>by
  show BQ l x (l.length:Int) (k:Int)=_
  unfold BQ OA
  rw[decide_eq_true (by omega),bz,aC (by omega)]
  simp only[aW,fi,fT,fq l k _ hk,au,oi]
  rw[bA (by omega) (by omega)];rfl) (by
  show BQ l x (l.length:Int) (l.length:Int)=_
  unfold BQ
  rw[decide_eq_false (by omega)];rfl) l.length 0 (by omega)
 rw[List.drop_zero] at h
 have h':ct (fun s:(List aM)×aM×Int×Int×Unit=>BQ s.1 s.2.1 s.2.2.1 s.2.2.2.1) (l,x,(l.length:Int),(0:Int),())=_:=h
 rw[h',au,Qd,au,PV]
theorem zD5(l:List aM)(x:aM)(hn:l.length<=1000000):J4 l x=some ((uG l x).1,(uG l x).2,()):=by
 unfold J4 uG
 rw[zD4 _ _ hn,au]
 cases l.any fun y=>y.1==x.1 with
 | true=>rfl
 | false=>
  simp only[bn,Bool.false_eq_true,if_false]
  by_cases ub:16<=l.length
  ·rw[decide_eq_true (show (l.length:Int)>=16 by omega),if_pos ub];rfl
  ·rw[decide_eq_false (show ¬ (l.length:Int)>=16 by omega),if_neg ub,bn]
   unfold Fm clone
   rw[aC (by omega),au,aC (by show _*_<=_;simp;omega)]
def vW(a seq now:Int):aM:=(a,a % 65536,seq % 65536,fD now,0)
theorem zD6{a seq:Int}(ha:cd a)(hs:0<=seq/\seq<=1000000)(now:Int):J2 a seq now=some (vW a seq now,()):=by
 unfold J2 vW
 unfold cd at ha
 rw[IA 16 ha.1 (by decide) (by decide),IA 16 hs.1 (by decide) (by decide)]
 simp only[aW]
 have e:(2:Int) ^ 16=65536:=by decide
 rw[e,qY (by omega) (by omega),bA (by omega) (by omega),bA (by omega) (by omega),oL,au]
def GL(l:List aM)(a:Int):Option (List aM):=
 if (l.any fun y=>y.1==a)=true then some (l.take (iO (fun y:aM=>y.1==a) l 0).toNat++l.drop ((iO (fun y:aM=>y.1==a) l 0).toNat+1)) else none
theorem zD7(l:List aM)(a:Int)(hn:l.length<=1000000):J9 l a=some (iO (fun y:aM=>y.1==a) l 0,()):=by
 unfold J9 zcC
 have h:=LM (f:=fun s:(List aM)×Int×Int×Int×Unit=>BU s.1 s.2.1 s.2.2.1 s.2.2.2.1) (fun k:Nat=>(l,a,(l.length:Int),(k:Int),())) l (fun y=>y.1==a) (fun k hk=>by
  show BU l a (l.length:Int) (k:Int)=_
  unfold BU OF
  rw[decide_eq_true (by omega),bz,aC (by omega)]
  simp only[aW,fi,fT,fq l k _ hk,au,oi]
  rw[bA (by omega) (by omega)];rfl) (by
  show BU l a (l.length:Int) (l.length:Int)=_
  unfold BU
  rw[decide_eq_false (by omega)];rfl) l.length 0 (by omega)
 rw[List.drop_zero] at h
 have h':ct (fun s:(List aM)×Int×Int×Int×Unit=>BU s.1 s.2.1 s.2.2.1 s.2.2.2.1) (l,a,(l.length:Int),(0:Int),())=_:=h
 rw[h',au]
 exact Qd _
def z6(s:bj)(x:List aX):bj:=(s.1,s.2.1,x,s.2.2.2)
def LV(s:bj)(x:List aH):bj:=(s.1,s.2.1,s.2.2.1,x,s.2.2.2.2)
def GM(s:bj)(x:List ep):bj:=(s.1,s.2.1,s.2.2.1,s.2.2.2.1,x,s.2.2.2.2.2)
def tv(s:bj)(x:List aM):bj:=(s.1,s.2.1,s.2.2.1,s.2.2.2.1,s.2.2.2.2.1,x,s.2.2.2.2.2.2)
def z7(s:bj)(x:List cD):bj:=(s.1,s.2.1,s.2.2.1,s.2.2.2.1,s.2.2.2.2.1,s.2.2.2.2.2.1,x)
theorem zD8(s:bj)(a:Int)(hn:s.2.2.2.2.2.1.length<=1000000):Ka s a=some (match GL s.2.2.2.2.2.1 a with
  | some l=>(tv s l,0,())
  | none=>(s,7,())):=by
 unfold Ka GL
 rw[zD7 _ _ hn,au]
 cases ha:s.2.2.2.2.2.1.any fun y=>y.1==a with
 | false=>rw[zkR ha];rfl
 | true=>
  obtain⟨k,hk,h1,h2,_⟩:=LN (CJ (k:=0).2 ha)
  rw[h1,Nat.zero_add,decide_eq_false (by omega),bn]
  unfold Fm clone OG
  rw[aC (by omega),au,aW,Xu _ k hk (by omega),au]
  simp only[if_true,Int.toNat_natCast]
  rfl
def nh(c:bD)(ss:List aL)(now:Int):List aL:=(ss.drop (ss.length-(c.2.2.1.toNat+1))).filter fun s=>qB now s.2.2 c.1
def vX:cH->List aL->Bool
 | _,[]=>false
 | f,s::r=>if s.2.1=cJ then vX f r else if f=cJ then vX s.2.1 r else if f=s.2.1 then vX f r else true
def Ql(h:aX)(ss:List aL):Bool:=ss.any fun s=>(!(s.2.1==cJ)&&!(h.2.2==cJ))&&!(s.2.1==h.2.2)
theorem zk2(c:bD)(hc:ja c)(ss:List aL)(now:Int)(hl:ss.length<=1000000):Fc c ss now=some (nh c ss now,()):=by
 have hn:=hc.zDX
 unfold Fc nh
 have e1:(if c.2.2.1>0 then c.2.2.1 else 0)=c.2.2.1:=if_pos (by omega)
 simp only[aW]
 rw[e1,bA (n:=(ss.length:Int)-c.2.2.1) (by omega) (by omega),bA (by omega) (by omega)]
 have e2:(if (ss.length:Int)-c.2.2.1-1>0 then (ss.length:Int)-c.2.2.1-1 else 0)=((ss.length-(c.2.2.1.toNat+1):Nat):Int):=by split<;>omega
 rw[e2,aC (by omega),Int.toNat_natCast,Int.toNat_natCast,GK]
 generalize hd:ss.drop (ss.length-(c.2.2.1.toNat+1))=l
 have NG:l.length<=1000000:=by rw[<-hd];simp;omega
 have h:=zY (f:=fun s:Int×(List aL)×Int×Int×(List aL)×bD×Unit=>Fb s.1 s.2.1 s.2.2.1 s.2.2.2.1 s.2.2.2.2.1 s.2.2.2.2.2.1) l (fun (o:List aL) s=>if qB now s.2.2 c.1=true then o++[s] else o)
  (fun o k=>(now,l,(l.length:Int),(k:Int),o,c,())) (fun o=>(.inl (o,()):((List aL)×Unit)⊕((List aL)×Unit))) (fun o k=>o.length<=k) (fun k hk o hp=>by
   show Fb now l (l.length:Int) (k:Int) o c=_
   unfold Fb
   rw[decide_eq_true (by omega),bz,aC (by omega)]
   simp only[aW,fi,fT,fq l k _ hk,LR,au]
   rw[bA (by omega) (by omega)]
   cases qB now l[k].2.2 c.1 with
   | true=>simp only[bz,if_true];rw[aC (by show _*_<=_;simp;omega)];rfl
   | false=>rfl)
  (fun k hk o hp=>by split<;>(try rw[List.length_append,List.length_singleton])<;>omega) (fun o hp=>by
   show Fb now l (l.length:Int) (l.length:Int) o c=_
   unfold Fb
   rw[decide_eq_false (by omega)];rfl) l.length 0 [] (by omega) (by simp)
 rw[List.drop_zero] at h
 have h':zcc (now,l,(l.length:Int),(0:Int),[],c,())=_:=h
 rw[h',au,dV]
 have hf:∀ (l o:List aL),l.foldl (fun (o:List aL) s=>if qB now s.2.2 c.1=true then o++[s] else o) o=o++l.filter fun s=>qB now s.2.2 c.1:=by
  intro l
  induction l with
  | nil=>intro o;simp
  | cons x l ih=>
   intro o
   rw[List.foldl_cons,ih,List.filter_cons]
   split<;>simp
 rw[hf];rfl
theorem zk3(ss:List aL)(hl:ss.length<=1000000):Fe ss=some (vX cJ ss,()):=by
 unfold Fe
 have key:∀ (m k:Nat) (f:cH),k+m=ss.length->On (ss,(ss.length:Int),(k:Int),f.1,f.2.1,f.2.2.1,f.2.2.2.1,f.2.2.2.2.1,f.2.2.2.2.2,())=some (if vX f (ss.drop k)=true then .inr (true,()) else .inl ()):=by
  intro m
  induction m with
  | zero=>
   intro k f hk
   unfold On
   rw[List.drop_of_length_le (by omega)]
   refine dm ?_
   show JM ss (ss.length:Int) (k:Int) f.1 f.2.1 f.2.2.1 f.2.2.2.1 f.2.2.2.2.1 f.2.2.2.2.2=_
   unfold JM
   rw[decide_eq_false (by omega)];rfl
  | succ m ih=>
   intro k f hk
   have hkl:k<ss.length:=by omega
   rw[List.drop_eq_getElem_cons hkl]
   have hb:JM ss (ss.length:Int) (k:Int) f.1 f.2.1 f.2.2.1 f.2.2.2.1 f.2.2.2.2.1 f.2.2.2.2.2=if ss[k].2.1=cJ then some (.inl (ss,(ss.length:Int),((k+1:Nat):Int),f.1,f.2.1,f.2.2.1,f.2.2.2.1,f.2.2.2.2.1,f.2.2.2.2.2,())) else if f=cJ then some (.inl (ss,(ss.length:Int),((k+1:Nat):Int),ss[k].2.1.1,ss[k].2.1.2.1,ss[k].2.1.2.2.1,ss[k].2.1.2.2.2.1,ss[k].2.1.2.2.2.2.1,ss[k].2.1.2.2.2.2.2,())) else
     if f=ss[k].2.1 then some (.inl (ss,(ss.length:Int),((k+1:Nat):Int),f.1,f.2.1,f.2.2.1,f.2.2.2.1,f.2.2.2.2.1,f.2.2.2.2.2,())) else some (.inr (.inr (true,()))):=by
    unfold JM
    rw[decide_eq_true (by omega),bz,aC (by omega)]
    simp only[aW,fi,fT,fq ss k _ hkl,zjj,au,oi]
    rw[bA (by omega) (by omega)]
    have ez:((0,0,0,0,0,0):cH)=cJ:=rfl
    have ee:(f.1==ss[k].2.1.1&&(f.2.1==ss[k].2.1.2.1&&(f.2.2.1==ss[k].2.1.2.2.1&&(f.2.2.2.1==ss[k].2.1.2.2.2.1&&(f.2.2.2.2.1==ss[k].2.1.2.2.2.2.1&&f.2.2.2.2.2==ss[k].2.1.2.2.2.2.2)))))=(f==ss[k].2.1):=rfl
    have ef:(f.1,f.2.1,f.2.2.1,f.2.2.2.1,f.2.2.2.2.1,f.2.2.2.2.2)=f:=rfl
    rw[ee]
    simp only[beq_iff_eq,ef]
    split
    ·rfl
    ·split
     ·rfl
     ·by_cases he:f=ss[k].2.1
      ·simp[he]
      ·simp[he]
   unfold On at ih ⊢
   unfold vX
   by_cases h1:ss[k].2.1=cJ
   ·rw[if_pos h1] at hb
    rw[if_pos h1,iI (s':=(ss,(ss.length:Int),((k+1:Nat):Int),f.1,f.2.1,f.2.2.1,f.2.2.2.1,f.2.2.2.2.1,f.2.2.2.2.2,())) hb,ih (k+1) f (by omega)]
   ·rw[if_neg h1] at hb
    rw[if_neg h1]
    by_cases h2:f=cJ
    ·rw[if_pos h2] at hb
     rw[if_pos h2,iI (s':=(ss,(ss.length:Int),((k+1:Nat):Int),ss[k].2.1.1,ss[k].2.1.2.1,ss[k].2.1.2.2.1,ss[k].2.1.2.2.2.1,ss[k].2.1.2.2.2.2.1,ss[k].2.1.2.2.2.2.2,())) hb,ih (k+1) _ (by omega)]
    ·rw[if_neg h2] at hb
     rw[if_neg h2]
     by_cases h3:f=ss[k].2.1
     ·rw[if_pos h3] at hb
      rw[if_pos h3,iI (s':=(ss,(ss.length:Int),((k+1:Nat):Int),f.1,f.2.1,f.2.2.1,f.2.2.2.1,f.2.2.2.2.1,f.2.2.2.2.2,())) hb,ih (k+1) f (by omega)]
     ·rw[if_neg h3] at hb
      rw[if_neg h3,dm (y:=.inr (true,())) hb]
      rfl
 have h0:=key ss.length 0 cJ (by omega)
 rw[List.drop_zero] at h0
 have e:((0:Nat):Int)=0:=rfl
 rw[e] at h0
 rw[h0]
 cases vX cJ ss<;>rfl
theorem zEa(h:aX)(ss:List aL)(hl:ss.length<=1000000):Ff h ss=some (Ql h ss,()):=by
 unfold Ff Ql
 have key:∀ (m k:Nat),k+m=ss.length->Oo (ss,(ss.length:Int),(k:Int),h.1,h.2.1,h.2.2.1,h.2.2.2.1,h.2.2.2.2.1,h.2.2.2.2.2.1,h.2.2.2.2.2.2.1,h.2.2.2.2.2.2.2,())=some (if ((ss.drop k).any fun s=>(!(s.2.1==cJ)&&!(h.2.2==cJ))&&!(s.2.1==h.2.2))=true then .inr (true,()) else .inl ()):=by
  intro m
  induction m with
  | zero=>
   intro k hk
   unfold Oo
   rw[List.drop_of_length_le (by omega)]
   refine dm ?_
   show JN ss (ss.length:Int) (k:Int) h.1 h.2.1 h.2.2.1 h.2.2.2.1 h.2.2.2.2.1 h.2.2.2.2.2.1 h.2.2.2.2.2.2.1 h.2.2.2.2.2.2.2=_
   unfold JN
   rw[decide_eq_false (by omega)];rfl
  | succ m ih=>
   intro k hk
   have hkl:k<ss.length:=by omega
   rw[List.drop_eq_getElem_cons hkl,List.any_cons]
   have hb:JN ss (ss.length:Int) (k:Int) h.1 h.2.1 h.2.2.1 h.2.2.2.1 h.2.2.2.2.1 h.2.2.2.2.2.1 h.2.2.2.2.2.2.1 h.2.2.2.2.2.2.2=ay ((!(ss[k].2.1==cJ)&&!(h.2.2==cJ))&&!(ss[k].2.1==h.2.2)) (some (.inr (.inr (true,())))) (some (.inl (ss,(ss.length:Int),((k+1:Nat):Int),h.1,h.2.1,h.2.2.1,h.2.2.2.1,h.2.2.2.2.1,h.2.2.2.2.2.1,h.2.2.2.2.2.2.1,h.2.2.2.2.2.2.2,()))):=by
    unfold JN
    rw[decide_eq_true (by omega),bz,aC (by omega)]
    simp only[aW,fi,fT,fq ss k _ hkl,zjj,au,cc,gX]
    rw[bA (by omega) (by omega)];rfl
   unfold Oo at ih ⊢
   cases hv:(!(ss[k].2.1==cJ)&&!(h.2.2==cJ))&&!(ss[k].2.1==h.2.2) with
   | true=>
    rw[hv,bz] at hb
    rw[dm (y:=.inr (true,())) hb]
    rfl
   | false=>
    rw[hv,bn] at hb
    rw[iI (s':=(ss,(ss.length:Int),((k+1:Nat):Int),h.1,h.2.1,h.2.2.1,h.2.2.2.1,h.2.2.2.2.1,h.2.2.2.2.2.1,h.2.2.2.2.2.2.1,h.2.2.2.2.2.2.2,())) hb,ih (k+1) (by omega),Bool.false_or]
 have h0:=key ss.length 0 (by omega)
 rw[List.drop_zero] at h0
 have e:((0:Nat):Int)=0:=rfl
 rw[e] at h0
 rw[h0]
 cases ss.any fun s=>(!(s.2.1==cJ)&&!(h.2.2==cJ))&&!(s.2.1==h.2.2)<;>rfl
def GN(c:bD)(h:Option aX)(ss:List aL)(now:Int):Int:=
 if vX cJ (nh c ss now)=true then 5 else match h with
 | none=>if 0<(nh c ss now).length then 4 else 0
 | some h=>if Ql h (nh c ss now)=true then 4 else if c.2.2.1<=((nh c ss now).length:Int) then 2 else
  if 0<ss.length/\qB now (vV ss) c.2.1=false then 3 else 1
theorem zk4(c:bD)(ss:List aL)(now:Int):(nh c ss now).length<=ss.length:=by
 unfold nh
 exact Nat.le_trans (List.length_filter_le _ _) (by simp)
theorem zEb(c:bD)(hc:ja c)(h:aX)(ss:List aL)(now:Int)(hl:ss.length<=1000000):JO c h ss now=some (GN c (some h) ss now,()):=by
 unfold JO GN
 have hf:=zk4 c ss now
 rw[zk2 c hc ss now hl,au,zk3 _ (by simp only;omega),au]
 cases vX cJ (nh c ss now) with
 | true=>rfl
 | false=>
  simp only[bn,aW,cc,Bool.false_and,Bool.not_false,Bool.true_and,zEa h (nh c ss now) (by omega),gX,Bool.false_eq_true,if_false]
  cases Ql h (nh c ss now) with
  | true=>rfl
  | false=>
   simp only[bn,Bool.false_eq_true,if_false]
   by_cases hn:c.2.2.1<=((nh c ss now).length:Int)
   ·rw[decide_eq_true (show ((nh c ss now).length:Int)>=c.2.2.1 from hn),if_pos hn];rfl
   ·rw[decide_eq_false (show ¬ ((nh c ss now).length:Int)>=c.2.2.1 from hn),if_neg hn,bn]
    by_cases h0:0<ss.length
    ·have e2:((ss.length:Int)-1).toNat=ss.length-1:=by omega
     rw[decide_eq_true (show (ss.length:Int)>0 by omega),bA (by omega) (by omega),aC (fun _=>by omega),LR,e2]
     simp only[fi,gX,Bool.true_and]
     have e3:(ss[ss.length-1]?.getD ko).2.2=vV ss:=by unfold vV;rw[List.getD_eq_getElem?_getD]
     rw[e3]
     cases qB now (vV ss) c.2.1<;>simp[h0]
    ·have h00:ss.length=0:=by omega
     rw[decide_eq_false (show ¬ (ss.length:Int)>0 by omega),aC (by intro h;simp at h)]
     simp[h0,wY]
theorem zEc(c:bD)(hc:ja c)(ss:List aL)(now:Int)(hl:ss.length<=1000000):JP c ss now=some (GN c none ss now,()):=by
 unfold JP GN
 have hf:=zk4 c ss now
 rw[zk2 c hc ss now hl,au,zk3 _ (by simp only;omega),au]
 cases vX cJ (nh c ss now) with
 | true=>rfl
 | false=>
  simp only[bn,aW,cc,Bool.true_and,Bool.not_true,Bool.false_and,wY,Bool.false_eq_true,if_false]
  by_cases h0:0<(nh c ss now).length
  ·rw[decide_eq_true (show ((nh c ss now).length:Int)>0 by omega),if_pos h0];rfl
  ·rw[decide_eq_false (show ¬ ((nh c ss now).length:Int)>0 by omega),if_neg h0,bn]
   simp
end Go.Tr
