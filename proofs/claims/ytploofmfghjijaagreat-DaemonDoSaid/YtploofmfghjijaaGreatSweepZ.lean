/- Rules for loops that look for the first one, and the like. Deed by deed: whom ticks ask, what is taken, what is put. Deed by deed: the law. Conditions: none but those that each theorem states. -/
import Derived.Test.YtploofmfghjijaaGreatSweepT
import Derived.Test.YtploofmfghjijaaGreatRightS
import Derived.Test.YtploofmfghjijaaGreatSweep2D
namespace Go.Tr
open Go
set_option linter.unusedVariables false
set_option linter.unusedSimpArgs false
set_option maxRecDepth 100000
set_option maxHeartbeats 4000000
theorem zkP{room every:Int}:∀ (D:List Int) (p:List aH×List Int),(p.2.length:Int)<=max 0 room->((D.foldl (gE room every) p).2.length:Int)<=max 0 room
 | [],p,h=>h
 | k::D,p,h=>by
  refine zkP D (gE room every p k) ?_
  unfold gE xL lK
  simp only[List.length_append,List.length_map,List.length_range]
  omega
end Go.Tr
namespace Go.Tr
open Go
set_option linter.unusedVariables false
set_option linter.unusedSimpArgs false
theorem LM{α S:Type}{f:S->Option (S⊕(Unit⊕(Int×Unit)))}(St:Nat->S)(l:List α)(p:α->Bool)
  (hb:∀ k (h:k<l.length),f (St k)=if p l[k]=true then some (.inr (.inr ((k:Int),()))) else some (.inl (St (k+1)))) (he:f (St l.length)=some (.inr (.inl ()))):∀ (m k:Nat),k+m=l.length->
  ct f (St k)=some (rT (iO p (l.drop k) k))
 | 0,k,hk=>by
  rw[show k=l.length from by omega,List.drop_length,dm he];rfl
 | m+1,k,hk=>by
  have hkl:k<l.length:=by omega
  rw[List.drop_eq_getElem_cons hkl]
  have h1:=hb k hkl
  by_cases h:p l[k]=true
  ·rw[if_pos h] at h1
   rw[dm h1,CH h]
   unfold rT;rw[if_neg (by omega)]
  ·rw[if_neg h] at h1
   rw[iI h1,LM St l p hb he m (k+1) (by omega),CI h]
theorem Qd(v:Int):(cC (rT v) (fun _=>some ((-1:Int),())) fun r=>some r)=some (v,()):=by
 unfold rT;split
 ·rename_i h;subst h;rfl
 ·rfl
theorem LN{α:Type}{p:α->Bool}:∀ {l:List α} {k:Nat},0<=iO p l k->∃ j,∃ h:j<l.length,iO p l k=((k+j:Nat):Int)/\p l[j]=true/\∀ i (h:i<j),p (l[i]'(by omega))=false
 | [],k,h=>by simp[iO] at h
 | x::l,k,h=>by
  by_cases hx:p x=true
  ·exact⟨0,by simp,by rw[CH hx];simp,hx,fun i h=>by omega⟩
  ·rw[CI hx] at h ⊢
   obtain⟨j,hj,h1,h2,h3⟩:=LN h
   refine⟨j+1,by simp;omega,by rw[h1];omega,by simpa using h2,fun i hi=>?_⟩
   cases i with
   | zero=>simpa using hx
   | succ i=>simpa using h3 i (by omega)
theorem zkQ{α:Type}{p:α->Bool}:∀ {l:List α} {k:Nat},-1<=iO p l k
 | [],k=>by simp[iO]
 | x::l,k=>by
  by_cases hx:p x=true
  ·rw[CH hx];omega
  ·rw[CI hx];exact zkQ
theorem zkR{α:Type}{p:α->Bool}{l:List α}{k:Nat}(h:l.any p=false):iO p l k=-1:=by
 have h1:=zkQ (p:=p) (l:=l) (k:=k)
 have h2:¬ 0<=iO p l k:=by rw[CJ,h];simp
 omega
theorem fq{α:Type}(l:List α)(k:Nat)(z:α)(h:k<l.length):l.getD k z=l[k]:=by
 rw[List.getD_eq_getElem?_getD,List.getElem?_eq_getElem h];rfl
set_option maxRecDepth 100000
set_option maxHeartbeats 4000000
def GJ(b:Int×Int)(s:aH):Bool:=s.1.1==b.1&&s.1.2==b.2
theorem zDE(s:aH)(b:Int×Int):Oc s b=some (GJ b s,()):=rfl
theorem zDF(l:List aH)(b:Int×Int)(hn:l.length<=140737488355328):JI l b=some (iO (GJ b) l 0,()):=by
 unfold JI zb5
 have h:=LM (f:=fun s:(List aH)×(Int×Int)×Int×Int×Unit=>BF s.1 s.2.1 s.2.2.1 s.2.2.2.1) (fun k:Nat=>(l,b,(l.length:Int),(k:Int),())) l (GJ b) (fun k hk=>by
  show BF l b (l.length:Int) (k:Int)=_
  unfold BF
  rw[decide_eq_true (by omega),bz,aC (by omega)]
  simp only[aW,fi,fT,fq l k _ hk,zDE,au,oi]
  rw[bA (by omega) (by omega)];rfl) (by
  show BF l b (l.length:Int) (l.length:Int)=_
  unfold BF
  rw[decide_eq_false (by omega)];rfl) l.length 0 (by omega)
 rw[List.drop_zero] at h
 have h':ct (fun s:(List aH)×(Int×Int)×Int×Int×Unit=>BF s.1 s.2.1 s.2.2.1 s.2.2.2.1) (l,b,(l.length:Int),(0:Int),())=_:=h
 rw[h',au]
 exact Qd _
theorem Xu{α:Type}(l:List α)(k:Nat)(h:k<l.length)(hn:l.length<=140737488355328):EG l (k:Int) (IntKind.i64.wrap ((k:Int)+1))=some (l.take k++l.drop (k+1),()):=by
 unfold EG
 rw[bA (by omega) (by omega),aC (by omega)]
 have e1:((k:Int)).toNat=k:=by omega
 have e2:((k:Int)+1).toNat=k+1:=by omega
 rw[e1,e2]
theorem ik.sub{l m:List aH}(h:ik l)(hs:m.Sublist l):ik m:=⟨Nat.le_trans hs.length_le h.len,fun s hm=>h.all s (hs.mem hm),h.ap.sublist hs⟩
theorem Qe{α:Type}(l:List α)(k:Nat):(l.take k++l.drop (k+1)).Sublist l:=by
 have h:(l.take k++l.drop (k+1)).Sublist (l.take k++l.drop k):=List.Sublist.append (List.Sublist.refl _) (by
  rw[<-List.drop_drop];exact List.drop_sublist _ _)
 rwa [List.take_append_drop] at h
theorem zkS{ss:List aH}(h:ik ss)(b:Int×Int):
  (ss.any (GJ b)=false/\yY ss b=some (7,[],()))\/(ss.any (GJ b)=true/\∃ l,yY ss b=some (0,l,())/\ik l/\l.length+1=ss.length):=by
 have hl:=h.len
 unfold yY
 rw[zDF ss b (by omega),au]
 cases ha:ss.any (GJ b) with
 | false=>
  left
  rw[zkR ha]
  exact⟨rfl,rfl⟩
 | true=>
  right
  obtain⟨k,hk,h1,h2,_⟩:=LN (CJ (k:=0).2 ha)
  rw[h1,Nat.zero_add]
  refine⟨rfl,_,?_,h.sub (Qe ss k),?_⟩
  ·rw[decide_eq_false (by omega),bn]
   unfold yV clone Od
   rw[aC (by omega),au,aW,Xu ss k hk (by omega),au]
  ·rw[List.length_append,List.length_take,List.length_drop];omega
end Go.Tr
