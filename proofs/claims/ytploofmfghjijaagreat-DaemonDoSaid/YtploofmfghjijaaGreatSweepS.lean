/- Which prefixes are due, in which order: a stable sort of their places. The places of those that are due, sorted. Whom a tick asks: the places that are due, one behind the other. A tick's plan: a fold over the places that are due. Conditions: none but those that each theorem states. -/
import Derived.Test.YtploofmfghjijaaGreatSweepD
import Derived.Test.YtploofmfghjijaaGreatRightS
namespace Go.Tr
open Go
set_option linter.unusedVariables false
set_option linter.unusedSimpArgs false
set_option maxRecDepth 100000
set_option maxHeartbeats 4000000
def fY(o:List aH)(k:Int):Int:=(o.getD k.toNat c8).2.1
def zT(o:List aH):Prop:=∀ s∈o,0<=s.2.1/\s.2.1<=2199023255552
def gK(o:List aH)(k:Int):Prop:=0<=k/\k<(o.length:Int)
theorem zku{o:List aH}(h:zT o){k:Int}(hk:gK o k):0<=fY o k/\fY o k<=2199023255552:=by
 unfold fY
 have fB:k.toNat<o.length:=by have:=hk.1;have:=hk.2;omega
 rw[List.getD_eq_getElem?_getD,List.getElem?_eq_getElem fB]
 exact h _ (List.getElem_mem fB)
theorem zC7{o:List aH}(h:zT o){x y:Int}(hx:gK o x)(hy:gK o y):JA x y o=some (fY o x-fY o y,()):=by
 unfold JA
 have a1:=zku h hx
 have a2:=zku h hy
 rw[aC (show 0<=x/\x<(o.length:Int) from hx)]
 simp only[aW,fi]
 rw[aC (show 0<=y/\y<(o.length:Int) from hy)]
 unfold fY at a1 a2 ⊢
 simp only[List.getD_eq_getElem?_getD] at a1 a2 ⊢
 rw[bA (n:=_-_) (by omega) (by omega)]
def vR(o:List aH)(a b:Int):Prop:=fY o a<fY o b\/(fY o a=fY o b/\a<b)
theorem Xl{l m:List Int}{k:Nat}(h:k=l.length)(x z:Int):(l++x::m).getD k z=x:=by subst h;simp
theorem zkv{l m:List Int}{k:Nat}(h:k=l.length)(x y:Int):(l++x::m).set k y=l++y::m:=by subst h;simp
theorem zC8{o:List aH}(ho:zT o)(b i x:Int)(hx:gK o x)(post:List Int):∀ (n:Nat) (A B:List Int),A.length=n->n+B.length+post.length<=1000->(∀ a∈A,gK o a)->(∀ c∈B,fY o x<fY o c)->
  ∃ A' B',JB (0,b,i,(A.length:Int),A++x::(B++post),o,())=some (.inl (0,b,i,A'++x::(B'++post),o,()))/\A'++B'=A++B/\(∀ c∈B',fY o x<fY o c)/\
   (∀ a,A'.getLast? =some a->fY o a<=fY o x):=by
 intro n
 induction n with
 | zero=>
  intro A B hA hs hv hB
  have:A=[]:=List.eq_nil_of_length_eq_zero hA
  subst this
  refine⟨[],B,?_,rfl,hB,by simp⟩
  unfold JB
  refine dm ?_
  unfold N8
  have d:decide (((([]:List Int).length:Nat):Int)>(0:Int))=false:=by simp
  simp only[d,cc]
  simp[aj,aW,wY]
 | succ n ih=>
  intro A B hA hs hv hB
  rcases List.eq_nil_or_concat A with rfl | ⟨A',a,hAe⟩
  ·simp at hA
  rw[List.concat_eq_append] at hAe
  subst hAe
  have P6:A'.length=n:=by simpa using hA
  have hva:gK o a:=hv a (by simp)
  have hl:(A'++[a]).length=n+1:=by simp[P6]
  have hlen:(A'++[a]++x::(B++post)).length=n+1+1+B.length+post.length:=by simp[P6];omega
  have e1:((((A'++[a]).length:Nat):Int)).toNat=(A'++[a]).length:=by omega
  have w1:IntKind.i64.wrap ((((A'++[a]).length:Nat):Int)-1)=(A'.length:Int):=by
   rw[bA (by omega) (by omega),hl,P6];omega
  have g1:(A'++[a]++x::(B++post)).getD (A'++[a]).length (0:Int)=x:=Xl rfl _ _
  have g2:(A'++[a]++x::(B++post)).getD A'.length (0:Int)=a:=by rw[List.append_assoc];exact Xl rfl _ _
  have zU:N8 0 b i ((((A'++[a]).length:Nat):Int)) (A'++[a]++x::(B++post)) o=
    ay (decide (fY o x<fY o a)) (some (.inl (0,b,i,(A'.length:Int),A'++x::(a::B++post),o,()))) (some (.inr (.inl (0,b,i,A'++[a]++x::(B++post),o,())))):=by
   unfold N8
   have d:decide (((((A'++[a]).length:Nat):Int))>(0:Int))=true:=decide_eq_true (by omega)
   simp only[d,cc,aW,w1,e1,g1,Int.toNat_natCast,g2,Bool.true_and]
   rw[aC (by intro _;omega),aC (by intro _;omega),aC (by intro _;omega),aC (by intro _;omega),fW,zC7 ho hx hva]
   simp only[au]
   have dd:decide (fY o x-fY o a<0)=decide (fY o x<fY o a):=by
    by_cases h:fY o x<fY o a
    ·rw[decide_eq_true h,decide_eq_true (by omega)]
    ·rw[decide_eq_false h,decide_eq_false (by omega)]
   rw[dd]
   congr 1
   rw[aC (by omega),aC (by omega),aC (by omega),aC (by omega),aC (by omega),aC (by omega),aC (by rw[List.length_set];omega),aC (by rw[List.length_set];omega)]
   rw[zkv rfl,List.append_assoc,List.singleton_append,zkv rfl]
   simp
  cases hc:decide (fY o x<fY o a) with
  | false=>
   rw[hc,bn] at zU
   refine⟨A'++[a],B,?_,rfl,hB,?_⟩
   ·unfold JB
    exact dm zU
   ·intro a' P7
    simp at P7
    subst P7
    have:=of_decide_eq_false hc
    omega
  | true=>
   rw[hc,bz] at zU
   obtain⟨A2,B2,k1,k2,k3,k4⟩:=ih A' (a::B) P6 (by simp;omega) (fun c hc=>hv c (by simp[hc])) (fun c Xm=>by
    rcases List.mem_cons.1 Xm with rfl | Xm
    ·exact of_decide_eq_true hc
    ·exact hB c Xm)
   refine⟨A2,B2,?_,by rw[k2];simp,k3,k4⟩
   unfold JB at k1 ⊢
   rw[iI zU]
   exact k1
theorem zDc{o:List aH}{a b:Int}(h:vR o a b):fY o a<=fY o b:=by
 rcases h with h | h
 ·omega
 ·omega
theorem zDd{o:List aH}(ho:zT o):∀ (rest S:List Int),S.length+rest.length<=900->(∀ a∈S,gK o a)->(∀ a∈rest,gK o a)->S.Pairwise (vR o)->(∀ s∈S,∀ r∈rest,s<r)->rest.Pairwise (· < ·)->
  ∃ D,JD (0,((S.length+rest.length:Nat):Int),(S.length:Int),S++rest,o,())=some (.inl (D,o,()))/\D.Perm (S++rest)/\D.Pairwise (vR o):=by
 intro rest
 induction rest with
 | nil=>
  intro S hs h1 h2 hp h3 h4
  refine⟨S,?_,by simp,hp⟩
  unfold JD
  refine dm ?_
  unfold JC
  rw[decide_eq_false (by simp),bn]
  simp
 | cons x rest ih=>
  intro S hs h1 h2 hp h3 h4
  have hx:gK o x:=h2 x (by simp)
  simp only[List.length_cons] at hs
  obtain⟨A',B',k1,k2,k3,k4⟩:=zC8 ho ((S.length+(x::rest).length:Nat):Int) (S.length:Int) x hx rest S.length S [] rfl (by simp;omega) h1 (by simp)
  rw[List.append_nil] at k2
  rw[List.nil_append] at k1
  have hlen:(A'++x::B').length=S.length+1:=by rw[<-k2];simp;omega
  have zV:(A'++x::B').Perm (S++[x]):=by
   rw[<-k2]
   exact List.perm_middle.trans (List.perm_append_singleton x (A'++B')).symm
  have zU:JC 0 ((S.length+(x::rest).length:Nat):Int) (S.length:Int) (S++x::rest) o=
    some (.inl (0,(((A'++x::B').length+rest.length:Nat):Int),((A'++x::B').length:Int),(A'++x::B')++rest,o,())):=by
   unfold JC
   rw[decide_eq_true (by simp;omega),bz,k1]
   simp only[au,dV,aW]
   rw[bA (by omega) (by omega)]
   have e1:(((A'++x::B').length+rest.length:Nat):Int)=((S.length+(x::rest).length:Nat):Int):=by rw[hlen];simp;omega
   have e2:(((A'++x::B').length:Nat):Int)=(S.length:Int)+1:=by rw[hlen];rfl
   rw[e1,e2]
   simp
  rw[<-k2] at hp
  obtain⟨pA,pB,pAB⟩:=List.pairwise_append.1 hp
  have hAx:∀ a∈A',vR o a x:=by
   intro a ha
   have hle:fY o a<=fY o x:=by
    rcases List.eq_nil_or_concat A' with hn | ⟨A2,l,hl⟩
    ·rw[hn] at ha;simp at ha
    ·rw[List.concat_eq_append] at hl
     have zDh:=k4 l (by rw[hl];simp)
     rw[hl] at ha pA
     rcases List.mem_append.1 ha with ha | ha
     ·have:=zDc ((List.pairwise_append.1 pA).2.2 a ha l (by simp))
      omega
     ·have:a=l:=by simpa using ha
      subst this;exact zDh
   rcases Int.lt_or_eq_of_le hle with h | h
   ·exact .inl h
   ·exact .inr ⟨h,h3 a (by rw[<-k2];simp[ha]) x (by simp)⟩
  have hpn:(A'++x::B').Pairwise (vR o):=by
   refine List.pairwise_append.2 ⟨pA,List.pairwise_cons.2 ⟨fun c hc=>.inl (k3 c hc),pB⟩,fun a ha c hc=>?_⟩
   rcases List.mem_cons.1 hc with rfl | hc
   ·exact hAx a ha
   ·exact pAB a ha c hc
  have hin:∀ a∈A'++x::B',gK o a:=fun a ha=>by
   have:=zV.mem_iff.1 ha
   rcases List.mem_append.1 this with h | h
   ·exact h1 a h
   ·have:a=x:=by simpa using h
    subst this;exact hx
  obtain⟨D,d1,d2,d3⟩:=ih (A'++x::B') (by omega) hin (fun a ha=>h2 a (by simp[ha])) hpn (fun s gJ r hr=>by
   have:=zV.mem_iff.1 gJ
   rcases List.mem_append.1 this with h | h
   ·exact h3 s h r (by simp[hr])
   ·have:s=x:=by simpa using h
    subst this;exact (List.pairwise_cons.1 h4).1 r hr) (List.pairwise_cons.1 h4).2
  refine⟨D,?_,d2.trans ?_,d3⟩
  ·unfold JD at d1 ⊢
   rw[iI zU]
   exact d1
  ·have:=zV.append_right rest
   simpa using this
theorem zDj{o:List aH}(ho:zT o)(l:List Int)(hl:l.length<20)(hin:∀ a∈l,gK o a)(hp:l.Pairwise (· < ·)):
  ∃ D,JF l o=some (D,o,())/\D.Perm l/\D.Pairwise (vR o):=by
 have hI:∃ D,E7 0 (l.length:Int) l o=some (D,o,())/\D.Perm l/\D.Pairwise (vR o):=by
  unfold E7
  simp only[aW]
  rw[bA (by omega) (by omega)]
  cases l with
  | nil=>
   refine⟨[],?_,by simp,by simp⟩
   unfold JD
   rw[dm (y:=.inl ([],o,()))]
   ·simp
   ·unfold JC
    rw[decide_eq_false (by simp),bn]
  | cons x l=>
   obtain⟨D,d1,d2,d3⟩:=zDd ho l [x] (by simp at hl ⊢;omega) (by simpa using hin x (by simp)) (fun a ha=>hin a (by simp[ha])) (by simp) (fun s hs r hr=>by
    have:s=x:=by simpa using hs
    subst this;exact (List.pairwise_cons.1 hp).1 r hr) (List.pairwise_cons.1 hp).2
   refine⟨D,?_,d2,d3⟩
   have e1:(([x].length+l.length:Nat):Int)=((x::l).length:Int):=by simp;omega
   have e2:(([x].length:Nat):Int)=0+1:=rfl
   rw[e1,e2,List.singleton_append] at d1
   rw[d1]
   simp
 obtain⟨D,d1,d2,d3⟩:=hI
 refine⟨D,?_,d2,d3⟩
 unfold JF Oa
 have b0:T3 ((l.length:Int),20,0,20,l,o,())=some (.inl ((l.length:Int),20,0,l,o,())):=by
  unfold T3
  refine dm ?_
  unfold zbZ
  rw[decide_eq_false (by show ¬ (20:Int)<=(l.length:Int);omega),bn]
 rw[b0]
 simp only[au,dV]
 rw[d1]
 simp only[au]
 have b1:T6 ((l.length:Int),20,D,o,())=some (.inl (D,o,())):=by
  unfold T6
  refine dm ?_
  unfold zb2
  rw[decide_eq_false (by show ¬ (20:Int)<(l.length:Int);omega),bn]
 rw[b1]
 simp
def mA(o:List aH)(now:Int)(k:Nat):List Int:=((List.range k).filter (fun i:Nat=>decide (fY o (i:Int)<=now))).map (fun i:Nat=>(i:Int))
theorem zkx(o:List aH)(now:Int)(k:Nat):mA o now (k+1)=mA o now k++(if fY o (k:Int)<=now then [(k:Int)] else []):=by
 unfold mA
 rw[List.range_succ,List.filter_append,List.map_append]
 congr 1
 by_cases h:fY o (k:Int)<=now<;>simp[h]
theorem GG{o:List aH}{now:Int}{k:Nat}{a:Int}(h:a∈mA o now k):0<=a/\a<(k:Int)/\fY o a<=now:=by
 unfold mA at h
 obtain⟨i,hi,rfl⟩:=List.mem_map.1 h
 obtain⟨h1,h2⟩:=List.mem_filter.1 hi
 have:=List.mem_range.1 h1
 exact⟨by omega,by omega,of_decide_eq_true h2⟩
theorem Xo(o:List aH)(now:Int)(k:Nat):(mA o now k).length<=k:=by
 unfold mA
 rw[List.length_map]
 exact Nat.le_trans (List.length_filter_le _ _) (by simp)
theorem zDk(o:List aH)(now:Int)(k:Nat):(mA o now k).Pairwise (· < ·):=by
 induction k with
 | zero=>simp[mA]
 | succ k ih=>
  rw[zkx]
  refine List.pairwise_append.2 ⟨ih,by split<;>simp,fun a ha b hb=>?_⟩
  have:=GG ha
  split at hb
  ·have:b=(k:Int):=by simpa using hb
   omega
  ·simp at hb
theorem zDl{o:List aH}(ho:zT o)(hl:o.length<20)(now:Int):∃ D,JH o now=some (D,())/\D.Perm (mA o now o.length)/\D.Pairwise (vR o):=by
 have hin:∀ a∈mA o now o.length,gK o a:=fun a ha=>⟨(GG ha).1,(GG ha).2.1⟩
 obtain⟨D,d1,d2,d3⟩:=zDj ho (mA o now o.length) (by have:=Xo o now o.length;omega) hin (zDk _ _ _)
 refine⟨D,?_,d2,d3⟩
 unfold JH
 have WW:T8 (now,o,(o.length:Int),0,[],o,())=some (.inl (o,mA o now o.length,())):=by
  unfold T8
  have h0:((now,o,(o.length:Int),0,[],o,()):Int×(List aH)×Int×Int×(List Int)×(List aH)×Unit)=(fun k:Nat=>(now,o,(o.length:Int),(k:Int),mA o now k,o,())) 0:=rfl
  rw[h0,jL (n:=o.length) (fun k:Nat=>(now,o,(o.length:Int),(k:Int),mA o now k,o,())) (Nat.zero_le _) fun k _ hk=>?_]
  ·refine dm ?_
   show JG now o (o.length:Int) (o.length:Int) (mA o now o.length) o=_
   unfold JG
   rw[decide_eq_false (by omega),bn]
  ·show JG now o (o.length:Int) (k:Int) (mA o now k) o=_
   unfold JG
   rw[decide_eq_true (by omega),bz,aC (by omega)]
   simp only[aW,fi]
   have e:(o[(k:Int).toNat]?.getD c8).2.1=fY o (k:Int):=by unfold fY;rw[List.getD_eq_getElem?_getD]
   rw[e,bA (by omega) (by omega),zkx]
   have hlen:=Xo o now k
   by_cases h:fY o (k:Int)<=now
   ·rw[decide_eq_true h,bz,if_pos h,aC (by show _*_<=_;simp;omega)]
    rfl
   ·rw[decide_eq_false h,bn,if_neg h,List.append_nil]
    rfl
 rw[WW]
 simp only[au,dV]
 rw[d1]
 simp
def tt(t n:Int):Int:=fD (fD t+max (-1099511627776) (min n 1099511627776))
theorem CS(n:Int):0<=fD n/\fD n<=1099511627776:=by unfold fD;split<;>(try split)<;>omega
theorem zky(t n:Int):E8 t n=some (tt t n,()):=by
 unfold E8 tt
 rw[oL]
 simp only[au,aW]
 have h:=CS t
 have e:(if (if (1099511627776:Int)<n then (1099511627776:Int) else n)>(-1099511627776:Int) then if (1099511627776:Int)<n then (1099511627776:Int) else n else (-1099511627776:Int))=max (-1099511627776) (min n 1099511627776):=by
  by_cases h1:(1099511627776:Int)<n
  ·simp only[h1,if_true]
   rw[if_pos (by omega)];omega
  ·simp only[h1,if_false]
   split<;>omega
 rw[e,bA (by omega) (by omega),oL]
 simp
def lK(room:Int)(s:aH)(asks:List Int):Nat:=(min (fa s.1-s.2.2) (room-(asks.length:Int))).toNat
def xL(s:aH)(m:Nat):List Int:=(List.range m).map fun i:Nat=>s.1.1+s.2.2+(i:Int)
def CT(every:Int)(s:aH)(m:Nat):aH:=if fa s.1<=s.2.2+(m:Int) then (s.1,tt s.2.1 every,0) else (s.1,s.2.1,s.2.2+(m:Int))
def gE(room every:Int)(p:List aH×List Int)(k:Int):List aH×List Int:=
 (p.1.set k.toNat (CT every (p.1.getD k.toNat c8) (lK room (p.1.getD k.toNat c8) p.2)),p.2++xL (p.1.getD k.toNat c8) (lK room (p.1.getD k.toNat c8) p.2))
def xM(s:aH):Prop:=cd s.1.1/\0<=s.2.2/\s.2.2<=fa s.1/\fa s.1<=256
theorem P8{room:Int}{s:aH}{asks:List Int}(h:xM s):lK room s asks<=256/\s.2.2+(lK room s asks:Int)<=fa s.1:=by
 obtain⟨h1,h2,h3,h4⟩:=h
 unfold lK
 omega
theorem zDm{every:Int}{s:aH}{m:Nat}(h:xM s)(hm:s.2.2+(m:Int)<=fa s.1):xM (CT every s m):=by
 obtain⟨h1,h2,h3,h4⟩:=h
 unfold CT
 split
 ·exact⟨h1,by simp,by show (0:Int)<=fa s.1;omega,h4⟩
 ·exact⟨h1,by show 0<=s.2.2+(m:Int);omega,hm,h4⟩
theorem zkz{α:Type}{p:α->Prop}{l:List α}{k:Nat}{x:α}(h:∀ y∈l,p y)(hx:p x):∀ y∈l.set k x,p y:=fun y hy=>by
 rcases List.mem_or_eq_of_mem_set hy with h1 | h1
 ·exact h y h1
 ·rw[h1];exact hx
theorem P9(room every:Int)(p:List aH×List Int)(k:Int):(gE room every p k).1.length=p.1.length:=by simp[gE]
theorem zDn{room every:Int}{p:List aH×List Int}{k:Int}(h:∀ s∈p.1,xM s)(hk:gK p.1 k):(∀ s∈(gE room every p k).1,xM s)/\(gE room every p k).2.length<=p.2.length+256:=by
 have hkl:k.toNat<p.1.length:=by have:=hk.1;have:=hk.2;omega
 have GH:p.1.getD k.toNat c8∈p.1:=by
  rw[List.getD_eq_getElem?_getD,List.getElem?_eq_getElem hkl];exact List.getElem_mem hkl
 have hn:=P8 (room:=room) (asks:=p.2) (h _ GH)
 refine⟨zkz h (zDm (h _ GH) hn.2),?_⟩
 simp only[gE,xL,List.length_append,List.length_map,List.length_range]
 omega
end Go.Tr
