/- A state's bytes: what the printed functions come to. A state's bytes, as the law's own text says them. What is read of bytes as a state. What is read of a state's own bytes; the law of any state's bytes. The law of any state's bytes. Conditions: none but those that each theorem states. -/
import Derived.Test.YtploofmfghjijaaGreatRightS
namespace Go.Tr
open Go
set_option linter.unusedVariables false
set_option linter.unusedSimpArgs false
set_option maxRecDepth 100000
set_option maxHeartbeats 4000000
theorem Gw{S Y:Type}(f:S->Option (S⊕Y))(n:Nat)(St:Nat->S)(y:Y)(h:∀ i,i<n->f (St i)=some (.inl (St (i+1))))(he:f (St n)=some (.inr y)):ct f (St 0)=some y:=by
 rw[jL (f:=f) St (a:=0) (n:=n) (by omega) (fun i _ hi=>h i hi),dm he]
def kB(s:aH):List Int:=be s.1.1 4++[s.1.2 % 256]++be s.2.1 8++be s.2.2 2
def lh(x:aL):List Int:=[x.1 % 256]++nR x.2.1++be x.2.2 8
def kC(x:ep):List Int:=be x.1 4++(be (x.2.length:Int) 2++x.2.flatMap lh)
def kD(x:aM):List Int:=be x.1 4++be x.2.2.1 2++be x.2.2.2.1 8++[x.2.2.2.2 % 256]
def mz(c:cD):List Int:=be c.1 4++be c.2.1 8++be c.2.2.1 8++[c.2.2.2 % 256]
def LA(h:aX):Prop:=cd h.1/\h.2.1.length<=1000/\iZ h.2.2
def LB(s:aH):Prop:=cd s.1.1
def Gx(x:aL):Prop:=iZ x.2.1
def LC(x:ep):Prop:=cd x.1/\x.2.length<=1000/\∀ y∈x.2,Gx y
def LF(x:aM):Prop:=cd x.1
def LG(c:cD):Prop:=cd c.1
theorem lj{α:Type}{g:α->List Int}{K:Nat}:∀ {l:List α},(∀ x∈l,(g x).length<=K)->(l.flatMap g).length<=l.length*K
 | [],_=>by simp
 | x::l,h=>by
  have h1:=h x (by simp)
  have h2:=lj (l:=l) fun y hy=>h y (by simp[hy])
  simp only[List.flatMap_cons,List.length_append,List.length_cons]
  rw[Nat.add_mul];omega
theorem Gy{α:Type}{g:α->List Int}{l:List α}{i:Nat}(hi:i<l.length):(l.take (i+1)).flatMap g=(l.take i).flatMap g++g l[i]:=by
 rw[<-List.take_append_getElem hi,List.flatMap_append];simp
theorem Gz{α:Type}{g:α->List Int}{l:List α}(h:∀ x∈l,bN (g x)):bN (l.flatMap g):=by
 intro c hc
 obtain⟨x,hx,hc⟩:=List.mem_flatMap.1 hc
 exact h x hx c hc
theorem zkf(m:cH):(nR m).length=6:=rfl
theorem zkg{h:aX}(hh:LA h):(gP h).length<=20000:=by
 unfold gP;simp only[List.length_append,cU,Cv,List.length_cons,List.length_nil,zkf];have:=hh.2.1;omega
theorem zkh{s:aH}(hh:LB s):(kB s).length<=20000:=by
 unfold kB;simp only[List.length_append,cU,List.length_cons,List.length_nil];omega
theorem zki{s:aL}(hh:Gx s):(lh s).length<=15:=by
 unfold lh;simp only[List.length_append,cU,List.length_cons,List.length_nil,zkf];omega
theorem zkj{s:ep}(hh:LC s):(kC s).length<=20000:=by
 have:=lj (g:=lh) (K:=15) (l:=s.2) fun x hx=>zki (hh.2.2 x hx)
 unfold kC;simp only[List.length_append,cU];have:=hh.2.1;omega
theorem zkk{s:aM}(hh:LF s):(kD s).length<=20000:=by
 unfold kD;simp only[List.length_append,cU,List.length_cons,List.length_nil];omega
theorem zCm{s:cD}(hh:LG s):(mz s).length<=20000:=by
 unfold mz;simp only[List.length_append,cU,List.length_cons,List.length_nil];omega
theorem zCn{h:aX}(hh:LA h)(b:List Int)(hb:b.length<=70000000000000):xc h b=some (b++gP h,()):=
 zjt hh.1 (by have:=hh.2.1;omega) b (by omega)
theorem zCo{s:aH}(hh:LB s)(b:List Int)(hb:b.length<=70000000000000):IN s b=some (b++kB s,()):=by
 unfold IN
 have l4:=cU s.1.1 4
 have l8:=cU s.2.1 8
 rw[WL hh b (by omega)]
 simp only[au]
 rw[Gd _ _ (by simp only[List.length_append,l4,List.length_cons,List.length_nil];omega)]
 simp only[au]
 rw[xx _ _ (by simp only[List.length_append,l4,l8,List.length_cons,List.length_nil];omega)]
 simp[kB]
theorem zCp{s:aL}(hh:Gx s)(b:List Int)(hb:b.length<=70000000000000):IQ s b=some (b++lh s,()):=by
 unfold IQ
 rw[aW,od,aC (by simp only[kj,List.length_cons,List.length_nil];omega),aC (by decide),aC (by simp only[kj,List.length_append,List.length_cons,List.length_nil];omega),
  Gd _ _ (by simp only[List.length_append,List.length_cons,List.length_nil];omega)]
 simp[lh,nR]
theorem zCq{s:aM}(hh:LF s)(b:List Int)(hb:b.length<=70000000000000):IV s b=some (b++kD s,()):=by
 unfold IV
 have l4:=cU s.1 4
 have l2:=cU s.2.2.1 2
 have l8:=cU s.2.2.2.1 8
 rw[zF hh b (by omega)]
 simp only[au]
 rw[xx _ _ (by simp only[List.length_append,l4];omega)]
 simp only[au]
 rw[Gd _ _ (by simp only[List.length_append,l4,l2];omega)]
 simp only[au,aW]
 rw[aC (by simp only[kj,List.length_append,List.length_cons,List.length_nil,l4,l2,l8];omega),od]
 simp[kD]
theorem zCr{s:cD}(hh:LG s)(b:List Int)(hb:b.length<=70000000000000):IX s b=some (b++mz s,()):=by
 unfold IX
 have l4:=cU s.1 4
 have l8:=cU s.2.1 8
 have l9:=cU s.2.2.1 8
 rw[zF hh b (by omega)]
 simp only[au]
 rw[Gd _ _ (by simp only[List.length_append,l4];omega)]
 simp only[au]
 rw[Gd _ _ (by simp only[List.length_append,l4,l8];omega)]
 simp only[au,aW]
 rw[aC (by simp only[kj,List.length_append,List.length_cons,List.length_nil,l4,l8,l9];omega),od]
 simp[mz]
theorem zCt{l:List aX}(hl:∀ x∈l,LA x)(hn:l.length<=1000)(b:List Int)(hb:b.length<=60000000000000):IM l b=some (b++(be (l.length:Int) 2++l.flatMap gP),()):=by
 unfold IM
 rw[xx _ b (by omega)]
 simp only[au]
 have l2:=cU (l.length:Int) 2
 have L:Td (l,(l.length:Int),0,b++be (l.length:Int) 2,())=some (.inl (b++be (l.length:Int) 2++l.flatMap gP,())):=by
  unfold Td
  have:=Gw (fun s:(List aX)×Int×Int×(List Int)×Unit=>EO s.1 s.2.1 s.2.2.1 s.2.2.2.1) l.length (fun i=>(l,(l.length:Int),(i:Int),b++be (l.length:Int) 2++(l.take i).flatMap gP,())) (.inl (b++be (l.length:Int) 2++l.flatMap gP,()))
   (fun i hi=>by
    show EO l (l.length:Int) (i:Int) (b++be (l.length:Int) 2++(l.take i).flatMap gP)=_
    unfold EO
    have hx:LA l[i]:=hl _ (List.getElem_mem hi)
    have hf:=lj (g:=gP) (K:=20000) (l:=l.take i) fun x hx=>zkg (hl x (List.mem_of_mem_take hx))
    have CD:(l.take i).length<=1000:=by rw[List.length_take];omega
    rw[decide_eq_true (by omega),bz,aC (by omega)]
    simp only[aW,fi,fT]
    have hg:l.getD i fC=l[i]:=by rw[List.getD_eq_getElem?_getD,List.getElem?_eq_getElem hi];rfl
    rw[hg,zCn hx _ (by simp only[List.length_append,l2];omega),bA (by omega) (by omega),Gy hi]
    simp only[au,List.append_assoc];rfl)
   (by
    show EO l (l.length:Int) (l.length:Int) (b++be (l.length:Int) 2++(l.take l.length).flatMap gP)=_
    unfold EO
    rw[decide_eq_false (by omega),List.take_length];rfl)
  simpa using this
 rw[L]
 simp
theorem zCu{l:List aH}(hl:∀ x∈l,LB x)(hn:l.length<=1000)(b:List Int)(hb:b.length<=60000000000000):IP l b=some (b++(be (l.length:Int) 2++l.flatMap kB),()):=by
 unfold IP
 rw[xx _ b (by omega)]
 simp only[au]
 have l2:=cU (l.length:Int) 2
 have L:Tf (l,(l.length:Int),0,b++be (l.length:Int) 2,())=some (.inl (b++be (l.length:Int) 2++l.flatMap kB,())):=by
  unfold Tf
  have:=Gw (fun s:(List aH)×Int×Int×(List Int)×Unit=>EP s.1 s.2.1 s.2.2.1 s.2.2.2.1) l.length (fun i=>(l,(l.length:Int),(i:Int),b++be (l.length:Int) 2++(l.take i).flatMap kB,())) (.inl (b++be (l.length:Int) 2++l.flatMap kB,()))
   (fun i hi=>by
    show EP l (l.length:Int) (i:Int) (b++be (l.length:Int) 2++(l.take i).flatMap kB)=_
    unfold EP
    have hx:LB l[i]:=hl _ (List.getElem_mem hi)
    have hf:=lj (g:=kB) (K:=20000) (l:=l.take i) fun x hx=>zkh (hl x (List.mem_of_mem_take hx))
    have CD:(l.take i).length<=1000:=by rw[List.length_take];omega
    rw[decide_eq_true (by omega),bz,aC (by omega)]
    simp only[aW,fi,fT]
    have hg:l.getD i c8=l[i]:=by rw[List.getD_eq_getElem?_getD,List.getElem?_eq_getElem hi];rfl
    rw[hg,zCo hx _ (by simp only[List.length_append,l2];omega),bA (by omega) (by omega),Gy hi]
    simp only[au,List.append_assoc];rfl)
   (by
    show EP l (l.length:Int) (l.length:Int) (b++be (l.length:Int) 2++(l.take l.length).flatMap kB)=_
    unfold EP
    rw[decide_eq_false (by omega),List.take_length];rfl)
  simpa using this
 rw[L]
 simp
theorem zCv{l:List aL}(hl:∀ x∈l,Gx x)(hn:l.length<=1000)(b:List Int)(hb:b.length<=60000000000000):IS l b=some (b++(be (l.length:Int) 2++l.flatMap lh),()):=by
 unfold IS
 rw[xx _ b (by omega)]
 simp only[au]
 have l2:=cU (l.length:Int) 2
 have L:Th (l,(l.length:Int),0,b++be (l.length:Int) 2,())=some (.inl (b++be (l.length:Int) 2++l.flatMap lh,())):=by
  unfold Th
  have:=Gw (fun s:(List aL)×Int×Int×(List Int)×Unit=>ER s.1 s.2.1 s.2.2.1 s.2.2.2.1) l.length (fun i=>(l,(l.length:Int),(i:Int),b++be (l.length:Int) 2++(l.take i).flatMap lh,())) (.inl (b++be (l.length:Int) 2++l.flatMap lh,()))
   (fun i hi=>by
    show ER l (l.length:Int) (i:Int) (b++be (l.length:Int) 2++(l.take i).flatMap lh)=_
    unfold ER
    have hx:Gx l[i]:=hl _ (List.getElem_mem hi)
    have hf:=lj (g:=lh) (K:=15) (l:=l.take i) fun x hx=>zki (hl x (List.mem_of_mem_take hx))
    have CD:(l.take i).length<=1000:=by rw[List.length_take];omega
    rw[decide_eq_true (by omega),bz,aC (by omega)]
    simp only[aW,fi,fT]
    have hg:l.getD i ko=l[i]:=by rw[List.getD_eq_getElem?_getD,List.getElem?_eq_getElem hi];rfl
    rw[hg,zCp hx _ (by simp only[List.length_append,l2];omega),bA (by omega) (by omega),Gy hi]
    simp only[au,List.append_assoc];rfl)
   (by
    show ER l (l.length:Int) (l.length:Int) (b++be (l.length:Int) 2++(l.take l.length).flatMap lh)=_
    unfold ER
    rw[decide_eq_false (by omega),List.take_length];rfl)
  simpa using this
 rw[L]
 simp
theorem zCw{s:ep}(hh:LC s)(b:List Int)(hb:b.length<=50000000000000):IT s b=some (b++kC s,()):=by
 unfold IT
 have l4:=cU s.1 4
 rw[zF hh.1 b (by omega)]
 simp only[au]
 rw[zCv hh.2.2 hh.2.1 _ (by simp only[List.length_append,l4];omega)]
 simp[kC]
theorem zCx{l:List ep}(hl:∀ x∈l,LC x)(hn:l.length<=1000)(b:List Int)(hb:b.length<=40000000000000):IU l b=some (b++(be (l.length:Int) 2++l.flatMap kC),()):=by
 unfold IU
 rw[xx _ b (by omega)]
 simp only[au]
 have l2:=cU (l.length:Int) 2
 have L:Tj (l,(l.length:Int),0,b++be (l.length:Int) 2,())=some (.inl (b++be (l.length:Int) 2++l.flatMap kC,())):=by
  unfold Tj
  have:=Gw (fun s:(List ep)×Int×Int×(List Int)×Unit=>ES s.1 s.2.1 s.2.2.1 s.2.2.2.1) l.length (fun i=>(l,(l.length:Int),(i:Int),b++be (l.length:Int) 2++(l.take i).flatMap kC,())) (.inl (b++be (l.length:Int) 2++l.flatMap kC,()))
   (fun i hi=>by
    show ES l (l.length:Int) (i:Int) (b++be (l.length:Int) 2++(l.take i).flatMap kC)=_
    unfold ES
    have hx:LC l[i]:=hl _ (List.getElem_mem hi)
    have hf:=lj (g:=kC) (K:=20000) (l:=l.take i) fun x hx=>zkj (hl x (List.mem_of_mem_take hx))
    have CD:(l.take i).length<=1000:=by rw[List.length_take];omega
    rw[decide_eq_true (by omega),bz,aC (by omega)]
    simp only[aW,fi,fT]
    have hg:l.getD i ((0:Int),[])=l[i]:=by rw[List.getD_eq_getElem?_getD,List.getElem?_eq_getElem hi];rfl
    rw[hg,zCw hx _ (by simp only[List.length_append,l2];omega),bA (by omega) (by omega),Gy hi]
    simp only[au,List.append_assoc];rfl)
   (by
    show ES l (l.length:Int) (l.length:Int) (b++be (l.length:Int) 2++(l.take l.length).flatMap kC)=_
    unfold ES
    rw[decide_eq_false (by omega),List.take_length];rfl)
  simpa using this
 rw[L]
 simp
theorem zCy{l:List aM}(hl:∀ x∈l,LF x)(hn:l.length<=1000)(b:List Int)(hb:b.length<=60000000000000):IW l b=some (b++(be (l.length:Int) 2++l.flatMap kD),()):=by
 unfold IW
 rw[xx _ b (by omega)]
 simp only[au]
 have l2:=cU (l.length:Int) 2
 have L:Tl (l,(l.length:Int),0,b++be (l.length:Int) 2,())=some (.inl (b++be (l.length:Int) 2++l.flatMap kD,())):=by
  unfold Tl
  have:=Gw (fun s:(List aM)×Int×Int×(List Int)×Unit=>ET s.1 s.2.1 s.2.2.1 s.2.2.2.1) l.length (fun i=>(l,(l.length:Int),(i:Int),b++be (l.length:Int) 2++(l.take i).flatMap kD,())) (.inl (b++be (l.length:Int) 2++l.flatMap kD,()))
   (fun i hi=>by
    show ET l (l.length:Int) (i:Int) (b++be (l.length:Int) 2++(l.take i).flatMap kD)=_
    unfold ET
    have hx:LF l[i]:=hl _ (List.getElem_mem hi)
    have hf:=lj (g:=kD) (K:=20000) (l:=l.take i) fun x hx=>zkk (hl x (List.mem_of_mem_take hx))
    have CD:(l.take i).length<=1000:=by rw[List.length_take];omega
    rw[decide_eq_true (by omega),bz,aC (by omega)]
    simp only[aW,fi,fT]
    have hg:l.getD i ((0:Int),(0:Int),(0:Int),(0:Int),(0:Int))=l[i]:=by rw[List.getD_eq_getElem?_getD,List.getElem?_eq_getElem hi];rfl
    rw[hg,zCq hx _ (by simp only[List.length_append,l2];omega),bA (by omega) (by omega),Gy hi]
    simp only[au,List.append_assoc];rfl)
   (by
    show ET l (l.length:Int) (l.length:Int) (b++be (l.length:Int) 2++(l.take l.length).flatMap kD)=_
    unfold ET
    rw[decide_eq_false (by omega),List.take_length];rfl)
  simpa using this
 rw[L]
 simp
theorem zCz{l:List cD}(hl:∀ x∈l,LG x)(hn:l.length<=1000)(b:List Int)(hb:b.length<=60000000000000):IY l b=some (b++(be (l.length:Int) 2++l.flatMap mz),()):=by
 unfold IY
 rw[xx _ b (by omega)]
 simp only[au]
 have l2:=cU (l.length:Int) 2
 have L:Tn (l,(l.length:Int),0,b++be (l.length:Int) 2,())=some (.inl (b++be (l.length:Int) 2++l.flatMap mz,())):=by
  unfold Tn
  have:=Gw (fun s:(List cD)×Int×Int×(List Int)×Unit=>EU s.1 s.2.1 s.2.2.1 s.2.2.2.1) l.length (fun i=>(l,(l.length:Int),(i:Int),b++be (l.length:Int) 2++(l.take i).flatMap mz,())) (.inl (b++be (l.length:Int) 2++l.flatMap mz,()))
   (fun i hi=>by
    show EU l (l.length:Int) (i:Int) (b++be (l.length:Int) 2++(l.take i).flatMap mz)=_
    unfold EU
    have hx:LG l[i]:=hl _ (List.getElem_mem hi)
    have hf:=lj (g:=mz) (K:=20000) (l:=l.take i) fun x hx=>zCm (hl x (List.mem_of_mem_take hx))
    have CD:(l.take i).length<=1000:=by rw[List.length_take];omega
    rw[decide_eq_true (by omega),bz,aC (by omega)]
    simp only[aW,fi,fT]
    have hg:l.getD i ((0:Int),(0:Int),(0:Int),(0:Int))=l[i]:=by rw[List.getD_eq_getElem?_getD,List.getElem?_eq_getElem hi];rfl
    rw[hg,zCr hx _ (by simp only[List.length_append,l2];omega),bA (by omega) (by omega),Gy hi]
    simp only[au,List.append_assoc];rfl)
   (by
    show EU l (l.length:Int) (l.length:Int) (b++be (l.length:Int) 2++(l.take l.length).flatMap mz)=_
    unfold EU
    rw[decide_eq_false (by omega),List.take_length];rfl)
  simpa using this
 rw[L]
 simp
structure CP(s:bj):Prop where
 h:∀ x∈s.2.2.1,LA x
 hn:s.2.2.1.length<=1000
 w:∀ x∈s.2.2.2.1,LB x
 wn:s.2.2.2.1.length<=1000
 k:∀ x∈s.2.2.2.2.1,LC x
 kn:s.2.2.2.2.1.length<=1000
 p:∀ x∈s.2.2.2.2.2.1,LF x
 pn:s.2.2.2.2.2.1.length<=1000
 c:∀ x∈s.2.2.2.2.2.2,LG x
 cn:s.2.2.2.2.2.2.length<=1000
def gC{α:Type}(g:α->List Int)(l:List α):List Int:=be (l.length:Int) 2++l.flatMap g
def fg(s:bj):List Int:=be s.1 8++(be s.2.1 2++(gC gP s.2.2.1++(gC kB s.2.2.2.1++(gC kC s.2.2.2.2.1++(gC kD s.2.2.2.2.2.1++gC mz s.2.2.2.2.2.2)))))
theorem PZ{α:Type}{g:α->List Int}{l:List α}(h:∀ x∈l,(g x).length<=20000)(hn:l.length<=1000):(gC g l).length<=20000002:=by
 have:=lj h
 unfold gC;rw[List.length_append,cU];omega
theorem zCA{s:bj}(h:CP s):EV s=some (fg s,()):=by
 unfold EV
 have a1:=PZ (g:=gP) (fun x hx=>zkg (h.h x hx)) h.hn
 have a2:=PZ (g:=kB) (fun x hx=>zkh (h.w x hx)) h.wn
 have a3:=PZ (g:=kC) (fun x hx=>zkj (h.k x hx)) h.kn
 have a4:=PZ (g:=kD) (fun x hx=>zkk (h.p x hx)) h.pn
 have l8:=cU s.1 8
 have l2:=cU s.2.1 2
 rw[Gd _ _ (by simp)]
 simp only[au,List.nil_append]
 rw[xx _ _ (by omega)]
 simp only[au]
 rw[zCt h.h h.hn _ (by simp only[List.length_append];omega)]
 simp only[au]
 rw[show be (s.2.2.1.length:Int) 2++s.2.2.1.flatMap gP=gC gP s.2.2.1 from rfl,zCu h.w h.wn _ (by simp only[List.length_append];omega)]
 simp only[au]
 rw[show be (s.2.2.2.1.length:Int) 2++s.2.2.2.1.flatMap kB=gC kB s.2.2.2.1 from rfl,zCx h.k h.kn _ (by simp only[List.length_append];omega)]
 simp only[au]
 rw[show be (s.2.2.2.2.1.length:Int) 2++s.2.2.2.2.1.flatMap kC=gC kC s.2.2.2.2.1 from rfl,zCy h.p h.pn _ (by simp only[List.length_append];omega)]
 simp only[au]
 rw[show be (s.2.2.2.2.2.1.length:Int) 2++s.2.2.2.2.2.1.flatMap kD=gC kD s.2.2.2.2.2.1 from rfl,zCz h.c h.cn _ (by simp only[List.length_append];omega)]
 simp only[au,List.append_assoc]
 rfl
attribute [local irreducible] bE
def nf(r:bV):aH×bV:=
 let r1:=(lI r).2
 let r2:=(bE 8 r1).2
 (((lI r).1,cQ 8 r1,cQ 2 r2),(bE 2 r2).2)
def tq(r:bV):aL×bV:=
 let r1:=(bE 1 r).2
 let r2:=(bE 6 r1).2
 ((cQ 1 r,zG (bE 6 r1).1,cQ 8 r2),(bE 8 r2).2)
def kE{α:Type}(part:bV->α×bV):Nat->bV->List α×bV
 | 0,r=>([],r)
 | n+1,r=>match r.2 with
  | true=>([],r)
  | false=>((part r).1::(kE part n (part r).2).1,(kE part n (part r).2).2)
def fb{α:Type}(part:bV->α×bV)(r:bV):List α×bV:=kE part (cQ 2 r).toNat (bE 2 r).2
def nS(r:bV):ep×bV:=
 let r1:=(bE 4 r).2
 ((cQ 4 r,(fb tq r1).1),(fb tq r1).2)
def oM(r:bV):aM×bV:=
 let r1:=(bE 4 r).2
 let r2:=(bE 2 r1).2
 let r3:=(bE 8 r2).2
 ((cQ 4 r,cQ 4 r % 65536,cQ 2 r1,cQ 8 r2,cQ 1 r3),(bE 1 r3).2)
def rU(r:bV):cD×bV:=
 let r1:=(bE 4 r).2
 let r2:=(bE 8 r1).2
 let r3:=(bE 8 r2).2
 ((cQ 4 r,cQ 8 r1,cQ 8 r2,cQ 1 r3),(bE 1 r3).2)
theorem CQ{r:bV}(hr:bN r.1):0<=cQ 2 r/\cQ 2 r<=65535:=by
 have:=Cx (bE 2 r).1 (dj hr).1 0 (by omega)
 rw[rP] at this
 have h1:0<=de (bE 2 r).1:=this.1
 have h2:de (bE 2 r).1<(0+1)*256 ^ 2:=this.2
 have e:cQ 2 r=de (bE 2 r).1:=bA (by omega) (by omega)
 rw[e];exact⟨h1,by omega⟩
theorem zCB{r:bV}(hr:bN r.1):I0 r.1 r.2=some ((nf r).1,(nf r).2.1,(nf r).2.2,()):=by
 unfold I0
 have h4:=(dj (n:=4) hr).2
 have h5:bN (lI r).2.1:=(dj (n:=1) h4).2
 rw[WJ (r:=(r.1,r.2)) hr]
 simp only[au]
 rw[Ge h5]
 simp only[au]
 rw[xy (dj (n:=8) h5).2]
 rfl
theorem zCC{r:bV}(hr:bN r.1):I2 r=some ((tq r).1,(tq r).2,()):=by
 unfold I2
 have h1:=(dj (n:=1) hr).2
 rw[Cw hr]
 simp only[au]
 rw[WH]
 simp only[au]
 rw[Ge (dj (n:=6) h1).2]
 rfl
theorem zCD{r:bV}(hr:bN r.1):I6 r.1 r.2=some ((oM r).1,(oM r).2.1,(oM r).2.2,()):=by
 unfold I6
 have h1:=(dj (n:=4) hr).2
 have h2:=(dj (n:=2) h1).2
 have h3:=(dj (n:=8) h2).2
 have hn:=(vL hr).1
 have n0:=hn.1
 have n1:=hn.2
 rw[xz (r:=(r.1,r.2)) hr]
 simp only[au,aW]
 have hb:lr .u32 (cQ 4 (r.1,r.2)) 65535=cQ 4 (r.1,r.2) % 65536:=IA (k:=.u32) 16 n0 rfl (by show 16<=32;omega)
 rw[hb,qY (by omega) (by omega),bA (by omega) (by omega),xy h1]
 simp only[au]
 rw[Ge h2]
 simp only[au]
 rw[Cw h3]
 rfl
theorem zCE{r:bV}(hr:bN r.1):I8 r.1 r.2=some ((rU r).1,(rU r).2.1,(rU r).2.2,()):=by
 unfold I8
 have h1:=(dj (n:=4) hr).2
 have h2:=(dj (n:=8) h1).2
 have h3:=(dj (n:=8) h2).2
 rw[xz (r:=(r.1,r.2)) hr]
 simp only[au]
 rw[Ge h1]
 simp only[au]
 rw[Ge h2]
 simp only[au]
 rw[Cw h3]
 rfl
theorem CR{α:Type}(f:(Int×List α×bV×Unit)->Option ((Int×List α×bV×Unit)⊕((List Int×Bool×List α×Unit)⊕(bV×List α×Unit))))(part:bV->α×bV)
  (h1:∀ (n:Int) (out:List α) (r:bV),bN r.1->0<n->n<=65535->r.2=false->out.length<=65535->f (n,out,r,())=some (.inl (n-1,out++[(part r).1],(part r).2,())))
  (h2:∀ (n:Int) (out:List α) (r:bV),(n=0\/r.2=true)->f (n,out,r,())=some (.inr (.inl (r.1,r.2,out,()))))
  (h3:∀ r:bV,bN r.1->bN (part r).2.1):
  ∀ (k:Nat) (out:List α) (r:bV),bN r.1->out.length+k<=65535->ct f ((k:Int),out,r,())=some (.inl ((kE part k r).2.1,(kE part k r).2.2,out++(kE part k r).1,()))
 | 0,out,r,hr,hk=>by
  rw[dm (h2 ((0:Nat):Int) out r (.inl rfl))]
  simp[kE]
 | k+1,out,r,hr,hk=>by
  cases hb:r.2 with
  | true=>
   rw[dm (h2 _ out r (.inr hb))]
   simp[kE,hb]
  | false=>
   rw[iI (h1 _ out r hr (by omega) (by omega) hb (by omega)),show ((k+1:Nat):Int)-1=(k:Int) from by omega,CR f part h1 h2 h3 k _ _ (h3 r hr) (by simp;omega)]
   simp[kE,hb]
theorem zkl{α:Type}{part:bV->α×bV}(h3:∀ r:bV,bN r.1->bN (part r).2.1):∀ (k:Nat) (r:bV),bN r.1->bN (kE part k r).2.1
 | 0,r,hr=>hr
 | k+1,r,hr=>by
  cases hb:r.2 with
  | true=>simpa [kE,hb] using hr
  | false=>simpa [kE,hb] using zkl h3 k _ (h3 r hr)
theorem zkm{α:Type}{part:bV->α×bV}{P:α->Prop}(h3:∀ r:bV,bN r.1->bN (part r).2.1)(hp:∀ r:bV,bN r.1->P (part r).1):∀ (k:Nat) (r:bV),bN r.1->∀ x∈(kE part k r).1,P x
 | 0,r,hr,x,hx=>by simp[kE] at hx
 | k+1,r,hr,x,hx=>by
  cases hb:r.2 with
  | true=>simp[kE,hb] at hx
  | false=>
   simp only[kE,hb,List.mem_cons] at hx
   rcases hx with rfl | hx
   ·exact hp r hr
   ·exact zkm h3 hp k _ (h3 r hr) x hx
theorem zkn{α:Type}{part:bV->α×bV}:∀ (k:Nat) (r:bV),(kE part k r).1.length<=k
 | 0,r=>by simp[kE]
 | k+1,r=>by
  cases hb:r.2 with
  | true=>simp[kE,hb]
  | false=>simp only[kE,hb,List.length_cons];have:=zkn (part:=part) k (part r).2;omega
theorem xJ{α:Type}{part:bV->α×bV}(h3:∀ r:bV,bN r.1->bN (part r).2.1){r:bV}(hr:bN r.1):bN (fb part r).2.1:=zkl h3 _ _ (dj hr).2
theorem GA{α:Type}{part:bV->α×bV}{P:α->Prop}(h3:∀ r:bV,bN r.1->bN (part r).2.1)(hp:∀ r:bV,bN r.1->P (part r).1){r:bV}(hr:bN r.1):∀ x∈(fb part r).1,P x:=zkm h3 hp _ _ (dj hr).2
theorem LH{α:Type}{part:bV->α×bV}{r:bV}(hr:bN r.1):(fb part r).1.length<=65535:=by
 have:=zkn (part:=part) (cQ 2 r).toNat (bE 2 r).2
 have:=CQ hr
 unfold fb;omega
theorem LI{r:bV}(hr:bN r.1):bN (gu r).2.1:=(dj (dj (dj (dj hr).2).2).2).2
theorem P0{r:bV}(hr:bN r.1):bN (nf r).2.1:=(dj (dj (dj (dj hr).2).2).2).2
theorem Xe{r:bV}(hr:bN r.1):bN (tq r).2.1:=(dj (dj (dj hr).2).2).2
theorem P1{r:bV}(hr:bN r.1):bN (nS r).2.1:=xJ (fun _ h=>Xe h) (dj hr).2
theorem P2{r:bV}(hr:bN r.1):bN (oM r).2.1:=(dj (dj (dj (dj hr).2).2).2).2
theorem zko{r:bV}(hr:bN r.1):bN (rU r).2.1:=(dj (dj (dj (dj hr).2).2).2).2
theorem zCF{r:bV}(hr:bN r.1):IZ r=some ((fb gu r).2,(fb gu r).1,()):=by
 unfold IZ
 have hn:=CQ hr
 rw[xy hr]
 simp only[au]
 have L:=CR (fun s:Int×(List aX)×bV×Unit=>EW s.1 s.2.1 s.2.2.1) gu
  (fun n out r hr hn ia hb ho=>by
   show EW n out r=_
   unfold EW
   simp only[cc,aW]
   rw[decide_eq_true hn,hb,Bool.not_false,Bool.and_self,bz]
   have he:=zjs hr
   rw[show r=r from rfl] at he
   rw[he]
   simp only[au]
   rw[aC (by show _*_<=_;simp only[List.length_cons,List.length_nil];omega),bA (by omega) (by omega)])
  (fun n out r h=>by
   show EW n out r=_
   unfold EW
   simp only[cc,aW]
   have:(decide (n>0)&&!r.2)=false:=by
    rcases h with h | h
    ·subst h;rfl
    ·rw[h];simp
   rw[this];rfl)
  (fun r h=>LI h) (cQ 2 r).toNat [] (bE 2 r).2 (dj hr).2 (by simp;omega)
 rw[Int.toNat_of_nonneg hn.1] at L
 have L':zbu (cQ 2 r,[],(bE 2 r).2,())=_:=L
 rw[L']
 rfl
theorem zCG{r:bV}(hr:bN r.1):I1 r=some ((fb nf r).2,(fb nf r).1,()):=by
 unfold I1
 have hn:=CQ hr
 rw[xy hr]
 simp only[au]
 have L:=CR (fun s:Int×(List aH)×bV×Unit=>EX s.1 s.2.1 s.2.2.1) nf
  (fun n out r hr hn ia hb ho=>by
   show EX n out r=_
   unfold EX
   simp only[cc,aW]
   rw[decide_eq_true hn,hb,Bool.not_false,Bool.and_self,bz]
   have he:=zCB hr
   rw[hb] at he
   rw[he]
   simp only[au]
   rw[aC (by show _*_<=_;simp only[List.length_cons,List.length_nil];omega),bA (by omega) (by omega)])
  (fun n out r h=>by
   show EX n out r=_
   unfold EX
   simp only[cc,aW]
   have:(decide (n>0)&&!r.2)=false:=by
    rcases h with h | h
    ·subst h;rfl
    ·rw[h];simp
   rw[this];rfl)
  (fun r h=>P0 h) (cQ 2 r).toNat [] (bE 2 r).2 (dj hr).2 (by simp;omega)
 rw[Int.toNat_of_nonneg hn.1] at L
 have L':zbw (cQ 2 r,[],(bE 2 r).2,())=_:=L
 rw[L']
 rfl
theorem zCH{r:bV}(hr:bN r.1):I3 r=some ((fb tq r).2,(fb tq r).1,()):=by
 unfold I3
 have hn:=CQ hr
 rw[xy hr]
 simp only[au]
 have L:=CR (fun s:Int×(List aL)×bV×Unit=>EY s.1 s.2.1 s.2.2.1) tq
  (fun n out r hr hn ia hb ho=>by
   show EY n out r=_
   unfold EY
   simp only[cc,aW]
   rw[decide_eq_true hn,hb,Bool.not_false,Bool.and_self,bz]
   have he:=zCC hr
   rw[show r=r from rfl] at he
   rw[he]
   simp only[au]
   rw[aC (by show _*_<=_;simp only[List.length_cons,List.length_nil];omega),bA (by omega) (by omega)])
  (fun n out r h=>by
   show EY n out r=_
   unfold EY
   simp only[cc,aW]
   have:(decide (n>0)&&!r.2)=false:=by
    rcases h with h | h
    ·subst h;rfl
    ·rw[h];simp
   rw[this];rfl)
  (fun r h=>Xe h) (cQ 2 r).toNat [] (bE 2 r).2 (dj hr).2 (by simp;omega)
 rw[Int.toNat_of_nonneg hn.1] at L
 have L':zby (cQ 2 r,[],(bE 2 r).2,())=_:=L
 rw[L']
 rfl
theorem zCI{r:bV}(hr:bN r.1):I4 r.1 r.2=some ((nS r).1,(nS r).2.1,(nS r).2.2,()):=by
 unfold I4
 have h1:=(dj (n:=4) hr).2
 rw[xz (r:=(r.1,r.2)) hr]
 simp only[au]
 rw[zCH h1]
 rfl
theorem zCJ{r:bV}(hr:bN r.1):I5 r=some ((fb nS r).2,(fb nS r).1,()):=by
 unfold I5
 have hn:=CQ hr
 rw[xy hr]
 simp only[au]
 have L:=CR (fun s:Int×(List ep)×bV×Unit=>EZ s.1 s.2.1 s.2.2.1) nS
  (fun n out r hr hn ia hb ho=>by
   show EZ n out r=_
   unfold EZ
   simp only[cc,aW]
   rw[decide_eq_true hn,hb,Bool.not_false,Bool.and_self,bz]
   have he:=zCI hr
   rw[hb] at he
   rw[he]
   simp only[au]
   rw[aC (by show _*_<=_;simp only[List.length_cons,List.length_nil];omega),bA (by omega) (by omega)])
  (fun n out r h=>by
   show EZ n out r=_
   unfold EZ
   simp only[cc,aW]
   have:(decide (n>0)&&!r.2)=false:=by
    rcases h with h | h
    ·subst h;rfl
    ·rw[h];simp
   rw[this];rfl)
  (fun r h=>P1 h) (cQ 2 r).toNat [] (bE 2 r).2 (dj hr).2 (by simp;omega)
 rw[Int.toNat_of_nonneg hn.1] at L
 have L':zbA (cQ 2 r,[],(bE 2 r).2,())=_:=L
 rw[L']
 rfl
theorem zCK{r:bV}(hr:bN r.1):I7 r=some ((fb oM r).2,(fb oM r).1,()):=by
 unfold I7
 have hn:=CQ hr
 rw[xy hr]
 simp only[au]
 have L:=CR (fun s:Int×(List aM)×bV×Unit=>E0 s.1 s.2.1 s.2.2.1) oM
  (fun n out r hr hn ia hb ho=>by
   show E0 n out r=_
   unfold E0
   simp only[cc,aW]
   rw[decide_eq_true hn,hb,Bool.not_false,Bool.and_self,bz]
   have he:=zCD hr
   rw[hb] at he
   rw[he]
   simp only[au]
   rw[aC (by show _*_<=_;simp only[List.length_cons,List.length_nil];omega),bA (by omega) (by omega)])
  (fun n out r h=>by
   show E0 n out r=_
   unfold E0
   simp only[cc,aW]
   have:(decide (n>0)&&!r.2)=false:=by
    rcases h with h | h
    ·subst h;rfl
    ·rw[h];simp
   rw[this];rfl)
  (fun r h=>P2 h) (cQ 2 r).toNat [] (bE 2 r).2 (dj hr).2 (by simp;omega)
 rw[Int.toNat_of_nonneg hn.1] at L
 have L':zbC (cQ 2 r,[],(bE 2 r).2,())=_:=L
 rw[L']
 rfl
theorem zCL{r:bV}(hr:bN r.1):I9 r=some ((fb rU r).2,(fb rU r).1,()):=by
 unfold I9
 have hn:=CQ hr
 rw[xy hr]
 simp only[au]
 have L:=CR (fun s:Int×(List cD)×bV×Unit=>E1 s.1 s.2.1 s.2.2.1) rU
  (fun n out r hr hn ia hb ho=>by
   show E1 n out r=_
   unfold E1
   simp only[cc,aW]
   rw[decide_eq_true hn,hb,Bool.not_false,Bool.and_self,bz]
   have he:=zCE hr
   rw[hb] at he
   rw[he]
   simp only[au]
   rw[aC (by show _*_<=_;simp only[List.length_cons,List.length_nil];omega),bA (by omega) (by omega)])
  (fun n out r h=>by
   show E1 n out r=_
   unfold E1
   simp only[cc,aW]
   have:(decide (n>0)&&!r.2)=false:=by
    rcases h with h | h
    ·subst h;rfl
    ·rw[h];simp
   rw[this];rfl)
  (fun r h=>zko h) (cQ 2 r).toNat [] (bE 2 r).2 (dj hr).2 (by simp;omega)
 rw[Int.toNat_of_nonneg hn.1] at L
 have L':zbE (cQ 2 r,[],(bE 2 r).2,())=_:=L
 rw[L']
 rfl
def ng(b:List Int):bj×bV:=
 let r1:=(bE 8 (b,false)).2
 let hs:=fb gu (bE 2 r1).2
 let ss:=fb nf hs.2
 let ks:=fb nS ss.2
 let ps:=fb oM ks.2
 let cs:=fb rU ps.2
 ((cQ 8 (b,false),cQ 2 r1,hs.1,ss.1,ks.1,ps.1,cs.1),cs.2)
@[reducible] def zSt:bj:=(0,0,[],[],[],[],[])
def gj(b:List Int):bj×Bool:=if (ng b).2.2=false/\(ng b).2.1=[]/\qA (ng b).1=true then ((ng b).1,true) else (zSt,false)
theorem zkp{r:bV}(hr:bN r.1):cd (gu r).1.1/\(gu r).1.2.1.length<=140737488355328/\iZ (gu r).1.2.2:=by
 have h1:=(dj (n:=4) hr).2
 have h2:=(dj (n:=1) h1).2
 refine⟨(vL hr).1,?_,?_⟩
 ·show (pU (bE (cQ 1 (bE 4 r).2).toNat _).1).length<=_
  have:=(Gf h1).1
  have h9:=this.2
  rw[Px,rP];omega
 ·have h3:=(dj (n:=6) (dj (n:=(cQ 1 (bE 4 r).2).toNat) h2).2).1
  exact⟨mw h3 0,mw h3 1,mw h3 2,mw h3 3,mw h3 4,mw h3 5⟩
theorem zCN{r:bV}(hr:bN r.1):iZ (tq r).1.2.1:=by
 have h3:=(dj (n:=6) (dj (n:=1) hr).2).1
 exact⟨mw h3 0,mw h3 1,mw h3 2,mw h3 3,mw h3 4,mw h3 5⟩
theorem zCO{b:List Int}(hb:bN b):PY (ng b).1:=by
 have h1:bN (bE 2 (bE 8 (b,false)).2).2.1:=(dj (dj (r:=(b,false)) hb).2).2
 have h2:=xJ (part:=gu) (fun _ h=>LI h) h1
 have h3:=xJ (part:=nf) (fun _ h=>P0 h) h2
 have h4:=xJ (part:=nS) (fun _ h=>P1 h) h3
 have h5:=xJ (part:=oM) (fun _ h=>P2 h) h4
 have le:∀ n:Nat,n<=65535->n<=140737488355328:=fun n h=>by omega
 exact⟨GA (fun _ h=>LI h) (fun _ h=>zkp h) h1,le _ (LH h1),
  GA (P:=fun x:aH=>cd x.1.1) (fun _ h=>P0 h) (fun _ h=>(vL h).1) h2,le _ (LH h2),
  GA (P:=fun x:ep=>cd x.1/\∀ y∈x.2,iZ y.2.1) (fun _ h=>P1 h) (fun _ h=>⟨(vL h).1,GA (P:=fun y:aL=>iZ y.2.1) (fun _ h=>Xe h) (fun _ h=>zCN h) (dj h).2⟩) h3,le _ (LH h3),
  GA (P:=fun x:aM=>cd x.1) (fun _ h=>P2 h) (fun _ h=>(vL h).1) h4,le _ (LH h4),
  GA (P:=fun x:cD=>cd x.1) (fun _ h=>zko h) (fun _ h=>(vL h).1) h5,le _ (LH h5)⟩
theorem zkq{b:List Int}(hb:bN b):E5 b=some ((gj b).1,(gj b).2,()):=by
 unfold E5
 have h0:=(dj (n:=8) (r:=(b,false)) hb).2
 have h1:=(dj (n:=2) h0).2
 have h2:=xJ (part:=gu) (fun _ h=>LI h) h1
 have h3:=xJ (part:=nf) (fun _ h=>P0 h) h2
 have h4:=xJ (part:=nS) (fun _ h=>P1 h) h3
 have h5:=xJ (part:=oM) (fun _ h=>P2 h) h4
 rw[Ge (r:=(b,false)) hb]
 simp only[au]
 rw[xy h0]
 simp only[au]
 rw[zCF h1]
 simp only[au]
 rw[zCG h2]
 simp only[au]
 rw[zCJ h3]
 simp only[au]
 rw[zCK h4]
 simp only[au]
 rw[zCL h5]
 simp only[au]
 have hw:=zCl (zCO hb)
 have hst:E4 (cQ 8 (b,false),cQ 2 (bE 8 (b,false)).2,(fb gu (bE 2 (bE 8 (b,false)).2).2).1,(fb nf (fb gu (bE 2 (bE 8 (b,false)).2).2).2).1,
  (fb nS (fb nf (fb gu (bE 2 (bE 8 (b,false)).2).2).2).2).1,(fb oM (fb nS (fb nf (fb gu (bE 2 (bE 8 (b,false)).2).2).2).2).2).1,
  (fb rU (fb oM (fb nS (fb nf (fb gu (bE 2 (bE 8 (b,false)).2).2).2).2).2).2).1)=some (qA (ng b).1,()):=hw
 rw[hst]
 simp only[cc,dI,aW,gX]
 have hr:(fb rU (fb oM (fb nS (fb nf (fb gu (bE 2 (bE 8 (b,false)).2).2).2).2).2).2).2=(ng b).2:=rfl
 rw[hr]
 unfold gj
 by_cases h:(ng b).2.2=false/\(ng b).2.1=[]/\qA (ng b).1=true
 ·rw[if_pos h,h.1,h.2.1,h.2.2];rfl
 ·rw[if_neg h]
  have:(((ng b).2.2||decide (((ng b).2.1.length:Int)>0))||!qA (ng b).1)=true:=by
   cases q1:(ng b).2.2 with
   | true=>rfl
   | false=>
    cases q2:(ng b).2.1 with
    | cons a l=>simp
    | nil=>
     cases q3:qA (ng b).1 with
     | false=>rfl
     | true=>exact absurd ⟨q1,q2,q3⟩ h
  rw[this];rfl
theorem zkr{α:Type}{part:bV->α×bV}{g:α->List Int}:∀ {l:List α} (y:List Int),(∀ x∈l,∀ y,part (g x++y,false)=(x,(y,false)))->kE part l.length (l.flatMap g++y,false)=(l,(y,false))
 | [],y,_=>rfl
 | x::l,y,h=>by
  have ih:=zkr (part:=part) (g:=g) (l:=l) y fun z hz=>h z (by simp[hz])
  have hx:=h x (by simp) (l.flatMap g++y)
  simp only[List.flatMap_cons,List.length_cons,kE,List.append_assoc]
  rw[hx]
  simp only
  rw[ih]
theorem GB{α:Type}{part:bV->α×bV}{g:α->List Int}{l:List α}(hn:l.length<=65535)(h:∀ x∈l,∀ y,part (g x++y,false)=(x,(y,false)))(y:List Int):fb part (gC g l++y,false)=(l,(y,false)):=by
 unfold fb gC
 rw[List.append_assoc,PF ⟨by omega,by omega⟩,hJ (cU _ 2),Int.toNat_natCast]
 exact zkr y h
theorem LJ(c:Int)(y:List Int):bE 1 (c::y,false)=([c],(y,false)):=by
 rw[show (c::y)=[c]++y from rfl,hJ (by rfl)]
theorem zCP{h:aX}(ha:cd h.1)(ho:h.2.1.length<=255)(y:List Int):gu (gP h++y,false)=(h,(y,false)):=by
 unfold gu gP
 have IF:ig ((h.2.1.length:Int) % 256):=⟨by omega,by omega⟩
 simp only[List.append_assoc]
 rw[xB ha,hJ (cU _ 4)]
 simp only
 rw[List.singleton_append,xC IF,LJ]
 simp only
 rw[hJ (by rw[Cv];omega)]
 simp only
 rw[hJ (by rfl),zjo,PC]
theorem zCQ{s:aH}(ha:cd s.1.1)(hb:0<=s.1.2/\s.1.2<=255)(hd:0<=s.2.1/\s.2.1<=1099511627776)(hx:0<=s.2.2/\s.2.2<=65535)(y:List Int):nf (kB s++y,false)=(s,(y,false)):=by
 unfold nf lI kB
 simp only[List.append_assoc]
 rw[xB ha,hJ (cU _ 4)]
 simp only
 rw[List.singleton_append,xC ⟨by omega,by omega⟩,LJ]
 simp only
 rw[Gg ⟨by omega,by omega⟩,hJ (cU _ 8)]
 simp only
 rw[PF ⟨by omega,by omega⟩,hJ (cU _ 2)]
 have e:s.1.2 % 256=s.1.2:=by omega
 rw[e]
theorem zCR{s:aL}(hf:0<=s.1/\s.1<=255)(ht:-9223372036854775808<=s.2.2/\s.2.2<=9223372036854775807)(y:List Int):tq (lh s++y,false)=(s,(y,false)):=by
 unfold tq lh
 simp only[List.append_assoc]
 rw[List.singleton_append,xC ⟨by omega,by omega⟩,LJ]
 simp only
 rw[hJ (by rfl)]
 simp only
 rw[PC,Gg ht,hJ (cU _ 8)]
 have e:s.1 % 256=s.1:=by omega
 rw[e]
theorem zCS{s:ep}(ha:cd s.1)(hn:s.2.length<=65535)(h:∀ x∈s.2,(0<=x.1/\x.1<=255)/\(-9223372036854775808<=x.2.2/\x.2.2<=9223372036854775807))(y:List Int):nS (kC s++y,false)=(s,(y,false)):=by
 unfold nS kC
 rw[List.append_assoc,xB ha,hJ (cU _ 4)]
 simp only
 have:=GB (part:=tq) (g:=lh) hn (fun x hx y=>zCR (h x hx).1 (h x hx).2 y) y
 unfold gC at this
 rw[this]
theorem zCT{s:aM}(ha:cd s.1)(hi:s.2.1=s.1 % 65536)(hq:0<=s.2.2.1/\s.2.2.1<=65535)(hs:0<=s.2.2.2.1/\s.2.2.2.1<=1099511627776)(ht:0<=s.2.2.2.2/\s.2.2.2.2<=255)(y:List Int):oM (kD s++y,false)=(s,(y,false)):=by
 unfold oM kD
 simp only[List.append_assoc]
 rw[xB ha,hJ (cU _ 4)]
 simp only
 rw[PF ⟨by omega,by omega⟩,hJ (cU _ 2)]
 simp only
 rw[Gg ⟨by omega,by omega⟩,hJ (cU _ 8)]
 simp only
 rw[List.singleton_append,xC ⟨by omega,by omega⟩,LJ]
 have e:s.2.2.2.2 % 256=s.2.2.2.2:=by omega
 rw[e,<-hi]
theorem zCU{s:cD}(ha:cd s.1)(hr:0<=s.2.1/\s.2.1<=1099511627776)(he:0<=s.2.2.1/\s.2.2.1<=1099511627776)(ht:0<=s.2.2.2/\s.2.2.2<=255)(y:List Int):rU (mz s++y,false)=(s,(y,false)):=by
 unfold rU mz
 simp only[List.append_assoc]
 rw[xB ha,hJ (cU _ 4)]
 simp only
 rw[Gg ⟨by omega,by omega⟩,hJ (cU _ 8)]
 simp only
 rw[Gg ⟨by omega,by omega⟩,hJ (cU _ 8)]
 simp only
 rw[List.singleton_append,xC ⟨by omega,by omega⟩,LJ]
 have e:s.2.2.2 % 256=s.2.2.2:=by omega
 rw[e]
theorem GC{α:Type}{p:Nat->Bool}{l:List α}(h:(List.range' 0 l.length).all p=true){x:α}(hx:x∈l):∃ i,∃ hi:i<l.length,l[i]=x/\p i=true:=by
 obtain⟨i,hi,rfl⟩:=List.mem_iff_getElem.1 hx
 exact⟨i,hi,rfl,List.all_eq_true.1 h i (by simp[List.mem_range'];exact hi)⟩
theorem GD{α:Type}{l:List α}{i:Nat}(hi:i<l.length)(z:α):l.getD i z=l[i]:=by
 rw[List.getD_eq_getElem?_getD,List.getElem?_eq_getElem hi];rfl
theorem P3{n:Int}(h:n=fD n):0<=n/\n<=1099511627776:=by
 unfold fD at h
 split at h
 ·omega
 ·split at h<;>omega
structure Xf(s:bj):Prop where
 k:∀ x∈s.2.2.2.2.1,∀ y∈x.2,-9223372036854775808<=y.2.2/\y.2.2<=9223372036854775807
theorem zCV{s:bj}(h:CP s)(hb:Xf s)(hr:qA s=true):ng (fg s)=(s,([],false)):=by
 unfold qA at hr
 simp only[Bool.and_eq_true,decide_eq_true_eq] at hr
 obtain⟨n0,n1,q0,q1,rh,Xh,rk,rp,rc⟩:=hr
 unfold zM at rh
 unfold Gr at Xh
 unfold zQ at rk
 unfold zN at rp
 unfold zO at rc
 simp only[Bool.and_eq_true,decide_eq_true_eq] at rh Xh rk rp rc
 have bh:∀ x∈s.2.2.1,∀ y,gu (gP x++y,false)=(x,(y,false)):=by
  intro x hx y
  obtain⟨i,hi,rfl,hp⟩:=GC rh.1 hx
  refine zCP (h.h _ hx).1 ?_ y
  unfold CF rQ at hp
  rw[GD hi] at hp
  simp only[Bool.and_eq_true,decide_eq_true_eq] at hp
  have:=hp.1.2.2
  omega
 have bw:∀ x∈s.2.2.2.1,∀ y,nf (kB x++y,false)=(x,(y,false)):=by
  intro x hx y
  obtain⟨i,hi,rfl,hp⟩:=GC Xh.1 hx
  unfold CK vQ at hp
  rw[GD hi] at hp
  simp only[Bool.and_eq_true,decide_eq_true_eq] at hp
  obtain⟨⟨g1,g2,g3,g4,g5⟩,_⟩:=hp
  have zR:=(xw g1).1
  unfold bo at zR
  exact zCQ (h.w _ hx) ⟨zR.1,by omega⟩ (P3 g3) ⟨g4,by omega⟩ y
 have bk:∀ x∈s.2.2.2.2.1,∀ y,nS (kC x++y,false)=(x,(y,false)):=by
  intro x hx y
  obtain⟨i,hi,hxi,hp⟩:=GC rk.1 hx
  unfold CM at hp
  rw[GD hi,hxi] at hp
  simp only[Bool.and_eq_true,decide_eq_true_eq] at hp
  obtain⟨_,g1,g2,g3⟩:=hp
  refine zCS (h.k _ hx).1 (by omega) (fun z hz=>?_) y
  obtain⟨j,hj,rfl,hq⟩:=GC g3 hz
  unfold Gt at hq
  rw[GD hj] at hq
  simp only[Bool.and_eq_true,decide_eq_true_eq] at hq
  exact⟨⟨hq.1,by omega⟩,hb.k x hx _ hz⟩
 have bp:∀ x∈s.2.2.2.2.2.1,∀ y,oM (kD x++y,false)=(x,(y,false)):=by
  intro x hx y
  obtain⟨i,hi,rfl,hp⟩:=GC rp.1 hx
  unfold CG at hp
  rw[GD hi] at hp
  simp only[Bool.and_eq_true,decide_eq_true_eq] at hp
  obtain⟨⟨g1,⟨g2,g3⟩,g4,g5,g6⟩,_⟩:=hp
  exact zCT (h.p _ hx) g1 ⟨g2,g3⟩ (P3 g4) ⟨g5,by omega⟩ y
 have bc:∀ x∈s.2.2.2.2.2.2,∀ y,rU (mz x++y,false)=(x,(y,false)):=by
  intro x hx y
  obtain⟨i,hi,rfl,hp⟩:=GC rc.1 hx
  unfold CL Gs at hp
  rw[GD hi] at hp
  simp only[Bool.and_eq_true,decide_eq_true_eq] at hp
  obtain⟨g1,g2,g3,g4,_⟩:=hp
  exact zCU (h.c _ hx) (P3 g3) (P3 g4) ⟨g1,by omega⟩ y
 unfold ng fg
 rw[Gg ⟨by omega,by omega⟩,hJ (cU _ 8)]
 simp only
 rw[PF ⟨by omega,by omega⟩,hJ (cU _ 2)]
 simp only
 rw[GB (by have:=h.hn;omega) bh]
 simp only
 rw[GB (by have:=h.wn;omega) bw]
 simp only
 rw[GB (by have:=h.kn;omega) bk]
 simp only
 rw[GB (by have:=h.pn;omega) bp]
 simp only
 have:=GB (l:=s.2.2.2.2.2.2) (by have:=h.cn;omega) bc []
 rw[List.append_nil] at this
 rw[this]
theorem GF{s:bj}(h:CP s):bN (fg s):=by
 have one:∀ n:Int,bN [n % 256]:=fun n c hc=>by
  simp only[List.mem_cons,List.not_mem_nil,or_false] at hc
  subst hc;exact⟨by omega,by omega⟩
 have si:∀ x:aL,Gx x->bN (lh x):=fun x hx=>gv (gv (one _) (PA hx)) (iK _ 8)
 unfold fg gC
 refine gv (iK _ 8) (gv (iK _ 2) (gv (gv (iK _ 2) (Gz fun x hx=>?_)) (gv (gv (iK _ 2) (Gz fun x hx=>?_)) (gv (gv (iK _ 2) (Gz fun x hx=>?_))
  (gv (gv (iK _ 2) (Gz fun x hx=>?_)) (gv (iK _ 2) (Gz fun x hx=>?_)))))))
 ·exact gv (gv (gv (iK _ 4) (one _)) (zjp _)) (PA (h.h x hx).2.2)
 ·exact gv (gv (gv (iK _ 4) (one _)) (iK _ 8)) (iK _ 2)
 ·exact gv (iK _ 4) (gv (iK _ 2) (Gz fun y hy=>si y ((h.k x hx).2.2 y hy)))
 ·exact gv (gv (gv (iK _ 4) (iK _ 2)) (iK _ 8)) (one _)
 ·exact gv (gv (gv (iK _ 4) (iK _ 8)) (iK _ 8)) (one _)
theorem zC3{s:bj}(h:CP s)(hb:Xf s)(hr:qA s=true):gj (fg s)=(s,true):=by
 unfold gj
 rw[zCV h hb hr,if_pos ⟨rfl,rfl,hr⟩]
theorem CP.wf{s:bj}(h:CP s):PY s:=by
 have le:∀ n:Nat,n<=1000->n<=140737488355328:=fun n h=>by omega
 exact⟨fun x hx=>⟨(h.h x hx).1,le _ (h.h x hx).2.1,(h.h x hx).2.2⟩,le _ h.hn,h.w,le _ h.wn,fun x hx=>⟨(h.k x hx).1,(h.k x hx).2.2⟩,le _ h.kn,h.p,le _ h.pn,h.c,le _ h.cn⟩
section
variable {t:bj} (ht:PY t)
include ht
end
end Go.Tr
