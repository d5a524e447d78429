/- From a row's reading of its arguments to closed data, and back: what a law's contract gives its row.
  Conditions: none. -/
import Derived.Test.YtploofmfghjijaaGreatTrU
import Derived.ProofKit
import Derived.OpenShut
import Derived.SizedLaws
import Derived.JoinedCond
namespace Go.Tr
open Go Go.RowKit Go.WideShapes Go.ChangeShapes Go.ChangeAt
set_option linter.unusedVariables false
set_option linter.unusedSimpArgs false
def Sh.nb:Sh->Nat
 | .int k=>k.bits / 8
 | .bool=>1
 | .str=>16
 | .sl _=>24
 | .arr n e=>n*e.nb
 | .unit=>0
 | .pair a b=>a.nb+b.nb
 | .err=>16
 | .pt _=>8
def jK(M:Nat):(s:Sh)->s.T->Prop
 | .int k,n=>k.min<=n/\n<=k.max
 | .bool,_=>True
 | .str,l=>List.length l<=M
 | .sl e,xs=>List.length xs*e.nb<=M/\∀ i (h:i<List.length xs),jK M e (xs[i]'h)
 | .arr n e,_=>True
 | .unit,_=>True
 | .pair a b,x=>jK M a (Prod.fst x)/\jK M b (Prod.snd x)
 | .err,_=>True
 | .pt _,_=>True
def AX(sh:TypeId->Option Sh)(co:TypeId->Nat)(n:Nat):Nat->List (Nat×TypeId)->Option Sh
 | _,[]=>none
 | pos,(o,t)::r=>match r with
  | []=>match sh t with
   | some s=>match Nat.beq o pos&&Nat.beq s.size (co t)&&Nat.beq (pos+co t) n with
    | true=>some s
    | false=>none
   | none=>none
  | _=>match sh t,AX sh co n (pos+co t) r with
   | some s,some q=>match Nat.beq o pos&&Nat.beq s.size (co t) with
    | true=>some (.pair s q)
    | false=>none
   | _,_=>none
def yB(P:Program):Nat->TypeId->Option Sh
 | 0,_=>none
 | d+1,t=>match P.underlying t with
  | some (.int k)=>some (.int k)
  | some .bool=>some .bool
  | some .string=>some .str
  | some (.slice e)=>match yB P d e with
   | some s=>match Nat.beq s.size (P.cellsOf e)&&Nat.ble s.nb (P.bytesOf e)&&Nat.ble 1 s.size with
    | true=>some (.sl s)
    | false=>none
   | none=>none
  | some (.array n e)=>AX (yB P d) P.cellsOf (P.cellsOf t) 0 ((List.range n).map fun i=>(i*P.cellsOf e,e))
  | some (.struct fs)=>AX (yB P d) P.cellsOf (P.cellsOf t) 0 (fs.toList.map fun f=>(f.offset,f.type))
  | _=>none
section
variable {M:Nat} {H:Type} {en:TypeId×Value->H} {P:Program} {W:World}
def wR(W:World)(b:Nat):Prop:=b<W.heap.size
def Z4(M:Nat)(en:TypeId×Value->H)(P:Program)(W:World)(t:TypeId)(s:Sh):Prop:=
 ∀ (fuel:Nat) (cs:List Value) (r:DataW H×List MemPlace),DataW.trod en P W 0 (fun _=>true) true fuel t cs=some r->(∀ m∈r.1.weights P t,m<=M)->
  ∃ x:s.T,aN W (wR W) s x cs/\jK M s x
theorem R3{sh:TypeId->Option Sh}(M7:∀ t s,sh t=some s->Z4 M en P W t s){n fuel:Nat}{cs:List Value}(hl:cs.length=n):
  ∀ (ps:List (Nat×TypeId)) (pos:Nat) (s:Sh) (xs:List (DataW H×List MemPlace)),AX sh P.cellsOf n pos ps=some s->
   (∀ (j:Nat) (p:Nat×TypeId),ps[j]? =some p->∃ x,xs[j]? =some x/\DataW.trod en P W 0 (fun _=>true) true fuel p.2 ((cs.drop p.1).take (P.cellsOf p.2))=some x/\∀ m∈x.1.weights P p.2,m<=M)->
   ∃ x:s.T,aN W (wR W) s x (cs.drop pos)/\jK M s x
 | [],pos,s,xs,h,_=>by simp[AX] at h
 | [(o,t)],pos,s,xs,h,hx=>by
  simp only[AX] at h
  split at h
  ·rename_i s' hs
   split at h
   ·rename_i hb
    simp only[Option.some.injEq] at h
    subst h
    simp only[Bool.and_eq_true,Nat.beq_eq] at hb
    obtain⟨⟨rfl,pY⟩,R4⟩:=hb
    obtain⟨x,_,h2,h3⟩:=hx 0 _ rfl
    have he:(cs.drop o).take (P.cellsOf t)=cs.drop o:=List.take_of_length_le (by simp;omega)
    have:=M7 t s' hs fuel _ x h2 h3
    rwa [he] at this
   ·simp at h
  ·simp at h
 | (o,t)::q::r,pos,s,xs,h,hx=>by
  simp only[AX] at h
  split at h
  ·rename_i s' q' hs hq
   split at h
   ·rename_i hb
    simp only[Option.some.injEq] at h
    subst h
    simp only[Bool.and_eq_true,Nat.beq_eq] at hb
    obtain⟨rfl,pY⟩:=hb
    obtain⟨x,h1,h2,h3⟩:=hx 0 _ rfl
    obtain⟨a,ha,hwa⟩:=M7 t s' hs fuel _ x h2 h3
    obtain⟨b,hb,hwb⟩:=R3 M7 hl (q::r) (o+P.cellsOf t) q' xs.tail hq (fun j p hj=>by
     obtain⟨y,g1,g2⟩:=hx (j+1) p (by simpa using hj)
     exact⟨y,by simpa using g1,g2⟩)
    refine⟨(a,b),?_,hwa,hwb⟩
    simp only[aN]
    refine⟨_,_,?_,ha,hb⟩
    rw[<-List.drop_drop,List.take_append_drop]
   ·simp at h
  ·simp at h
theorem R5{e:TypeId}:∀ {ds:List (DataW H)} {j:Nat} {d:DataW H},ds[j]? =some d->∀ n∈d.weights P e,n∈DataW.weightsAll P e ds
 | [],j,d,h,n,hn=>by simp at h
 | d0::ds,0,d,h,n,hn=>by
  simp only[List.getElem?_cons_zero,Option.some.injEq] at h
  subst h
  simp only[DataW.weightsAll,List.mem_append]
  exact .inl hn
 | d0::ds,j+1,d,h,n,hn=>by
  simp only[List.getElem?_cons_succ] at h
  simp only[DataW.weightsAll,List.mem_append]
  exact .inr (R5 h n hn)
theorem opens:∀ (d:Nat) (t:TypeId) (s:Sh),yB P d t=some s->Z4 M en P W t s
 | 0,t,s,h=>by simp[yB] at h
 | d+1,t,s,h=>by
  intro fuel cs r hr hw
  simp only[yB] at h
  split at h
  ·rename_i k hu
   simp only[Option.some.injEq] at h;subst h
   obtain⟨n,rfl,rfl,nB⟩:=DataW.trod_int hu hr
   simp only[Lit.wf,Bool.and_eq_true,decide_eq_true_eq] at nB
   exact⟨n,by simp[aN],nB⟩
  ·rename_i hu
   simp only[Option.some.injEq] at h;subst h
   obtain⟨b,rfl,rfl⟩:=DataW.trod_bool hu hr
   exact⟨b,by simp[aN],trivial⟩
  ·rename_i hu
   simp only[Option.some.injEq] at h;subst h
   obtain⟨b,rfl,rfl,hs⟩:=DataW.trod_string hu hr
   refine⟨b.data.toList,by simp[aN],?_⟩
   exact hw _ (by simp[DataW.weights])
  ·rename_i e hu
   split at h
   ·rename_i s' gJ
    split at h
    ·rename_i hb
     simp only[Option.some.injEq] at h;subst h
     simp only[Bool.and_eq_true,Nat.beq_eq,Nat.ble_eq] at hb
     obtain⟨⟨tH,pY⟩,R4⟩:=hb
     rcases DataW.trod_slice hu hr with⟨rfl,rfl⟩ | ⟨a,len,cap,elems,rest,n,rfl,rfl,rfl,hba,hlc,hcap,Z5,hi,jY,_⟩
     ·exact⟨([]:List _),by simp only[aN];exact⟨none,0,rfl,Nat.le_refl _,.inl rfl⟩,by simp[jK]⟩
     ·have key:∀ i,i<len->∃ x:s'.T,∃ ys,W.cells? 0 (a.add (i*P.cellsOf e)) (P.cellsOf e)=some ys/\aN W (wR W) s' x ys/\jK M s' x:=by
       intro i hl
       have h1:=hi i hl
       obtain⟨y,hy⟩:∃ y,elems[i]? =some y:=⟨elems[i]'(by omega),by simp[Z5,hl]⟩
       rw[hy] at h1
       obtain⟨ys,h2,h3⟩:=Option.bind_eq_some_iff.1 h1
       obtain⟨x,h4,h5⟩:=opens d e s' gJ n ys y h3 (fun m hm=>hw m (by
        simp only[DataW.weights,hu,List.mem_cons,List.mem_append]
        exact .inr (.inl (R5 (j:=i) (by simp[hy]) m hm))))
       exact⟨x,ys,h2,h4,h5⟩
      have wI:∃ xs:List s'.T,xs.length=len/\∀ i (h:i<xs.length),∃ ys,W.cells? 0 (a.add (i*P.cellsOf e)) (P.cellsOf e)=some ys/\aN W (wR W) s' (xs[i]'h) ys/\jK M s' (xs[i]'h):=by
       refine⟨(List.range len).pmap (fun i (h:i<len)=>(key i h).choose) (fun i hm=>by simpa using hm),by simp,fun i h=>?_⟩
       have hl:i<len:=by simpa using h
       simpa using (key i hl).choose_spec
      obtain⟨xs,hlen,wI⟩:=wI
      refine⟨xs,?_,?_,fun i h=>(wI i h).choose_spec.2.2⟩
      ·simp only[aN]
       refine⟨some a,cap,by rw[hlen],by omega,?_⟩
       rcases Nat.eq_zero_or_pos xs.length with h0 | h0
       ·exact .inl h0
       ·refine .inr ⟨a.block,a.off,?_,?_,?_⟩
        ·obtain⟨ys,h1,h2,h3⟩:=wI 0 h0
         obtain⟨_,hl,hc⟩:=World.cells?_some h1
         have h4:=hc 0 (by omega)
         have cq:=aN.length _ _ _ h2
         obtain⟨c0,R6⟩:∃ c0,ys[0]? =some c0:=⟨ys[0]'(by omega),by simp⟩
         rw[R6] at h4
         simp[Addr.add] at h4
         cases a with
         | mk b o spot=>
          cases spot with
          | none=>rfl
          | some q=>
           simp only[World.cell?] at h4
           split at h4<;>simp at h4
        ·obtain⟨ys,h1,_⟩:=wI 0 h0
         have:=World.cells?_block h1 (by omega)
         simpa [Addr.add,wR] using this
        ·intro i h
         obtain⟨ys,h1,h2,h3⟩:=wI i h
         refine⟨ys,aN.length _ _ _ h2,?_,h2⟩
         obtain⟨_,hl,hc⟩:=World.cells?_some h1
         intro j hj
         have h4:=hc j (by omega)
         rw[List.getElem?_eq_getElem hj] at h4
         rw[<-h4,tH]
         have Z6:a.spot=none:=by
          obtain⟨Z7,cW,gF,jH⟩:=wI 0 h0
          obtain⟨_,qR,hc'⟩:=World.cells?_some cW
          have HX:=hc' 0 (by omega)
          have cq:=aN.length _ _ _ gF
          obtain⟨c0,R6⟩:∃ c0,Z7[0]? =some c0:=⟨Z7[0]'(by omega),by simp⟩
          rw[R6] at HX
          simp[Addr.add] at HX
          cases hq:a.spot with
          | none=>rfl
          | some q=>
           simp only[World.cell?,hq] at HX
           split at HX<;>simp at HX
         congr 1
         cases a
         simp only at Z6
         subst Z6
         simp only[Addr.add]
         split<;>split<;>simp_all<;>omega
      ·have:=hw ((elems.map (·.1)).length+(rest.map (·.1)).length |>.mul (P.bytesOf e)) (by simp[DataW.weights,hu,Nat.mul_eq])
       simp only[List.length_map,Nat.mul_eq] at this
       rw[hlen,<-Z5]
       exact Nat.le_trans (Nat.mul_le_mul (Nat.le_add_right _ _) pY) this
    ·simp at h
   ·simp at h
  ·rename_i n e hu
   obtain⟨xs,m,rfl,rfl,dh,hxl,hx⟩:=DataW.trod_array hu hr
   have:=R3 (fun t s h=>opens d t s h) (fuel:=m) dh _ 0 s xs h (fun j p hj=>by
    simp only[List.getElem?_map,Option.map_eq_some_iff] at hj
    obtain⟨i,hi,rfl⟩:=hj
    rw[List.getElem?_eq_some_iff] at hi
    obtain⟨AU,wQ⟩:=hi
    simp only[List.length_range] at AU
    simp only[List.getElem_range] at wQ
    subst wQ
    have h1:=hx j AU
    obtain⟨y,hy⟩:∃ y,xs[j]? =some y:=⟨xs[j]'(by omega),by simp⟩
    refine⟨y,hy,by rw[h1,hy],fun q hq=>hw q ?_⟩
    simp only[DataW.weights,hu]
    exact R5 (j:=j) (by simp[hy]) q hq)
   simpa using this
  ·rename_i fs hu
   obtain⟨xs,m,rfl,rfl,dh,hxl,hx⟩:=DataW.trod_struct hu hr
   have:=R3 (fun t s h=>opens d t s h) (fuel:=m) dh _ 0 s xs h (fun j p hj=>by
    simp only[List.getElem?_map,Option.map_eq_some_iff] at hj
    obtain⟨f,hf,rfl⟩:=hj
    have lT:fs[j]? =some f:=by simpa using hf
    have ly:j<fs.size:=by
     rcases Nat.lt_or_ge j fs.size with h | h
     ·exact h
     ·rw[Array.getElem?_eq_none h] at lT;simp at lT
    have h1:=hx j f lT
    obtain⟨y,hy⟩:∃ y,xs[j]? =some y:=⟨xs[j]'(by omega),by simp⟩
    refine⟨y,hy,by rw[h1,hy],fun q hq=>hw q ?_⟩
    simp only[DataW.weights,hu]
    exact DataW.weights_mem_each (j:=j) (t:=f.type) (by simp[lT]) (by simp[hy]) q hq)
   simpa using this
  ·simp at h
def Nk(ag:Bool)(s:Sh)(x:s.T):AV:=
 match ag with
 | true=>.agg (enc s x)
 | false=>match enc s x with
  | [v]=>v
  | _=>.mG
@[reducible] def HY:List (Bool×Sh)->Type
 | []=>Unit
 | p::r=>p.2.T×HY r
def HZ:(l:List (Bool×Sh))->HY l->List AV
 | [],_=>[]
 | p::r,x=>Nk p.1 p.2 x.1::HZ r x.2
def R7(M:Nat):(l:List (Bool×Sh))->HY l->Prop
 | [],_=>True
 | p::r,x=>jK M p.2 x.1/\R7 M r x.2
def vn(P:Program):List TypeId->List (Bool×Sh)->Bool
 | [],[]=>true
 | t::ts,(g,s)::r=>match yB P 16 t,nk P t with
  | some s',some g'=>decide (s'=s)&&(g'==g)&&s.flat&&Nat.blt t P.types.size&&P.readableRec t&&vn P ts r
  | _,_=>false
 | _,_=>false
theorem zoB{t:TypeId}{g:Bool}{s:Sh}(hs:yB P 16 t=some s)(hg:nk P t=some g)(hf:s.flat=true){v:Value}{d:DataW H}{ps:List MemPlace}{base:Nat}
  (hval:Value.okWide P W .any base t v) (h:DataW.Trod en P W 0 (fun _=>true) true t v d ps) (hw:∀ m∈d.weights P t,m<=M):
  ∃ x:s.T,VR ⟨W,fun _=>none,wR W⟩ (Nk g s x) v/\jK M s x:=by
 obtain⟨fuel,hd⟩:=h
 obtain⟨x,h1,h2⟩:=opens 16 t s hs fuel _ _ hd hw
 refine⟨x,?_,h2⟩
 have h3:=tJ (E:=⟨W,fun _=>none,wR W⟩) s hf x _ h1
 unfold nk at hg
 cases g with
 | true=>
  have:∃ cs,v=.agg cs:=by
   simp only[Value.okWide] at hval
   split at hg<;>simp_all
   all_goals (obtain⟨cs,h,_⟩:=hval;exact⟨cs,h⟩)
  obtain⟨cs,rfl⟩:=this
  simp only[Nk,VR]
  exact⟨cs.toList,by simp,by simpa [Value.cells] using h3⟩
 | false=>
  have:v.cells=#[v]:=by
   simp only[Value.okWide] at hval
   split at hg<;>simp_all
   cases v<;>first | rfl | skip
   simp only[Cell.okWide,Cell.ok] at hval
   split at hval<;>simp_all
  rw[this] at h3
  simp only[Nk]
  split
  ·rename_i v' he
   rw[he] at h3
   simp only[aR] at h3
   obtain⟨v2,r,hv,h4,rfl⟩:=h3
   simp at hv
   rw[hv];exact h4
  ·simp[VR]
theorem Z8{base:Nat}:∀ {ts:List TypeId} {l:List (Bool×Sh)} {vs:List Value} {ds:List (DataW H)} {ps:List MemPlace},vn P ts l=true->
  (∀ (j:Nat) t v,ts[j]? =some t->vs[j]? =some v->Value.okWide P W .any base t v)->DataW.TrodAll en P W 0 (fun _=>true) true ts vs ds ps->
  (∀ m∈DataW.weightsEach P ts ds,m<=M)->
  ∃ x:HY l,aR ⟨W,fun _=>none,wR W⟩ (HZ l x) vs/\R7 M l x
 | [],[],vs,ds,ps,hc,hval,hA,hw=>by
  obtain⟨rfl,rfl,rfl⟩:=trodAll_nil hA
  exact⟨(),by simp[HZ,aR],trivial⟩
 | [],p::r,vs,ds,ps,hc,hval,hA,hw=>by simp[vn] at hc
 | t::ts,[],vs,ds,ps,hc,hval,hA,hw=>by simp[vn] at hc
 | t::ts,(g,s)::r,vs,ds,ps,hc,hval,hA,hw=>by
  obtain⟨v,vs',d,ds',p,q,rfl,rfl,rfl,hd,vd⟩:=trodAll_cons hA
  simp only[vn] at hc
  split at hc
  ·rename_i s' g' gJ R8
   simp only[Bool.and_eq_true,decide_eq_true_eq,beq_iff_eq] at hc
   obtain⟨⟨⟨⟨⟨rfl,rfl⟩,Z9⟩,hlt⟩,sD⟩,hc⟩:=hc
   obtain⟨x,h1,h2⟩:=zoB gJ R8 Z9 (hval 0 t v rfl rfl) hd (fun m hm=>hw m (by simp[DataW.weightsEach,hm]))
   obtain⟨y,h3,h4⟩:=Z8 hc (fun j t' v' hj hv=>hval (j+1) t' v' (by simpa using hj) (by simpa using hv)) vd (fun m hm=>hw m (by simp[DataW.weightsEach,hm]))
   exact⟨(x,y),by simp only[HZ,aR];exact⟨_,_,rfl,h1,h3⟩,h2,h4⟩
  ·simp at hc
theorem zaa(hl:laidOutB P=true){W':World}(hb:Below W.heap.size W W'){sp:Nat->Bool}:∀ {ts:List TypeId} {l:List (Bool×Sh)} {vs:List Value} {ds:List (DataW H)} {ps:List MemPlace},vn P ts l=true->
  DataW.TrodAll en P W 0 (fun _=>true) true ts vs ds ps->(∀ p∈ps,p.block<W.heap.size)->(∀ p∈ps,sp p.block=true)->
  DataW.TrodAll en P W' 0 sp true ts vs ds ps
 | [],[],vs,ds,ps,hc,hA,hlt,jY=>by
  obtain⟨rfl,rfl,rfl⟩:=trodAll_nil hA
  exact trodAll_mk0
 | [],p::r,vs,ds,ps,hc,hA,hlt,jY=>by simp[vn] at hc
 | t::ts,[],vs,ds,ps,hc,hA,hlt,jY=>by simp[vn] at hc
 | t::ts,(g,s)::r,vs,ds,ps,hc,hA,hlt,jY=>by
  obtain⟨v,vs',d,ds',p,q,rfl,rfl,rfl,hd,vd⟩:=trodAll_cons hA
  simp only[vn] at hc
  split at hc
  ·simp only[Bool.and_eq_true,decide_eq_true_eq,beq_iff_eq,Nat.blt_eq] at hc
   obtain⟨⟨⟨⟨⟨rfl,rfl⟩,Z9⟩,ht⟩,sD⟩,hc⟩:=hc
   exact trodAll_cons_mk (WideElems.Trod_stays hl sD ht hd (fun x hx=>hb.same (hlt x (by simp[hx]))) (fun x hx=>jY x (by simp[hx])))
    (zaa hl hb hc vd (fun x hx=>hlt x (by simp[hx])) (fun x hx=>jY x (by simp[hx])))
  ·simp at hc
end
section
variable {H:Type} {enc:TypeId×Value->H} {P:Program}
theorem zoE{f:Func}{s:ChangeSpec}{apart fresh handsOn again:Bool}{W W':World}{args:Array Value}{v:Value}{ds gs:List (DataW H)}{before pa pv:List MemPlace}
  (hW:DataW.Whole enc P f.params.toList s.vars apart W args.toList ds gs before)
  (oZ:∀ (b:Nat) (sp:Nat->Bool) (hd:Bool),DataW.TrodAll enc P W' b sp hd f.resultTypes.toList (v.resultList f.resultTypes.size) (s.fn H (ds++gs)).results [])
  (M4:∀ sp:Nat->Bool,(∀ p∈before,sp p.block=true)->DataW.TrodAll enc P W' 0 sp true f.params.toList args.toList (s.fn H (ds++gs)).args pa)
  (yC:∀ sp:Nat->Bool,(∀ p∈before,sp p.block=true)->DataW.TrodVars enc P W' sp s.vars (s.fn H (ds++gs)).vars pv)
  (Nl:before=pa++pv) (hb:Below W.heap.size W W')
  (cR:∀ (j:Nat) (t:TypeId) (r:Value),f.resultTypes[j]? =some t->(v.resultList f.resultTypes.size)[j]? =some r->Value.okWide P W' .any 0 t r):
  s.post enc P f apart fresh handsOn again W args v W':=by
 have hlt:∀ p∈before,p.block<W.heap.size:=fun p hp=>hW.lt p hp
 have hold:∀ p∈before,(fun b=>decide (b<W.heap.size)) p.block=true:=fun p hp=>by simpa using hlt p hp
 refine⟨ds,gs,before,[],pa,pv,hW,oZ _ _ _,M4 _ hold,yC _ hold,World.keptBut_mono (fun p hp=>⟨hp,?_⟩) (hb.frame (·∈before)),fun _=>?_⟩
 ·rw[Nl,List.mem_append] at hp
  exact Or.inr hp
 ·obtain⟨_,_,_,_,_,hz,hn⟩:=hW
  refine⟨cR,_,_,([]++pa)++pv,⟨[]++pa,pv,trodAll_append (M4 _ (fun _ _=>rfl)) (oZ _ _ _),yC _ (fun _ _=>rfl),rfl,?_,?_⟩,?_⟩
  ·intro b off hp
   have hin:MemPlace.cell b off∈before:=by rw[Nl];simpa using hp
   rw[hb.frozen (hlt _ hin)]
   exact hz b off hin
  ·intro ha
   have:=hn ha
   rw[Nl] at this
   simpa using this
  ·intro p hp _
   rw[Nl]
   simpa using hp
end
theorem reach_le{H:Type}{P:Program}{ts:List TypeId}{s:ChangeSpec}(yC:s.vars=[]){W:World}{en:TypeId×Value->H}{apart:Bool}{args:List Value}{ds gs:List (DataW H)}{before:List MemPlace}
  (hW:DataW.Whole en P ts s.vars apart W args ds gs before) (hz:(DataW.weightsEach P (ts++s.plain.varTypes P) (ds++gs)).all (·<=reachBytes)=true):
  ∀ m∈DataW.weightsEach P ts ds,m<=140737488351232:=by
 obtain⟨p,q,hA,hV,rfl,hfz,R9⟩:=hW
 rw[yC] at hV
 obtain⟨rfl,rfl⟩:=trodVars_none hV
 intro m hm
 have hv:s.plain.varTypes P=[]:=by simp[ChangeSpec.plain,WideSpec.plain,DataSpec.varTypes,yC]
 rw[hv,List.append_nil,List.append_nil] at hz
 exact of_decide_eq_true (List.all_eq_true.1 hz m hm)
theorem law_post{M:Nat}{H:Type}{en:TypeId×Value->H}{P:Program}[Tabs P]{F:FuncId}{fn:Func}{s:ChangeSpec}{l:List (Bool×Sh)}{tb:TypeId}{apart fresh handsOn:Bool}
  (hl:laidOutB P=true) (pe:vn P fn.params.toList l=true) (yC:s.vars=[])
  (oZ:fn.resultTypes=#[tb]) (htb:P.underlying tb=some .bool)
  {W:World} {base:Nat} {args:Array Value} {ds gs:List (DataW H)} {before:List MemPlace}
  (M3:∀ x:HY l,R7 M l x->Z3 P F (HZ l x) (.bool true))
  (hG:Tabs.G P W fun b=>b<W.heap.size)
  (Sa:(s.fn H ds).results=[.lit (.bool true)]/\(s.fn H ds).args=ds/\(s.fn H ds).vars=[])
  (hval:∀ (j:Nat) t v,fn.params[j]? =some t->args[j]? =some v->Value.okWide P W .any base t v)
  (hW:DataW.Whole en P fn.params.toList s.vars apart W args.toList ds gs before)
  (lx:∀ m∈DataW.weightsEach P fn.params.toList ds,m<=M):
  Calls P F args W fun e W'=>∃ v,e=.returned v/\s.post en P fn apart fresh handsOn false W args v W':=by
 have hW':=hW
 obtain⟨p,q,hA,hV,rfl,hfz,R9⟩:=hW
 rw[yC] at hV
 obtain⟨rfl,rfl⟩:=trodVars_none hV
 have hlt:∀ x∈p++[],x.block<W.heap.size:=fun x hx=>hW'.lt x hx
 obtain⟨x,h1,h2⟩:=Z8 pe (fun j t v hj hv=>hval j t v (by simpa using hj) (by simpa using hv)) hA lx
 obtain⟨_,h3⟩:=M3 x h2
 have h4:=h3 W (wR W) args.toList hG (fun b h=>h) h1
 simp only[Array.toArray_toList] at h4
 refine h4.mono fun e W' ⟨v,nu,he,hk,_,_,hv⟩=>?_
 simp only[VR] at hv
 subst hv
 have hb:Below W.heap.size W W':=⟨hk.os,hk.tape,hk.output,hk.size,hk.heap⟩
 refine⟨_,he,zoE (pa:=p) (pv:=[]) hW' (fun b sp hd=>?_) (fun sp jY=>?_) (fun sp jY=>?_) rfl hb ?_⟩
 ·rw[List.append_nil,Sa.1,oZ]
  exact trodAll_cons_mk (shut_bool htb _) trodAll_mk0
 ·rw[List.append_nil,Sa.2.1]
  exact zaa hl hb pe hA (fun x hx=>hlt x (by simp[hx])) (fun x hx=>jY x (by simp[hx]))
 ·rw[List.append_nil,Sa.2.2,yC]
  rfl
 ·exact ok_one oZ rfl (okWide_bool_mk htb _)
end Go.Tr
