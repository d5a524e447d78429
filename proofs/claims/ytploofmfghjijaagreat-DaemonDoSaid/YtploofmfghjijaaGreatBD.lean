/- The evaluator in typed form: what code comes to, as an optional value; loops as fixed points; calls by their answers. Shapes of states: closed data out of a state, and back; a state so laid anew says no more. Contracts of functions: typed arguments, typed results, objects that are handed over. Calls by contracts: a table of contracts is a table of calls. Conditions: none but those that each theorem states. -/
import Derived.Test.YtploofmfghjijaaGreatTrX
namespace Go.Tr
open Go
set_option linter.unusedVariables false
set_option linter.unusedSimpArgs false
universe u
def ay{X:Type}(b:Bool)(x y:Option X):Option X:=
 match b with
 | true=>x
 | false=>y
noncomputable def aj{X:Type}(p:Prop)(x:Option X):Option X:=@ite _ p (Classical.propDecidable p) x none
def ab{α X:Type}(v:α)(f:α->Option X):Option X:=f v
def ao{Y X:Type}(y:Option Y)(f:Y->Option X):Option X:=
 match y with
 | some y=>f y
 | none=>none
noncomputable def bU{Y X:Type}(c:Bool)(y:Option Y)(d:Y)(f:Y->Option X):Option X:=aj (c=true->y.isSome=true) (f (y.getD d))
def cC{A B X:Type}(s:A⊕B)(f:A->Option X)(h:B->Option X):Option X:=
 match s with
 | .inl a=>f a
 | .inr b=>h b
def iterM{S Y:Type}(f:S->Option (S⊕Y)):Nat->S->Option Y
 | 0,_=>none
 | n+1,s=>match f s with
  | none=>none
  | some (.inl s')=>iterM f n s'
  | some (.inr y)=>some y
open Classical in
noncomputable def ct{S Y:Type}(f:S->Option (S⊕Y))(s:S):Option Y:=if h:∃ n y,iterM f n s=some y then some h.choose_spec.choose else none
structure kS where
 ay:{X:Type}->Bool->Option X->Option X->Option X
 aj:{X:Type}->Prop->Option X->Option X
 lt:{α X:Type}->α->(α->Option X)->Option X
 ao:{Y X:Type}->Option Y->(Y->Option X)->Option X
 bU:{Y X:Type}->Bool->Option Y->Y->(Y->Option X)->Option X
 sum:{A B X:Type}->A⊕B->(A->Option X)->(B->Option X)->Option X
 loop:{S Y:Type}->(S->Option (S⊕Y))->S->Option Y
noncomputable def std:kS:=⟨ay,aj,ab,ao,bU,cC,ct⟩
theorem AY{X:Type}{p:Prop}{x:Option X}{y:X}(h:aj p x=some y):p/\x=some y:=by
 unfold aj at h
 split at h
 ·exact⟨by assumption,h⟩
 ·simp at h
theorem aC{X:Type}{p:Prop}(h:p)(x:Option X):aj p x=x:=by
 unfold aj;rw[if_pos h]
theorem zoI{X:Type}{p:Prop}(h:¬ p)(x:Option X):aj p x=none:=by
 unfold aj;rw[if_neg h]
theorem zac{Y X:Type}{y:Option Y}{f:Y->Option X}{x:X}(h:ao y f=some x):∃ z,y=some z/\f z=some x:=by
 cases y with
 | none=>simp[ao] at h
 | some z=>exact⟨z,rfl,h⟩
theorem Sc{S Y:Type}{f:S->Option (S⊕Y)}:∀ {n:Nat} {s:S} {y:Y},iterM f n s=some y->∀ {m:Nat},n<=m->iterM f m s=some y
 | 0,s,y,h,m,hm=>by simp[iterM] at h
 | n+1,s,y,h,m,hm=>by
  obtain⟨m,rfl⟩:∃ k,m=k+1:=⟨m-1,by omega⟩
  simp only[iterM] at h ⊢
  split at h
  ·simp at h
  ·exact Sc h (by omega)
  ·exact h
theorem Nn{S Y:Type}{f:S->Option (S⊕Y)}{s:S}{y:Y}:ct f s=some y ↔ ∃ n,iterM f n s=some y:=by
 unfold ct
 constructor
 ·intro h
  split at h
  ·rename_i hh
   exact⟨hh.choose,by rw[<-h];exact hh.choose_spec.choose_spec⟩
  ·simp at h
 ·rintro ⟨n,h⟩
  have hh:∃ n y,iterM f n s=some y:=⟨n,y,h⟩
  rw[dif_pos hh]
  have h2:=hh.choose_spec.choose_spec
  have a:=Sc h (Nat.le_max_left n hh.choose)
  have b:=Sc h2 (Nat.le_max_right n hh.choose)
  rw[a] at b
  exact b.symm
theorem zad{S Y:Type}(f:S->Option (S⊕Y))(s:S):ct f s=match f s with
  | none=>none
  | some (.inl s')=>ct f s'
  | some (.inr y)=>some y:=by
 apply Option.ext
 intro y
 rw[Nn]
 cases hf:f s with
 | none=>
  constructor
  ·rintro ⟨n,h⟩
   cases n<;>simp[iterM,hf] at h
  ·intro h;simp at h
 | some z=>
  cases z with
  | inl s'=>
   constructor
   ·rintro ⟨n,h⟩
    cases n with
    | zero=>simp[iterM] at h
    | succ n=>simp only[iterM,hf] at h;exact Nn.2 ⟨n,h⟩
   ·intro h
    obtain⟨n,hn⟩:=Nn.1 h
    exact⟨n+1,by simp only[iterM,hf];exact hn⟩
  | inr y'=>
   constructor
   ·rintro ⟨n,h⟩
    cases n with
    | zero=>simp[iterM] at h
    | succ n=>simp only[iterM,hf] at h;exact h
   ·intro h
    exact⟨1,by simp only[iterM,hf];exact h⟩
noncomputable def jZ(M:kS){X:Type}(l:List Prop)(x:Option X):Option X:=
 List.rec (motive:=fun _=>Option X) x (fun p _ ih=>M.aj p ih) l
noncomputable def En(M:kS){X:Type}(c:Bool)(l:List Prop)(x:Option X):Option X:=
 List.rec (motive:=fun _=>Option X) x (fun p _ ih=>M.aj (c=true->p) ih) l
theorem mO{X:Type}{x:X}:∀ {l:List Prop} {y:Option X},jZ std l y=some x->(∀ p∈l,p)/\y=some x
 | [],y,h=>⟨fun p hp=>by simp at hp,h⟩
 | p::l,y,h=>by
  have h':aj p (jZ std l y)=some x:=h
  obtain⟨h1,h2⟩:=AY h'
  obtain⟨h3,h4⟩:=mO h2
  refine⟨fun q hq=>?_,h4⟩
  rcases List.mem_cons.1 hq with rfl | hq
  ·exact h1
  ·exact h3 q hq
theorem H2{X:Type}{x:X}{c:Bool}:∀ {l:List Prop} {y:Option X},En std c l y=some x->(∀ p∈l,c=true->p)/\y=some x
 | [],y,h=>⟨by simp,h⟩
 | p::l,y,h=>by
  have h':aj (c=true->p) (En std c l y)=some x:=h
  obtain⟨h1,h2⟩:=AY h'
  obtain⟨h3,h4⟩:=H2 h2
  refine⟨fun q hq=>?_,h4⟩
  rcases List.mem_cons.1 hq with rfl | hq
  ·exact h1
  ·exact h3 q hq
noncomputable def Sd(M:kS){X:Type}(b:Bool)(v:AV)(k:AV->Option X):Option X:=
 match b with
 | true=>match v with
  | .int kk n=>M.lt n fun n=>k (.int kk n)
  | .bool b=>M.lt b fun b=>k (.bool b)
  | .str l=>M.lt l fun l=>k (.str l)
  | .fsl e xs=>M.lt xs fun xs=>k (.fsl e xs)
  | .dq e x off=>M.lt x fun x=>k (.dq e x off)
  | .ite _ _ _=>none
  | v=>k v
 | false=>match v with
  | .ite _ _ _=>none
  | v=>k v
def No(v:AV):Bool:=
 match v with
 | .ite _ _ _=>false
 | _=>true
theorem zae{X:Type}{b:Bool}{v:AV}{k:AV->Option X}{x:X}(h:Sd std b v k=some x):No v=true/\k v=some x:=by
 have no:¬ (none:Option X)=some x:=by simp
 cases b<;>cases v<;>first
  | exact⟨rfl,h⟩
  | exact (no h).elim
theorem zaf{v:AV}{k:AV->Prop}(h:No v=true)(hk:k v):Aq v k:=by
 cases v<;>first
  | exact hk
  | simp[No] at h
def zag(o:Op):Bool:=
 match o with
 | .binOp op _ _ _ _=>match op with
  | .lss=>false
  | .leq=>false
  | .gtr=>false
  | .geq=>false
  | _=>true
 | .convert _ _ _=>true
 | .index _ _ _=>true
 | .indexAddr _ _ _=>true
 | .unOp op _ _=>match op with
  | .not=>false
  | _=>true
 | .pick _ _ _=>true
 | _=>false
structure wS where
 Y:Type
 val:Option Y
 ft:Y
 res:Y->AV
 lA:Y->cx
 go:(X:Type)->kS->Y->(Y->Option X)->Option X
 zoJ:∀ (X:Type) (y:Y) (k:Y->Option X),go X std y k=k y
abbrev qT:=FuncId->List AV->(Nat->Option AO)->Nat->Option wS
def sG(CO:qT):Ctx:=fun F args ob nm=>match CO F args ob nm with
 | none=>none
 | some R=>some (R.val.isSome=true,R.res (R.val.getD R.ft),R.lA (R.val.getD R.ft))
def Se:Ctx:=fun _ _ _ _=>none
def Eo(o:Oper):Option (Operand×List Operand):=
 match o.op with
 | .call c=>match c.callee with
  | .value f=>some (f,c.args.toList)
  | _=>none
 | _=>none
noncomputable def Np(tm:Nat->Option AV)(f:Operand)(xs:List Operand):Option (List Prop×List Prop×FuncId×List AV):=
 fe tm f fun p QV=>pS tm xs fun q args=>match QV with
  | .fn F first cap=>some (p,q,F,bQ first (bQ args cap))
  | _=>none
theorem zah(tm:Nat->Option AV)(x:Operand):∃ p v,∀ {α:Type} (k:List Prop->AV->Option α),fe tm x k=k p v:=by
 cases h:fc tm x with
 | when g v=>exact⟨[g=true],v,fun k=>by simp only[fe,h,jU]⟩
 | _=>exact⟨[],_,fun k=>by simp only[fe,h,jU];rfl⟩
theorem zai(tm:Nat->Option AV):∀ (xs:List Operand),∃ p vs,∀ {α:Type} (k:List Prop->List AV->Option α),pS tm xs k=k p vs
 | []=>⟨[],[],fun k=>rfl⟩
 | x::r=>by
  obtain⟨p,v,h⟩:=zah tm x
  obtain⟨q,vs,g⟩:=zai tm r
  exact⟨p++q,v::vs,fun k=>by simp only[pS,h,g]⟩
theorem zaj{P:Program}{C:Ctx}{tm:Nat->Option AV}{ob:Nat->Option AO}{nm:Nat}{o:Oper}{f:Operand}{xs:List Operand}(hc:Eo o=some (f,xs)){p q:List Prop}{F:FuncId}{args:List AV}
  (ha:Np tm f xs=some (p,q,F,args)):mH P C tm ob nm o=match C F args ob nm with
   | some (r,v,u)=>some ⟨bQ p (bQ q [r]),v,u⟩
   | none=>none:=by
 unfold Eo at hc
 split at hc
 ·rename_i c bT
  split at hc
  ·rename_i f' Sf
   simp only[Option.some.injEq,Prod.mk.injEq] at hc
   obtain⟨rfl,rfl⟩:=hc
   obtain⟨p',v,h1⟩:=zah tm f'
   obtain⟨q',vs,h2⟩:=zai tm c.args.toList
   unfold Np at ha
   rw[h1,h2] at ha
   split at ha
   ·simp only[Option.some.injEq,Prod.mk.injEq] at ha
    obtain⟨rfl,rfl,rfl,rfl⟩:=ha
    unfold mH
    simp only[bT,Sf,h1,h2]
    split<;>rename_i heq<;>simp only[heq,jU]
   ·simp at ha
  ·simp at hc
 ·simp at hc
theorem zak{P:Program}{C:Ctx}{tm:Nat->Option AV}{ob:Nat->Option AO}{nm:Nat}{o:Oper}(hc:Eo o=none):mH P C tm ob nm o=mH P Se tm ob nm o:=by
 unfold mH
 unfold Eo at hc
 split at hc
 ·rename_i c bT
  split at hc
  ·simp at hc
  ·rename_i Sf
   simp only[bT]
   split<;>first | rfl | (rename_i heq;exact absurd heq (Sf _))
 ·rename_i bT
  cases h:o.op<;>first | rfl | (exact absurd h (bT _))
noncomputable def Sg(M:kS)(P:Program)(CO:qT){X:Type}(all:List Oper)(o:Oper)(ih:Nat->Ga->(List Tr->Ga->Option X)->Option X)(i:Nat)(g:Ga)(k:List Tr->Ga->Option X):Option X:=
 match g with
 | ⟨tm,ob,nx,nt⟩=>match G9 nt o.dst with
  | false=>none
  | true=>match tF all (aQ tm) o with
   | none=>none
   | some none=>sg (nx+16*i) fun nm=>match Eo o with
    | some (f,xs)=>match Np (aQ tm) f xs with
     | some (p,q,F,args)=>match CO F args (dP ob) nm with
      | some R=>jZ M p (jZ M q (M.ao R.val fun y=>R.go X M y fun y=>fv (R.res y) fun v=>match No v with
       | true=>Ga.app ⟨tm,ob,nx,nt⟩ o.dst v (R.lA y) fun g1=>ih (i+1) g1 fun tr g'=>k (⟨o,v,R.lA y,kI o.op (dP ob) (ir (aQ tm) o.op.operands.toList)⟩::tr) g'
       | false=>none))
      | none=>none
     | none=>none
    | none=>match mH P Se (aQ tm) (dP ob) nm o with
     | none=>none
     | some ⟨eU,v,u⟩=>jZ M eU (Sd M (zag o.op) v fun v'=>Ga.app ⟨tm,ob,nx,nt⟩ o.dst v' u fun g1=>ih (i+1) g1 fun tr g'=>k (⟨o,v',u,kI o.op (dP ob) (ir (aQ tm) o.op.operands.toList)⟩::tr) g')
   | some (some c)=>sg (nx+16*i) fun nm=>match Eo o with
    | some (f,xs)=>match Np (aQ tm) f xs with
     | some (p,q,F,args)=>match CO F args (dP ob) nm with
      | some R=>En M c p (En M c q (M.bU c R.val R.ft fun y=>fv (R.res y) fun v=>Ga.app ⟨tm,ob,nx,nt⟩ o.dst (.when c v) (sq (R.lA y)) fun g1=>ih (i+1) g1 fun tr g'=>k (⟨o,.when c v,sq (R.lA y),kI o.op (dP ob) (ir (aQ tm) o.op.operands.toList)⟩::tr) g'))
      | none=>none
     | none=>none
    | none=>match mH P Se (aQ tm) (dP ob) nm o with
     | some ⟨eU,v,[]⟩=>En M c eU (Sd M (zag o.op) v fun v=>Ga.app ⟨tm,ob,nx,nt⟩ o.dst (.when c v) [] fun g1=>ih (i+1) g1 fun tr g'=>k (⟨o,.when c v,[],kI o.op (dP ob) (ir (aQ tm) o.op.operands.toList)⟩::tr) g')
     | none=>En M c [False] (Ga.app ⟨tm,ob,nx,nt⟩ o.dst (.when c (DF P o.type)) [] fun g1=>ih (i+1) g1 fun tr g'=>k (⟨o,.when c (DF P o.type),[],kI o.op (dP ob) (ir (aQ tm) o.op.operands.toList)⟩::tr) g')
     | _=>none
noncomputable def H3(M:kS)(P:Program)(CO:qT){X:Type}(all:List Oper)(i:Nat)(ops:List Oper):Ga->(List Tr->Ga->Option X)->Option X:=
 List.rec (motive:=fun _=>Nat->Ga->(List Tr->Ga->Option X)->Option X)
  (fun i g k=>match g with
   | ⟨tm,ob,nx,nt⟩=>k [] ⟨tm,ob,nx+16*i,nt⟩)
  (fun o _ ih i g k=>Sg M P CO all o ih i g k) ops i
theorem zoK(M:kS)(P:Program)(CO:qT){X:Type}(all:List Oper)(i:Nat)(o:Oper)(r:List Oper)(g:Ga)(k:List Tr->Ga->Option X):
  H3 M P CO all i (o::r) g k=Sg M P CO all o (fun i=>H3 M P CO all i r) i g k:=rfl
theorem Ga.vi{α:Sort u}(tm:List (Nat×AV))(ob:cx)(nx nt:Nat)(d:Option Nat)(v:AV)(u:cx)(k:Ga->α):Ga.app ⟨tm,ob,nx,nt⟩ d v u k=match d with
  | some d=>k ⟨(d,v)::tm,u++ob,nx,nt⟩
  | none=>k ⟨tm,u++ob,nx,nt⟩:=by
 simp only[Ga.app,RH,iC]
 cases d<;>rfl
theorem zal{p q:List Prop}{s:Prop}(hp:∀ x∈p,x)(hq:∀ x∈q,x)(hs:s):∀ x∈bQ p (bQ q [s]),x:=by
 intro x hx
 rw[iC,iC] at hx
 rcases List.mem_append.1 hx with hx | hx
 ·exact hp x hx
 ·rcases List.mem_append.1 hx with hx | hx
  ·exact hq x hx
  ·simp at hx;rw[hx];exact hs
theorem AZ{P:Program}{CO:qT}{X:Type}{x:X}{all:List Oper}:∀ (ops:List Oper) (i:Nat) (g:Ga) (k:List Tr->Ga->Option X),H3 std P CO all i ops g k=some x->
  uZ P (sG CO) all i ops g fun tr g'=>k tr g'=some x
 | [],i,g,k,h=>h
 | o::r,i,g,k,h=>by
  rw[zoK] at h
  rw[QX]
  obtain⟨tm,ob,nx,nt⟩:=g
  unfold Sg at h
  unfold Hb
  simp only at h ⊢
  split at h
  ·simp at h
  ·rename_i hd
   simp only[hd]
   split at h
   ·simp at h
   ·rename_i hg
    simp only[hg]
    rw[qP] at h ⊢
    split at h
    ·rename_i f xs hc
     split at h
     ·rename_i p q F args ha
      split at h
      ·rename_i R hR
       rw[zaj hc ha]
       obtain⟨h1,h⟩:=mO h
       obtain⟨h2,h⟩:=mO h
       obtain⟨y,hy,h⟩:=zac h
       rw[R.zoJ,jU] at h
       split at h
       ·rename_i hn
        simp only[sG,hR,hy,Option.isSome_some,Option.getD_some]
        refine HS.2 ⟨zal h1 h2 (by simp),zaf hn ?_⟩
        rw[Ga.vi] at h ⊢
        split at h<;>exact AZ r _ _ _ h
       ·simp at h
      ·simp at h
     ·simp at h
    ·rename_i hc
     rw[zak hc]
     split at h
     ·simp at h
     ·rename_i eU v u bT
      simp only[bT]
      obtain⟨h1,h⟩:=mO h
      obtain⟨hn,h⟩:=zae h
      refine HS.2 ⟨h1,zaf hn ?_⟩
      rw[Ga.vi] at h ⊢
      split at h<;>exact AZ r _ _ _ h
   ·rename_i c hg
    simp only[hg]
    rw[qP] at h ⊢
    split at h
    ·rename_i f xs hc
     split at h
     ·rename_i p q F args ha
      split at h
      ·rename_i R hR
       rw[zaj hc ha]
       obtain⟨h1,h⟩:=H2 h
       obtain⟨h2,h⟩:=H2 h
       have h':aj (c=true->R.val.isSome=true) _=some x:=h
       obtain⟨h3,h⟩:=AY h'
       simp only[sG,hR]
       rw[jU] at h
       refine wL.2 ⟨fun Ba=>?_,?_⟩
       ·exact zal (fun z hz=>h1 z hz Ba) (fun z hz=>h2 z hz Ba) (h3 Ba)
       ·rw[Ga.vi] at h ⊢
        split at h<;>exact AZ r _ _ _ h
      ·simp at h
     ·simp at h
    ·rename_i hc
     rw[zak hc]
     split at h
     ·rename_i eU v bT
      simp only[bT]
      obtain⟨h1,h⟩:=H2 h
      obtain⟨hn,h⟩:=zae h
      refine wL.2 ⟨fun Ba p hp=>h1 p hp Ba,?_⟩
      rw[Ga.vi] at h ⊢
      split at h<;>exact AZ r _ _ _ h
     ·rename_i bT
      simp only[bT]
      obtain⟨h1,h⟩:=H2 h
      refine wL.2 ⟨fun Ba p hp=>h1 p hp Ba,?_⟩
      rw[Ga.vi] at h ⊢
      split at h<;>exact AZ r _ _ _ h
     ·simp at h
structure lZ where
 S:Type
 dec:Ga->Option (List Prop×S)
 enc:S->Ga
 exit:Nat
 T:Type
 H4:Ga->Option (List Prop×T)
 Nq:T->Ga
def lB(g g':Ga):Prop:=∀ (W0:WX) (okIn B:Nat->Prop) (E:Env) (a:Act),mN W0 okIn B g E a->∃ E',E'.w=E.w/\mN W0 okIn B g' E' a
structure lZ.OK(D:lZ):Prop where
 dec:∀ g q s,D.dec g=some (q,s)->(∀ p∈q,p)->lB g (D.enc s)
 H4:∀ g q s,D.H4 g=some (q,s)->(∀ p∈q,p)->lB g (D.Nq s)
def wU:Code->Option Nat
 | .region id _ _=>some id
 | .seq a b=>match wU a with
  | some i=>some i
  | none=>wU b
 | .cond _ a b=>match wU a with
  | some i=>some i
  | none=>wU b
 | .block _ c=>wU c
 | .loop c=>wU c
 | .scope c=>wU c
 | _=>none
def Bb(LS:List (Nat×lZ))(k:Option Nat):Option lZ:=
 match k with
 | some k=>go LS k
 | none=>none
 where
 go:List (Nat×lZ)->Nat->Option lZ
  | [],_=>none
  | (m,x)::r,n=>match Nat.beq n m with
   | true=>some x
   | false=>go r n
abbrev yD(R:Type):=(X:Type)->Ga->(R->Option X)->Option X
structure yD.Nat{R:Type}(ret:yD R):Prop where
 nat:∀ (Y:Type) (g:Ga) (f:R->Option Y) (y:Y),ret Y g f=some y->∃ r,f r=some y/\∀ (X:Type) (k:R->Option X),ret X g k=k r
noncomputable def vp(M:kS){R:Type}(D:lZ)(e:Exit)(g:Ga):Option (D.S⊕(D.T⊕R)):=
 match e with
 | .normal=>match D.dec g with
  | some (q,s)=>jZ M q (some (.inl s))
  | none=>none
 | .exit id=>match Nat.beq id D.exit with
  | true=>match D.H4 g with
   | some (q,t)=>jZ M q (some (.inr (.inl t)))
   | none=>none
  | false=>none
 | _=>none
noncomputable def l7(M:kS)(P:Program)(CO:Bool->qT)(LS:List (Nat×lZ)){R:Type}(ret:yD R)(c:Code):(X:Type)->(R->X)->Ga->(Exit->Ga->Option X)->Option X:=
 Code.rec (motive:=fun _=>(X:Type)->(R->X)->Ga->(Exit->Ga->Option X)->Option X)
  (skip:=fun X inj g k=>k .normal g)
  (region:=fun _ ops draw X inj g k=>match draw with
   | false=>H3 M P (CO false) ops.toList 0 ops.toList g fun _ g'=>g'.jl fun gy=>k .normal gy
   | true=>H3 M P (CO true) ops.toList 0 ops.toList g fun tr g'=>match yb ops.toList tr with
    | true=>g'.jl fun gy=>k .normal gy
    | false=>none)
  (seq:=fun _ _ fP fQ X inj g k=>fP X inj g fun e g'=>match e with
   | .normal=>fQ X inj g' k
   | e=>k e g')
  (cond:=fun c _ _ fP fQ X inj g k=>match fc (aQ g.tmps) c with
   | .bool t=>M.ay t (fP X inj (g.vl c true) k) (fQ X inj (g.vl c false) k)
   | .when w (.bool t)=>M.aj (w=true) (M.ay t (fP X inj g k) (fQ X inj g k))
   | _=>none)
  (block:=fun id _ ih X inj g k=>ih X inj g fun e g'=>match e with
   | .exit kR=>match Nat.beq kR id with
    | true=>k .normal g'
    | false=>k (.exit kR) g'
   | e=>k e g')
  (loop:=fun c ih X inj g k=>match Bb LS (wU c) with
   | none=>none
   | some D=>match D.dec g with
    | none=>none
    | some (q,s)=>jZ M q (M.ao (M.loop (fun s=>(D.enc s).jl fun g'=>ih (D.S⊕(D.T⊕R)) (fun r=>.inr (.inr r)) g' (vp M D)) s) fun o=>M.sum o (fun t=>(D.Nq t).jl fun g'=>k (.exit D.exit) g') (fun r=>some (inj r))))
  (rangeFunc:=fun _ _ _ _ _ _ _ _ _ _=>none)
  (exit:=fun id X inj g k=>k (.exit id) g)
  (scope:=fun _ _ _ _ _ _=>none)
  (label:=fun _ X inj g k=>k .normal g)
  (goto:=fun _ _ _ _ _=>none)
  (ret:=fun X inj g k=>ret X g fun r=>some (inj r))
  (refuse:=fun _ _ _ _ _=>none) c
def tR{R X:Type}(ret:yD R)(inj:R->X)(k:Exit->Ga->Option X)(x:X)(e:Exit)(g:Ga):Prop:=
 match e with
 | .ret=>ret X g (fun r=>some (inj r))=some x
 | e=>k e g=some x
theorem pf.zoL{P:Program}[Tabs P]{c:Code}{g:Ga}{k:Exit->Ga->Prop}{ι:Type}(G:ι->Ga)(A:ι->Prop)(m:ι->Nat)(i0:ι)(h0:A i0)(hs0:lB g (G i0))
  (hb:∀ i,A i->pf P c (G i) fun e g'=>match e with
   | .normal=>∃ i',A i'/\m i'<m i/\lB g' (G i')
   | e=>∃ gy,k e gy/\lB g' gy):pf P (.loop c) g k:=by
 intro W0 okIn B E a hT hs
 refine wp_loop_ghost (fun n a w=>∃ i E,m i=n/\A i/\E.w=w/\mN W0 okIn B (G i) E a) (m i0) ?_ ?_
 ·obtain⟨E',h1,h2⟩:=hs0 W0 okIn B E a hs
  exact⟨i0,E',rfl,h0,h1,h2⟩
 ·rintro n a w ⟨i,E,rfl,hA,rfl,hs⟩
  refine wp_mono (hb i hA W0 okIn B E a hT hs) fun e a' w' hq=>?_
  obtain⟨g',E',h1,rfl,h3⟩:=hq
  have key:(∃ gy,k e gy/\lB g' gy)->∃ gy oc,k e gy/\oc.w=E'.w/\mN W0 okIn B gy oc a':=by
   rintro ⟨gy,h4,h5⟩
   obtain⟨oc,h6,h7⟩:=h5 W0 okIn B E' a' h3
   exact⟨gy,oc,h4,h6,h7⟩
  cases e with
  | normal=>
   obtain⟨i',h4,h5,h6⟩:=h1
   obtain⟨oc,h7,h8⟩:=h6 W0 okIn B E' a' h3
   exact⟨m i',h5,i',oc,rfl,h4,h7,h8⟩
  | _=>exact key h1
theorem lB.refl(g:Ga):lB g g:=fun _ _ _ E _ h=>⟨E,rfl,h⟩
theorem lB.trans{g1 g2 g3:Ga}(h:lB g1 g2)(h':lB g2 g3):lB g1 g3:=fun W0 okIn B E a hs=>by
 obtain⟨E',h1,h2⟩:=h W0 okIn B E a hs
 obtain⟨oc,h3,h4⟩:=h' W0 okIn B E' a h2
 exact⟨oc,h3.trans h1,h4⟩
theorem lB.nt{g g':Ga}(h:lB g g'){W0:WX}{okIn B:Nat->Prop}{E:Env}{a:Act}(hs:mN W0 okIn B g E a):g'.nt=g.nt:=by
 obtain⟨E',_,h2⟩:=h W0 okIn B E a hs
 exact h2.size.symm.trans hs.size
theorem Si{α:Sort u}(g:Ga)(k:Ga->α):∃ g',g.jl k=k g'/\lB g g':=by
 obtain⟨g',h1,h2⟩:=RY g k
 exact⟨g',h1,fun W0 okIn B E a h=>⟨E,rfl,h2 W0 okIn B E a h⟩⟩
theorem pf.sub{P:Program}[Tabs P]{c:Code}{g g':Ga}{k:Exit->Ga->Prop}(hs:lB g g')(h:pf P c g' k):pf P c g k:=by
 intro W0 okIn B E a hT hg
 obtain⟨E',h1,h2⟩:=hs W0 okIn B E a hg
 rw[<-h1]
 exact h W0 okIn B E' a hT h2
universe v
theorem Sj{α:Sort u}{β:Sort v}(f:α->β):∀ (l:List (Nat×AV)) (s:Nat) (k:List (Nat×AV)->α),f (wx s l k)=wx s l fun l'=>f (k l')
 | [],s,k=>rfl
 | (n,v)::r,s,k=>by
  rw[Mu,Mu]
  split
  ·exact Sj f r s k
  ·rw[jU,jU];exact Sj f r _ _
theorem Nr{α:Sort u}{β:Sort v}(f:α->β):∀ (l:cx) (s:Nat) (k:cx->α),f (tE s l k)=tE s l fun l'=>f (k l')
 | [],s,k=>rfl
 | (n,o)::r,s,k=>by
  rw[Mw,Mw]
  split
  ·exact Nr f r s k
  ·simp only[qP,RX]
   cases o with
   | none=>exact Nr f r _ k
   | some o=>exact Nr f r _ _
theorem zam{α:Sort u}{β:Sort v}(f:α->β)(g:Ga)(k:Ga->α):f (g.jl k)=g.jl fun g'=>f (k g'):=by
 obtain⟨tm,ob,nx,nt⟩:=g
 simp only[Ga.jl]
 rw[Sj f]
 congr 1
 funext iq
 rw[Nr f]
 congr 1
 funext ob'
 rw[qP,qP]
theorem zoN{l:List Prop}{q q':Prop}(h:q->q')(hq:Ao l q):Ao l q':=by
 obtain⟨h1,h2⟩:=HS.1 hq
 exact HS.2 ⟨h1,h h2⟩
theorem zoO{v:AV}{k k':AV->Prop}(h:∀ v,k v->k' v)(hk:Aq v k):Aq v k':=by
 cases v<;>try exact h _ hk
 rename_i c a b
 simp only[Aq,jU] at hk ⊢
 exact⟨fun hc=>h _ (hk.1 hc),fun hc=>h _ (hk.2 hc)⟩
theorem Sk{d:Option Nat}{v:AV}{u:cx}{k k':Ga->Prop}{g:Ga}(h:∀ g,k g->k' g)(hk:Ga.app g d v u k):Ga.app g d v u k':=by
 obtain⟨tm,ob,nx,nt⟩:=g
 rw[Ga.vi] at hk ⊢
 cases d<;>exact h _ hk
theorem Ns{P:Program}{C:Ctx}{all:List Oper}{k k':List Tr->Ga->Prop}(h:∀ tr g,k tr g->k' tr g):∀ (ops:List Oper) (i:Nat) (g:Ga),uZ P C all i ops g k->uZ P C all i ops g k':=by
 intro ops
 induction ops generalizing k k' with
 | nil=>intro i g hk;exact h _ _ hk
 | cons o r ih=>
  intro i g hk
  rw[QX] at hk ⊢
  obtain⟨tm,ob,nx,nt⟩:=g
  unfold Hb at hk ⊢
  simp only at hk ⊢
  split at hk
  ·exact hk.elim
  ·rename_i hd
   (try simp only[hd])
   split at hk
   ·exact hk.elim
   ·rename_i hg
    (try simp only[hg])
    rw[qP] at hk ⊢
    split at hk
    ·exact hk.elim
    ·rename_i bT
     (try simp only[bT])
     exact zoN (zoO fun v=>Sk fun g=>ih (fun tr g'=>h _ g') _ _) hk
   ·rename_i c hg
    (try simp only[hg])
    rw[qP] at hk ⊢
    split at hk
    ·rename_i bT
     (try simp only[bT])
     obtain⟨h1,h2⟩:=wL.1 hk
     exact wL.2 ⟨h1,Sk (fun g=>ih (fun tr g'=>h _ g') _ _) h2⟩
    ·rename_i bT
     (try simp only[bT])
     obtain⟨h1,h2⟩:=wL.1 hk
     exact wL.2 ⟨h1,Sk (fun g=>ih (fun tr g'=>h _ g') _ _) h2⟩
theorem Sl:∀ (l:List (Nat×AV)) (s:Nat) {k k':List (Nat×AV)->Prop},(∀ g,k g->k' g)->wx s l k->wx s l k'
 | [],s,k,k',h,hk=>h _ hk
 | (n,v)::r,s,k,k',h,hk=>by
  rw[Mu] at hk ⊢
  split
  ·rename_i hb;simp only[hb] at hk;exact Sl (k:=k) (k':=k') r s h hk
  ·rename_i hb;simp only[hb,jU] at hk ⊢;exact Sl (k:=fun q=>k ((n,v)::q)) (k':=fun q=>k' ((n,v)::q)) r _ (fun g=>h _) hk
theorem Nt:∀ (l:cx) (s:Nat) {k k':cx->Prop},(∀ g,k g->k' g)->tE s l k->tE s l k'
 | [],s,k,k',h,hk=>h _ hk
 | (n,o)::r,s,k,k',h,hk=>by
  rw[Mw] at hk ⊢
  split
  ·rename_i hb;simp only[hb] at hk;exact Nt (k:=k) (k':=k') r s h hk
  ·rename_i hb
   simp only[hb,qP,RX] at hk ⊢
   cases o with
   | none=>exact Nt (k:=k) (k':=k') r _ h hk
   | some o=>exact Nt (k:=fun q=>k ((n,some o)::q)) (k':=fun q=>k' ((n,some o)::q)) r _ (fun g=>h _) hk
theorem zan{k k':Ga->Prop}(h:∀ g,k g->k' g){g:Ga}(hk:g.jl k):g.jl k':=by
 obtain⟨tm,ob,nx,nt⟩:=g
 simp only[Ga.jl,qP] at hk ⊢
 exact Sl tm 0 (fun iq=>Nt ob 0 fun ob'=>h _) hk
theorem zao{P:Program}[Tabs P]{C:Bool->Ctx}:∀ {c:Code} {k k':Exit->Ga->Prop} {g:Ga},ev P C c g k->(∀ e g,k e g->k' e g)->ev P C c g k':=by
 intro c
 induction c with
 | skip=>intro k k' g hk h;exact h _ _ hk
 | label l=>intro k k' g hk h;exact h _ _ hk
 | exit id=>intro k k' g hk h;exact h _ _ hk
 | ret=>intro k k' g hk h;exact h _ _ hk
 | refuse Z2=>intro k k' g hk h;exact hk
 | goto l=>intro k k' g hk h;exact hk
 | scope c ih=>intro k k' g hk h;exact hk
 | rangeFunc f p x y Ng Nh=>intro k k' g hk h;exact hk
 | loop c ih=>intro k k' g hk h;exact⟨hk.out.mono h⟩
 | region id ops draw=>
  intro k k' g hk h
  rw[Nf] at hk ⊢
  cases draw with
  | false=>exact Ns (fun tr g'=>zan fun gy=>h _ gy) _ _ _ hk
  | true=>exact Ns (fun tr g' hh=>⟨hh.1,zan (fun gy=>h _ gy) hh.2⟩) _ _ _ hk
 | seq a b fP fQ=>
  intro k k' g hk h
  rw[RZ] at hk ⊢
  refine fP hk fun e g' hh=>?_
  cases e<;>first
   | exact fQ hh h
   | exact h _ _ hh
 | cond c a b fP fQ=>
  intro k k' g hk h
  rw[R0] at hk ⊢
  split at hk
  ·rename_i t ht;(try simp only[ht]);exact⟨fun hh=>fP (hk.1 hh) h,fun hh=>fQ (hk.2 hh) h⟩
  ·rename_i w t ht;(try simp only[ht]);exact⟨hk.1,fun hh=>fP (hk.2.1 hh) h,fun hh=>fQ (hk.2.2 hh) h⟩
  ·exact hk.elim
 | block id c ih=>
  intro k k' g hk h
  rw[R1] at hk ⊢
  refine ih hk fun e g' hh=>?_
  cases e<;>try exact h _ _ hh
  rename_i kR
  revert hh
  show (match Nat.beq kR id with | true=>k .normal g' | false=>k (.exit kR) g')->(match Nat.beq kR id with | true=>k' .normal g' | false=>k' (.exit kR) g')
  cases hb:Nat.beq kR id with
  | true=>exact h _ _
  | false=>exact h _ _
theorem zoP{LS:List (Nat×lZ)}{k:Option Nat}{D:lZ}(h:Bb LS k=some D):∃ n,(n,D)∈LS:=by
 cases k with
 | none=>simp[Bb] at h
 | some k=>
  have:∀ (l:List (Nat×lZ)),Bb.go l k=some D->∃ n,(n,D)∈l:=by
   intro l
   induction l with
   | nil=>intro h;simp[Bb.go] at h
   | cons a r ih=>
    intro h
    obtain⟨m,x⟩:=a
    simp only[Bb.go] at h
    split at h
    ·simp only[Option.some.injEq] at h;subst h;exact⟨m,by simp⟩
    ·obtain⟨n,hn⟩:=ih h;exact⟨n,by simp[hn]⟩
  exact this LS h
theorem zoQ{P:Program}[Tabs P]{CO:Bool->qT}{LS:List (Nat×lZ)}{R:Type}{ret:yD R}(hC:El P fun b=>sG (CO b))(tQ:P.follows .mixedOrders=true)(hL:∀ n D,(n,D)∈LS->D.OK)(hr:ret.Nat):
  ∀ (c:Code) (X:Type) (inj:R->X) (g:Ga) (k:Exit->Ga->Option X) (x:X),l7 std P CO LS ret c X inj g k=some x->ev P (fun b=>sG (CO b)) c g (tR ret inj k x):=by
 intro c
 induction c with
 | skip=>intro X inj g k x h;exact h
 | label l=>intro X inj g k x h;exact h
 | exit id=>intro X inj g k x h;exact h
 | ret=>intro X inj g k x h;exact h
 | refuse Z2=>intro X inj g k x h;exact absurd h (by simp[l7])
 | goto l=>intro X inj g k x h;exact absurd h (by simp[l7])
 | scope c ih=>intro X inj g k x h;exact absurd h (by simp[l7])
 | rangeFunc f p x y Ng Nh=>intro X inj g k x h;exact absurd h (by simp[l7])
 | region id ops draw=>
  intro X inj g k x h
  rw[Nf]
  cases draw with
  | false=>
   refine Ns (fun tr g' hk=>?_) _ _ _ (AZ _ _ _ _ h)
   rw[zam (fun z=>z=some x)] at hk
   exact hk
  | true=>
   refine Ns (fun tr g' hk=>?_) _ _ _ (AZ _ _ _ _ h)
   split at hk
   ·rename_i hc
    rw[zam (fun z=>z=some x)] at hk
    exact⟨⟨hc⟩,hk⟩
   ·simp at hk
 | seq a b fP fQ=>
  intro X inj g k x h
  rw[RZ]
  refine zao (fP X inj g _ x h) fun e g' hk=>?_
  cases e<;>first
   | exact fQ X inj g' k x hk
   | exact hk
 | cond c a b fP fQ=>
  intro X inj g k x h
  rw[R0]
  have h':(match fc (aQ g.tmps) c with
   | .bool t=>ay t (l7 std P CO LS ret a X inj (g.vl c true) k) (l7 std P CO LS ret b X inj (g.vl c false) k)
   | .when w (.bool t)=>aj (w=true) (ay t (l7 std P CO LS ret a X inj g k) (l7 std P CO LS ret b X inj g k))
   | _=>none)=some x:=h
  split at h'
  ·rename_i t ht
   simp only[ht]
   cases t
   ·exact⟨fun hh=>by simp at hh,fun _=>fQ X inj _ k x h'⟩
   ·exact⟨fun _=>fP X inj _ k x h',fun hh=>by simp at hh⟩
  ·rename_i w t ht
   simp only[ht]
   obtain⟨hw,h'⟩:=AY h'
   refine⟨⟨hw⟩,?_⟩
   cases t
   ·exact⟨fun hh=>by simp at hh,fun _=>fQ X inj g k x h'⟩
   ·exact⟨fun _=>fP X inj g k x h',fun hh=>by simp at hh⟩
  ·simp at h'
 | block id c ih=>
  intro X inj g k x h
  rw[R1]
  refine zao (ih X inj g _ x h) fun e g' hk=>?_
  cases e<;>try exact hk
  rename_i kR
  revert hk
  show (match Nat.beq kR id with | true=>k .normal g' | false=>k (.exit kR) g')=some x->(match Nat.beq kR id with | true=>tR ret inj k x .normal g' | false=>tR ret inj k x (.exit kR) g')
  cases hb:Nat.beq kR id with
  | true=>exact fun h=>h
  | false=>exact fun h=>h
 | loop c ih=>
  intro X inj g k x h
  have h':(match Bb LS (wU c) with
   | none=>none
   | some D=>match D.dec g with
    | none=>none
    | some (q,s)=>jZ std q (ao (ct (fun s=>(D.enc s).jl fun g'=>l7 std P CO LS ret c (D.S⊕(D.T⊕R)) (fun r=>.inr (.inr r)) g' (vp std D)) s) fun o=>cC o (fun t=>(D.Nq t).jl fun g'=>k (.exit D.exit) g') (fun r=>some (inj r))))=some x:=h
  split at h'
  ·simp at h'
  rename_i D hD
  have Sm:=hL _ _ (zoP hD).choose_spec
  split at h'
  ·simp at h'
  rename_i q s DW
  obtain⟨hq,h'⟩:=mO h'
  obtain⟨o,ho,h'⟩:=zac h'
  obtain⟨n,hn⟩:=Nn.1 ho
  refine⟨pf.zoL (ι:=Nat×D.S) (fun p=>D.enc p.2) (fun p=>iterM (fun s=>(D.enc s).jl fun g'=>l7 std P CO LS ret c (D.S⊕(D.T⊕R)) (fun r=>.inr (.inr r)) g' (vp std D)) p.1 p.2=some o) (fun p=>p.1) (n,s) hn (Sm.dec g q s DW hq) ?_⟩
  rintro ⟨m,s⟩ hm
  simp only at hm
  cases m with
  | zero=>simp[iterM] at hm
  | succ m=>
   obtain⟨g',R8,nY⟩:=Si (D.enc s) fun g'=>l7 std P CO LS ret c (D.S⊕(D.T⊕R)) (fun r=>.inr (.inr r)) g' (vp std D)
   refine pf.sub nY ?_
   simp only[iterM,R8] at hm
   have key:∀ y,l7 std P CO LS ret c (D.S⊕(D.T⊕R)) (fun r=>.inr (.inr r)) g' (vp std D)=some y->(∀ s',y=.inl s'->iterM (fun s=>(D.enc s).jl fun g'=>l7 std P CO LS ret c (D.S⊕(D.T⊕R)) (fun r=>.inr (.inr r)) g' (vp std D)) m s'=some o)->
     (∀ z,y=.inr z->z=o)->pf P c g' fun e g'=>match e with
      | .normal=>∃ i':Nat×D.S,iterM (fun s=>(D.enc s).jl fun g'=>l7 std P CO LS ret c (D.S⊕(D.T⊕R)) (fun r=>.inr (.inr r)) g' (vp std D)) i'.1 i'.2=some o/\i'.1<m+1/\lB g' (D.enc i'.2)
      | e=>∃ gy,tR ret inj k x e gy/\lB g' gy:=by
    intro y hy h1 h2
    refine (Z1 hC tQ _ _ _ (ih _ _ _ _ y hy)).mono fun e g1 hk=>?_
    cases e with
    | normal=>
     have fB:(match D.dec g1 with
      | some (q,s)=>jZ std q (some (.inl s))
      | none=>none)=some y:=hk
     split at fB
     ·rename_i q1 s1 Sn
      obtain⟨Ax,wy⟩:=mO fB
      simp only[Option.some.injEq] at wy
      exact⟨(m,s1),h1 s1 wy.symm,Nat.lt_succ_self m,Sm.dec _ _ _ Sn Ax⟩
     ·simp at fB
    | exit id=>
     have fB:(match Nat.beq id D.exit with
      | true=>match D.H4 g1 with
       | some (q,t)=>jZ std q (some (.inr (.inl t)))
       | none=>none
      | false=>none)=some y:=hk
     split at fB
     ·rename_i hb
      split at fB
      ·rename_i q1 t1 Sn
       obtain⟨Ax,wy⟩:=mO fB
       simp only[Option.some.injEq] at wy
       have:=h2 _ wy.symm
       subst this
       simp only[cC] at h'
       obtain⟨g3,hg3,hs3⟩:=Si (D.Nq t1) fun g'=>k (.exit D.exit) g'
       rw[hg3] at h'
       refine⟨g3,?_,(Sm.H4 _ _ _ Sn Ax).trans hs3⟩
       rw[beq_true hb]
       exact h'
      ·simp at fB
     ·simp at fB
    | ret=>
     have fB:ret _ g1 (fun r=>some (.inr (.inr r)))=some y:=hk
     obtain⟨r,gV,hr2⟩:=hr.nat _ _ _ _ fB
     simp only[Option.some.injEq] at gV
     have:=h2 _ gV.symm
     subst this
     simp only[cC] at h'
     refine⟨g1,?_,lB.refl g1⟩
     show ret X g1 _=some x
     rw[hr2];exact h'
    | goto l=>simp[tR,vp] at hk
    | panic ch=>simp[tR,vp] at hk
    | outgrown=>simp[tR,vp] at hk
   split at hm
   ·simp at hm
   ·rename_i s' gJ
    exact key _ gJ (fun s1 h1=>by simp only[Sum.inl.injEq] at h1;subst h1;exact hm) (fun z hz=>by simp at hz)
   ·rename_i y hy
    exact key _ hy (fun s1 h1=>by simp at h1) (fun z hz=>by simp only[Sum.inr.injEq] at hz;subst hz;simpa using hm)
inductive LD where
 | int (k:IntKind) | bool | str | sl (e:Sh) | own (n:Nat) (e:Sh) | ptr (n off:Nat) | epr (n:Nat) (e:Sh) (off:Nat) | dq (e:Sh) (off:Nat)
 | jS | nilif | nV | pQ | err | mpr (n:Nat)
@[reducible] def LD.T:LD->Type
 | .int _=>Int
 | .bool=>Bool
 | .str=>List UInt8
 | .sl e=>List e.T
 | .epr _ _ _=>Nat
 | .dq e _=>e.T
 | .err=>kc
 | _=>Unit
def LD.enc:(d:LD)->d.T->AV
 | .int k,n=>.int k n
 | .bool,b=>.bool b
 | .str,l=>.str l
 | .sl e,xs=>.fsl e xs
 | .own n e,_=>.own n e
 | .ptr n off,_=>.ptr n off
 | .epr n e off,i=>.epr n e i off
 | .dq e off,x=>.dq e x off
 | .jS,_=>.jS
 | .nilif,_=>.nilif
 | .nV,_=>.nV
 | .pQ,_=>.pQ
 | .err,x=>.er x
 | .mpr n,_=>.mpr n
@[reducible] def H5(d:LD)(R:Type):Type:=
 match d with
 | .int _=>Int×R
 | .bool=>Bool×R
 | .str=>List UInt8×R
 | .sl e=>List e.T×R
 | .epr _ _ _=>Nat×R
 | .dq e _=>e.T×R
 | .err=>kc×R
 | _=>R
def Nu{R:Type}:(d:LD)->d.T->R->H5 d R
 | .int _,a,r=>(a,r)
 | .bool,a,r=>(a,r)
 | .str,a,r=>(a,r)
 | .sl _,a,r=>(a,r)
 | .epr _ _ _,a,r=>(a,r)
 | .dq _ _,a,r=>(a,r)
 | .err,a,r=>(a,r)
 | .own _ _,_,r=>r
 | .ptr _ _,_,r=>r
 | .jS,_,r=>r
 | .nilif,_,r=>r
 | .nV,_,r=>r
 | .pQ,_,r=>r
 | .mpr _,_,r=>r
def H6{R:Type}:(d:LD)->H5 d R->d.T
 | .int _,x=>Prod.fst x
 | .bool,x=>Prod.fst x
 | .str,x=>Prod.fst x
 | .sl _,x=>Prod.fst x
 | .epr _ _ _,x=>Prod.fst x
 | .dq _ _,x=>Prod.fst x
 | .err,x=>Prod.fst x
 | .own _ _,_=>()
 | .ptr _ _,_=>()
 | .jS,_=>()
 | .nilif,_=>()
 | .nV,_=>()
 | .pQ,_=>()
 | .mpr _,_=>()
def Sp{R:Type}:(d:LD)->H5 d R->R
 | .int _,x=>Prod.snd x
 | .bool,x=>Prod.snd x
 | .str,x=>Prod.snd x
 | .sl _,x=>Prod.snd x
 | .epr _ _ _,x=>Prod.snd x
 | .dq _ _,x=>Prod.snd x
 | .err,x=>Prod.snd x
 | .own _ _,x=>x
 | .ptr _ _,x=>x
 | .jS,x=>x
 | .nilif,x=>x
 | .nV,x=>x
 | .pQ,x=>x
 | .mpr _,x=>x
theorem zap{R:Type}(d:LD)(a:d.T)(r:R):H6 d (Nu d a r)=a:=by cases d<;>rfl
theorem Sq{R:Type}(d:LD)(a:d.T)(r:R):Sp d (Nu d a r)=r:=by cases d<;>rfl
def qe(n:Nat):List (Nat×Nat)->Bool
 | []=>false
 | (_,m)::r=>match Nat.beq n m with
  | true=>true
  | false=>qe n r
def yE:List (Nat×Nat)->Bool
 | []=>true
 | (_,m)::r=>match qe m r with
  | true=>false
  | false=>yE r
def Bd:List (Nat×Nat)->Bool
 | []=>true
 | (i,n)::r=>match Nat.blt i 16 with
  | true=>match Nat.beq i n with
   | true=>Bd r
   | false=>false
  | false=>Bd r
def Ep(rn:List (Nat×Nat))(i n:Nat):Bool:=
 match aQ rn i with
 | some m=>Nat.beq n m
 | none=>false
def Sr(v:AV):Option Nat:=
 match v with
 | .own n _=>some n
 | .rsl n _ _ _=>some n
 | .csl n _ _=>some n
 | .wsl n _ _ _ _ _ _ _=>some n
 | _=>none
def Be(fz:Option (List Nat))(n:Nat):Bool:=
 match fz with
 | none=>true
 | some l=>dG n l
def Nv(fz:Option (List Nat))(rn:List (Nat×Nat))(ob:Nat->Option AO)(e:Sh)(v:AV):Option (List Prop×List e.T):=
 match v with
 | .nilsl=>some ([],[])
 | .fsl e' xs=>if h:e'=e then some ([],h▸xs) else none
 | v=>match Sr v with
  | some n=>match qe n rn,Be fz n with
   | false,true=>match uT ob e v with
    | some (xs,q)=>some (q,xs)
    | none=>none
   | _,_=>none
  | none=>none
def nE(fz:Option (List Nat))(rn:List (Nat×Nat))(ob:Nat->Option AO):(s:Sh)->List AV->Option (List Prop×s.T×List AV)
 | .int k,l=>match l with
  | .int k' n::r=>if k=k' then some ([],n,r) else none
  | _=>none
 | .bool,l=>match l with
  | .bool x::r=>some ([],x,r)
  | _=>none
 | .str,l=>match l with
  | .str x::r=>some ([],x,r)
  | _=>none
 | .sl e,l=>match l with
  | v::r=>match Nv fz rn ob e v with
   | some (q,xs)=>some (q,xs,r)
   | none=>none
  | []=>none
 | .unit,l=>some ([],(),l)
 | .arr _ _,_=>none
 | .pair a b,l=>match nE fz rn ob a l with
  | some (p,x,r)=>match nE fz rn ob b r with
   | some (q,y,r')=>some (bQ p q,((x,y):a.T×b.T),r')
   | none=>none
  | none=>none
 | .err,l=>match l with
  | v::r=>match Ah v with
   | some x=>some ([],x,r)
   | none=>none
  | []=>none
 | .pt e,l=>match l with
  | v::r=>match v with
   | .dq e' x off=>match off with
    | 0=>if h:e'=e then some ([],(h▸x:e.T),r) else none
    | _+1=>none
   | .ptr n off=>match off with
    | 0=>match qe n rn,Be fz n with
     | false,true=>match ob n with
      | some (.cells l')=>match nE fz rn ob e l' with
       | some (q,x,[])=>some (q,x,r)
       | _=>none
      | _=>none
     | _,_=>none
    | _+1=>none
   | _=>none
  | []=>none
def Ss(fz:Option (List Nat))(rn:List (Nat×Nat))(ob:Nat->Option AO)(e:Sh)(off:Nat)(v:AV):Option (List Prop×e.T):=
 match v with
 | .dq e' x Bf=>match Nat.beq off Bf with
  | true=>if h:e'=e then some ([],h▸x) else none
  | false=>none
 | .ptr n Bf=>match Nat.beq off Bf with
  | true=>match qe n rn,Be fz n with
   | false,true=>match ob n with
    | some (.cells l)=>match iB e l with
     | some (x,[])=>some ([],x)
     | _=>match nE fz rn ob e l with
      | some (q,x,[])=>some (q,x)
      | _=>none
    | some (.hM l)=>match iB e l with
     | some (x,[])=>some ([],x)
     | _=>none
    | _=>none
   | _,_=>none
  | false=>none
 | _=>none
def LD.dec(fz:Option (List Nat))(rn:List (Nat×Nat))(ob:Nat->Option AO):(d:LD)->AV->Option (List Prop×d.T)
 | .int k,v=>match v with
  | .int k' n=>if k=k' then some ([],n) else none
  | _=>none
 | .bool,v=>match v with
  | .bool b=>some ([],b)
  | _=>none
 | .str,v=>match v with
  | .str l=>some ([],l)
  | _=>none
 | .sl e,v=>Nv fz rn ob e v
 | .own i e,v=>match v with
  | .own n e'=>match Ep rn i n with
   | true=>if e'=e then some ([],()) else none
   | false=>none
  | .nilsl=>match aQ rn i with
   | none=>some ([],())
   | some _=>none
  | _=>none
 | .ptr i off,v=>match v with
  | .ptr n Bf=>match Ep rn i n,Nat.beq off Bf with
   | true,true=>some ([],())
   | _,_=>none
  | _=>none
 | .epr i e off,v=>match v with
  | .epr n e' j Bf=>match Ep rn i n,Nat.beq off Bf with
   | true,true=>if e'=e then some ([],j) else none
   | _,_=>none
  | _=>none
 | .dq e off,v=>Ss fz rn ob e off v
 | .jS,v=>match v with
  | .jS=>some ([],())
  | _=>none
 | .nilif,v=>match v with
  | .nilif=>some ([],())
  | _=>none
 | .nV,v=>match v with
  | .nV=>some ([],())
  | _=>none
 | .pQ,v=>match G2 v with
  | true=>some ([],())
  | false=>none
 | .err,v=>match Ah v with
  | some x=>some ([],x)
  | none=>none
 | .mpr i,v=>match v with
  | .mpr n=>match Ep rn i n with
   | true=>some ([],())
   | false=>none
  | _=>none
def Su(v:AV):Bool:=
 match v with
 | .agg _=>true
 | .arr _ _=>true
 | _=>false
theorem zoV{E:Env}{v:AV}{z:Value}(h:Su v=true)(hz:VR E v z):∃ vs,z=.agg vs:=by
 unfold Su at h
 split at h
 ·simp only[VR] at hz;obtain⟨x,rfl,_⟩:=hz;exact⟨_,rfl⟩
 ·simp only[VR] at hz;obtain⟨x,rfl,_⟩:=hz;exact⟨_,rfl⟩
 ·simp at h
inductive VD where
 | leaf (d:LD) | cP (s:Sh) | agg (l:List LD) | fn (f:FuncId) (x y:List LD) | arr (e:Sh)
inductive OD where
 | rows (e:Sh) | cells (l:List LD) | cP (s:Sh) | mp (k:IntKind) (e:Sh)
@[reducible] def sH:List LD->Type->Type
 | [],R=>R
 | d::l,R=>H5 d (sH l R)
def yF{R:Type}(fz:Option (List Nat))(rn:List (Nat×Nat))(ob:Nat->Option AO):(l:List LD)->List AV->Option (List Prop×R)->Option (List Prop×sH l R)
 | [],vs,r=>match vs with
  | []=>r
  | _::_=>none
 | d::l,vs,r=>match vs with
  | v::vs=>match LD.dec fz rn ob d v,yF fz rn ob l vs r with
   | some (p,x),some (q,y)=>some (bQ p q,Nu d x y)
   | _,_=>none
  | []=>none
def j0{R:Type}:(l:List LD)->sH l R->List AV×R
 | [],x=>([],x)
 | d::l,x=>match j0 l (Sp d x) with
  | (vs,r)=>(d.enc (H6 d x)::vs,r)
@[reducible] def VD.To(v:VD)(R:Type):Type:=
 match v with
 | .leaf d=>H5 d R
 | .cP s=>s.T×R
 | .agg l=>sH l R
 | .fn _ x y=>sH x (sH y R)
 | .arr e=>e.T×R
def VD.dec{R:Type}(fz:Option (List Nat))(rn:List (Nat×Nat))(ob:Nat->Option AO):(v:VD)->AV->Option (List Prop×R)->Option (List Prop×v.To R)
 | .leaf d,a,r=>match LD.dec fz rn ob d a,r with
  | some (p,x),some (q,y)=>some (bQ p q,Nu d x y)
  | _,_=>none
 | .cP s,a,r=>match a with
  | .agg l=>match s.flat,nE fz rn ob s l,r with
   | true,some (p,x,[]),some (q,y)=>some (bQ p q,(x,y))
   | _,_,_=>none
  | _=>none
 | .agg ds,a,r=>match a with
  | .agg l=>yF fz rn ob ds l r
  | _=>none
 | .fn f x y,a,r=>match a with
  | .fn f' p q=>match Nat.beq f' f with
   | true=>yF fz rn ob x p (yF fz rn ob y q r)
   | false=>none
  | _=>none
 | .arr e,a,r=>match uQ e a,r with
  | some x,some (q,y)=>if Su a=true then some (q,(x,y)) else none
  | _,_=>none
def VD.enc{R:Type}:(v:VD)->v.To R->AV×R
 | .leaf d,x=>(d.enc (H6 d x),Sp d x)
 | .cP s,x=>(.agg (Go.Tr.enc s (Prod.fst x)),Prod.snd x)
 | .agg ds,x=>match j0 ds x with
  | (l,r)=>(.agg l,r)
 | .fn f a b,x=>match j0 a x with
  | (p,y)=>match j0 b y with
   | (q,r)=>(.fn f p q,r)
 | .arr e,x=>(.arr e (Prod.fst x),Prod.snd x)
@[reducible] def OD.To(o:OD)(R:Type):Type:=
 match o with
 | .rows e=>List e.T×R
 | .cells l=>sH l R
 | .cP s=>s.T×R
 | .mp _ e=>List (Int×e.T)×R
def OD.dec{R:Type}(st:Bool)(fz:Option (List Nat))(rn:List (Nat×Nat))(ob:Nat->Option AO)(i:Nat):(o:OD)->Option (List Prop×R)->Option (List Prop×o.To R)
 | .rows e,r=>match aQ rn i with
  | some n=>match ob n with
   | some (.rows e' xs)=>match r with
    | some (q,y)=>if h:e'=e then some (q,(h▸xs,y)) else none
    | none=>none
   | _=>none
  | none=>match st&&Nat.blt i 16 with
   | true=>none
   | false=>match r with
    | some (q,y)=>some (q,([],y))
    | none=>none
 | .cells ds,r=>match aQ rn i with
  | some n=>match ob n with
   | some (.cells l)=>yF fz rn ob ds l r
   | _=>none
  | none=>none
 | .cP s,r=>match aQ rn i with
  | some n=>match ob n with
   | some (.cells l)=>match s.flat,nE fz rn ob s l,r with
    | true,some (p,x,[]),some (q,y)=>some (bQ p q,(x,y))
    | _,_,_=>none
   | _=>none
  | none=>none
 | .mp k e,r=>match aQ rn i with
  | some n=>match ob n with
   | some (.mp k' e' xs)=>match r with
    | some (q,y)=>if h:e'=e then if k'=k then some (q,((h▸xs:List (Int×e.T)),y)) else none else none
    | none=>none
   | _=>none
  | none=>none
def OD.enc{R:Type}:(o:OD)->o.To R->AO×R
 | .rows e,x=>(.rows e (Prod.fst x),Prod.snd x)
 | .cells ds,x=>match j0 ds x with
  | (l,r)=>(.cells l,r)
 | .cP s,x=>(.cells (Go.Tr.enc s (Prod.fst x)),Prod.snd x)
 | .mp k e,x=>(.mp k e (Prod.fst x),Prod.snd x)
@[reducible] def oe:List (Nat×VD)->Type->Type
 | [],R=>R
 | (_,v)::l,R=>v.To (oe l R)
def Bg{R:Type}(fz:Option (List Nat))(rn:List (Nat×Nat))(ob:Nat->Option AO)(tm:Nat->Option AV):(l:List (Nat×VD))->Option (List Prop×R)->Option (List Prop×oe l R)
 | [],r=>r
 | (t,v)::l,r=>match tm t with
  | some a=>VD.dec fz rn ob v a (Bg fz rn ob tm l r)
  | none=>none
def eQ{R:Type}:(l:List (Nat×VD))->oe l R->List (Nat×AV)×R
 | [],x=>([],x)
 | (t,v)::l,x=>match v.enc x with
  | (a,y)=>match eQ l y with
   | (tm,r)=>((t,a)::tm,r)
@[reducible] def qf:List (Nat×OD)->Type->Type
 | [],R=>R
 | (_,o)::l,R=>o.To (qf l R)
def Bh{R:Type}(st:Bool)(fz:Option (List Nat))(rn:List (Nat×Nat))(ob:Nat->Option AO):(l:List (Nat×OD))->Option (List Prop×R)->Option (List Prop×qf l R)
 | [],r=>r
 | (i,o)::l,r=>OD.dec st fz rn ob i o (Bh st fz rn ob l r)
def fS{R:Type}:(l:List (Nat×OD))->qf l R->cx×R
 | [],x=>([],x)
 | (i,o)::l,x=>match o.enc x with
  | (a,y)=>match fS l y with
   | (u,r)=>((i,some a)::u,r)
def Nw(i n:Nat)(rn:List (Nat×Nat)):List (Nat×Nat):=
 match aQ rn i with
 | some _=>rn
 | none=>(i,n)::rn
def LD.Nx(d:LD)(v:AV)(rn:List (Nat×Nat)):List (Nat×Nat):=
 match d with
 | .own i _=>match v with
  | .own n _=>Nw i n rn
  | _=>rn
 | .ptr i _=>match v with
  | .ptr n _=>Nw i n rn
  | _=>rn
 | .epr i _ _=>match v with
  | .epr n _ _ _=>Nw i n rn
  | _=>rn
 | .mpr i=>match v with
  | .mpr n=>Nw i n rn
  | _=>rn
 | _=>rn
def H7:List LD->List AV->List (Nat×Nat)->List (Nat×Nat)
 | [],_,rn=>rn
 | d::l,vs,rn=>match vs with
  | v::vs=>H7 l vs (d.Nx v rn)
  | []=>rn
def VD.Nx(d:VD)(v:AV)(rn:List (Nat×Nat)):List (Nat×Nat):=
 match d with
 | .leaf d=>d.Nx v rn
 | .cP _=>rn
 | .agg ds=>match v with
  | .agg l=>H7 ds l rn
  | _=>rn
 | .fn _ x y=>match v with
  | .fn _ p q=>H7 y q (H7 x p rn)
  | _=>rn
 | .arr _=>rn
def yG(tm:Nat->Option AV):List (Nat×VD)->List (Nat×Nat)->List (Nat×Nat)
 | [],rn=>rn
 | (t,v)::l,rn=>match tm t with
  | some a=>yG tm l (v.Nx a rn)
  | none=>rn
def tS(ob:Nat->Option AO):List (Nat×OD)->List (Nat×Nat)->List (Nat×Nat)
 | [],rn=>rn
 | (i,o)::l,rn=>match o with
  | .cells ds=>match aQ rn i with
   | some n=>match ob n with
    | some (.cells vs)=>tS ob l (H7 ds vs rn)
    | _=>tS ob l rn
   | none=>tS ob l rn
  | _=>tS ob l rn
def Er:List (Nat×OD)->List (Nat×Nat)
 | []=>[]
 | (i,_)::r=>match Nat.blt i 16 with
  | true=>(i,i)::Er r
  | false=>Er r
def wV{α:Type u}:List (Nat×Nat)->(List (Nat×Nat)->Option α)->Option α
 | [],k=>k []
 | (i,n)::r,k=>sg i fun i'=>sg n fun n'=>wV r fun r'=>k ((i',n')::r')
theorem wW{α:Type u}:∀ (l:List (Nat×Nat)) (k:List (Nat×Nat)->Option α),wV l k=k l
 | [],k=>rfl
 | (i,n)::r,k=>by simp only[wV,qP,wW r]
structure je where
 tmps:List (Nat×VD)
 eB:List (Nat×OD)
 next:Nat
 nt:Nat
@[reducible] def je.T(D:je):Type:=oe D.tmps (qf D.eB Unit)
def je.dec(D:je)(g:Ga):Option (List Prop×D.T):=
 match Nat.beq g.nt D.nt with
 | true=>wV (tS (dP g.eB) D.eB (yG (aQ g.tmps) D.tmps (Er D.eB))) fun rn=>match yE rn,Bd rn with
  | true,true=>Bg none rn (dP g.eB) (aQ g.tmps) D.tmps (Bh true none rn (dP g.eB) D.eB (some ([],())))
  | _,_=>none
 | false=>none
def je.enc(D:je)(x:D.T):Ga:=
 match eQ D.tmps x with
 | (tm,y)=>match fS D.eB y with
  | (ob,_)=>⟨tm,ob,D.next,D.nt⟩
def LD.vq(N:Nat):LD->Bool
 | .own n _=>Nat.blt n N
 | .ptr n _=>Nat.blt n N
 | .epr n _ _=>Nat.blt n N
 | .mpr n=>Nat.blt n N
 | _=>true
def Bi(N:Nat):List LD->Bool
 | []=>true
 | d::l=>d.vq N&&Bi N l
def VD.vq(N:Nat):VD->Bool
 | .leaf d=>d.vq N
 | .cP _=>true
 | .agg l=>Bi N l
 | .fn _ x y=>Bi N x&&Bi N y
 | .arr _=>true
def H8(N:Nat):List (Nat×VD)->Bool
 | []=>true
 | (_,v)::l=>v.vq N&&H8 N l
def OD.vq(N:Nat):OD->Bool
 | .cells l=>Bi N l
 | _=>true
def Bj(N:Nat):List (Nat×OD)->Bool
 | []=>true
 | (i,o)::l=>Nat.blt i N&&o.vq N&&Bj N l
def je.wf(D:je):Bool:=Nat.ble 16 D.next&&H8 D.next D.tmps&&Bj D.next D.eB
def cX(l:List (Nat×OD))(i:Nat):Bool:=
 match l with
 | []=>false
 | (j,_)::r=>match Nat.beq i j with
  | true=>true
  | false=>cX r i
def fK(E:Env)(fz:Option (List Nat))(rn:List (Nat×Nat))(dom:Nat->Bool):Env:=
 ⟨E.w,fun i=>match dom i with
  | true=>match aQ rn i with
   | some n=>E.mu n
   | none=>some ⟨none,0,false,0⟩
  | false=>none,
  fun b=>E.ok b\/∃ n,cV E n b/\qe n rn=false/\Be fz n=true⟩
theorem zoW{v:AV}{n m:Nat}(h:Sr v=some n)(hm:v.has m=true):m=n:=by
 unfold Sr at h
 split at h<;>first
  | (simp only[Option.some.injEq] at h;subst h;simp only[AV.has] at hm;exact beq_true hm)
  | simp at h
section
variable {W0:WX} {okIn B us:Nat->Prop} {tm:Nat->Option AV} {ob:Nat->Option AO} {nt:Nat} {E:Env} {a:Act} {fz:Option (List Nat)} {rn:List (Nat×Nat)} {dom:Nat->Bool}
theorem zaq(hs:qK E us ob){e:Sh}{v:AV}{q:List Prop}{xs:List e.T}{z:Value}(h:Nv fz rn ob e v=some (q,xs))(hq:∀ p∈q,p)(hx:VR E v z):
  aN E.w (fK E fz rn dom).ok (.sl e) xs [z]:=by
 unfold Nv at h
 split at h
 ·simp only[Option.some.injEq,Prod.mk.injEq] at h
  obtain⟨rfl,rfl⟩:=h
  simp only[VR] at hx
  subst hx
  exact⟨none,0,rfl,Nat.le_refl _,.inl rfl⟩
 ·split at h
  ·rename_i he
   subst he
   simp only[Option.some.injEq,Prod.mk.injEq] at h
   obtain⟨rfl,rfl⟩:=h
   simp only[VR] at hx
   exact aN.mono (fun _ _=>rfl) (fun _ h=>.inl h) _ _ _ hx
  ·simp at h
 ·split at h
  ·rename_i n hn
   split at h
   ·rename_i hk hz
    split at h
    ·rename_i Zh q' hr
     simp only[Option.some.injEq,Prod.mk.injEq] at h
     obtain⟨rfl,rfl⟩:=h
     obtain⟨base,cap,rfl,hc,vd⟩:=Hw hs hr hq hx
     simp only[aN]
     refine⟨base,cap,rfl,hc,?_⟩
     rcases vd with h0 | ⟨b,o,rfl,hb,fx⟩
     ·exact .inl h0
     ·refine .inr ⟨b,o,rfl,?_,fun i hi=>?_⟩
      ·rcases hb with hb | ⟨m,hm,hb⟩
       ·exact .inl hb
       ·have:=zoW hn hm
        subst this
        exact .inr ⟨m,hb,hk,hz⟩
      ·obtain⟨cs,c1,c2,c3⟩:=fx i hi
       exact⟨cs,c1,c2,aN.mono (fun _ _=>rfl) (fun _ h=>.inl h) _ _ _ c3⟩
    ·simp at h
   ·simp at h
  ·simp at h
theorem Ny{i n:Nat}(h:Ep rn i n=true){L:Loc}(hL:(fK E fz rn dom).mu i=some L):E.mu n=some L:=by
 simp only[fK] at hL
 unfold Ep at h
 split at h
 ·rename_i m hm
  have:=beq_true h
  subst this
  split at hL
  ·rw[hm] at hL;exact hL
  ·simp at hL
 ·simp at h
theorem zar{v:AV}{x:kc}{z:Value}(h:Ah v=some x)(hx:VR E v z):eT E.w (fK E fz rn dom).ok x z:=
 eT.mono (w:=E.w) (ok:=E.ok) (fun _ _=>rfl) (fun _ h=>.inl h) _ _ (Rf h hx)
theorem zas(hs:qK E us ob):∀ {s:Sh} {l r:List AV} {q:List Prop} {x:s.T} {zs:List Value},nE fz rn ob s l=some (q,x,r)->(∀ p∈q,p)->aR E l zs->
  ∃ z1 z2,zs=z1++z2/\aN E.w (fK E fz rn dom).ok s x z1/\aR E r z2:=by
 intro s
 induction s with
 | int k=>
  intro l r q x zs h hq hv
  simp only[nE] at h
  split at h
  ·split at h
   ·rename_i hk
    subst hk
    simp only[Option.some.injEq,Prod.mk.injEq] at h
    obtain⟨rfl,rfl,rfl⟩:=h
    simp only[aR,VR] at hv
    obtain⟨v,r',rfl,rfl,hr⟩:=hv
    exact⟨[_],r',rfl,rfl,hr⟩
   ·simp at h
  ·simp at h
 | bool=>
  intro l r q x zs h hq hv
  simp only[nE] at h
  split at h
  ·simp only[Option.some.injEq,Prod.mk.injEq] at h
   obtain⟨rfl,rfl,rfl⟩:=h
   simp only[aR,VR] at hv
   obtain⟨v,r',rfl,rfl,hr⟩:=hv
   exact⟨[_],r',rfl,rfl,hr⟩
  ·simp at h
 | str=>
  intro l r q x zs h hq hv
  simp only[nE] at h
  split at h
  ·simp only[Option.some.injEq,Prod.mk.injEq] at h
   obtain⟨rfl,rfl,rfl⟩:=h
   simp only[aR,VR] at hv
   obtain⟨v,r',rfl,rfl,hr⟩:=hv
   exact⟨[_],r',rfl,rfl,hr⟩
  ·simp at h
 | sl e ih=>
  intro l r q x zs h hq hv
  simp only[nE] at h
  split at h
  ·split at h
   ·rename_i q' xs n5
    simp only[Option.some.injEq,Prod.mk.injEq] at h
    obtain⟨rfl,rfl,rfl⟩:=h
    simp only[aR] at hv
    obtain⟨v,r',rfl,fI,hr⟩:=hv
    exact⟨[v],r',rfl,zaq hs n5 hq fI,hr⟩
   ·simp at h
  ·simp at h
 | arr n e ih=>intro l r q x zs h;simp[nE] at h
 | unit=>
  intro l r q x zs h hq hv
  simp only[nE,Option.some.injEq,Prod.mk.injEq] at h
  obtain⟨rfl,_,rfl⟩:=h
  exact⟨[],zs,rfl,rfl,hv⟩
 | pair s1 s2 Ng Nh=>
  intro l r q x zs h hq hv
  simp only[nE] at h
  split at h
  ·rename_i p x1 r1 h1
   split at h
   ·rename_i p2 x2 r2 h2
    simp only[Option.some.injEq,Prod.mk.injEq] at h
    obtain⟨rfl,rfl,rfl⟩:=h
    obtain⟨z1,z2,rfl,g1,g2⟩:=Ng h1 (eX hq) hv
    obtain⟨z3,z4,rfl,g3,g4⟩:=Nh h2 (eY hq) g2
    exact⟨z1++z3,z4,by simp,⟨z1,z3,rfl,g1,g3⟩,g4⟩
   ·simp at h
  ·simp at h
 | pt e ih=>
  intro l r q x zs h hq hv
  simp only[nE] at h
  split at h
  case h_2=>simp at h
  rename_i v r0
  simp only[aR] at hv
  obtain⟨z,zr,rfl,fI,hr⟩:=hv
  split at h
  ·split at h
   ·split at h
    ·rename_i he
     subst he
     simp only[Option.some.injEq,Prod.mk.injEq] at h
     obtain⟨rfl,rfl,rfl⟩:=h
     simp only[VR] at fI
     obtain⟨b,o,cs,rfl,h2,h3,h4,h5⟩:=fI
     exact⟨[_],zr,rfl,⟨b,o,cs,by simp,.inl h2,h3,h4,aN.mono (fun _ _=>rfl) (fun _ h=>.inl h) _ _ _ h5⟩,hr⟩
    ·simp at h
   ·simp at h
  ·split at h
   ·split at h
    ·rename_i hk hz
     split at h
     ·rename_i l' b8
      split at h
      ·rename_i q' x' hd
       simp only[Option.some.injEq,Prod.mk.injEq] at h
       obtain⟨rfl,rfl,rfl⟩:=h
       obtain⟨b,cs,T,fr,g1,g2,g3,g4⟩:=(hs.obj _ _ b8).1
       obtain⟨z1,z2,va,k1,k2⟩:=ih hd hq g4
       simp only[aR] at k2
       subst k2
       rw[List.append_nil] at va
       subst va
       simp only[VR] at fI
       obtain⟨b',cL,rfl⟩:=fI.2 _ g1
       simp only[Option.some.injEq,Addr.mk.injEq,and_true] at cL
       subst cL
       exact⟨[_],zr,rfl,⟨b,0,cs.toList,rfl,.inr ⟨_,⟨_,g1,rfl,rfl⟩,hk,hz⟩,aN.length _ _ _ k1,pZ g2,k1⟩,hr⟩
      ·simp at h
     ·simp at h
    ·simp at h
   ·simp at h
  ·simp at h
 | err=>
  intro l r q x zs h hq hv
  simp only[nE] at h
  split at h
  ·split at h
   ·rename_i y hy
    simp only[Option.some.injEq,Prod.mk.injEq] at h
    obtain⟨rfl,rfl,rfl⟩:=h
    simp only[aR] at hv
    obtain⟨v,r',rfl,fI,hr⟩:=hv
    exact⟨[v],r',rfl,⟨v,rfl,zar hy fI⟩,hr⟩
   ·simp at h
  ·simp at h
theorem zoX(hs:qK E us ob){e:Sh}{off:Nat}{v:AV}{q:List Prop}{x:e.T}{z:Value}(h:Ss fz rn ob e off v=some (q,x))(hq:∀ p∈q,p)(hx:VR E v z):VR (fK E fz rn dom) (.dq e x off) z:=by
 have key:∀ {n:Nat} {l:List AV} {y:e.T},(∃ b cs T fr L,E.mu n=some L/\L.base=some ⟨b,0,none⟩/\(E.ok b\/cV E n b)/\E.w.heap[b]? =some (.cells cs T fr)/\aR E l cs.toList)->qe n rn=false->Be fz n=true->(∀ zs,aR E l zs->aN E.w (fK E fz rn dom).ok e y zs)->VR E (.ptr n off) z->
   VR (fK E fz rn dom) (.dq e y off) z:=by
  rintro n l y ⟨b,cs,T,fr,L,g1,g2,g3,g4,g5⟩ hk hz hd hx
  simp only[VR] at hx
  obtain⟨b',cL,rfl⟩:=hx.2 _ g1
  rw[g2] at cL
  simp only[Option.some.injEq,Addr.mk.injEq,and_true] at cL
  subst cL
  have hl:=hd _ g5
  simp only[VR]
  exact⟨b,0,cs.toList,by simp,g3.elim .inl (fun h=>.inr ⟨n,h,hk,hz⟩),aN.length _ _ _ hl,pZ g4,hl⟩
 unfold Ss at h
 split at h
 ·split at h
  ·rename_i hb
   rw[beq_true hb]
   split at h
   ·rename_i he
    subst he
    simp only[Option.some.injEq,Prod.mk.injEq] at h
    obtain⟨rfl,rfl⟩:=h
    simp only[VR] at hx ⊢
    obtain⟨b,o,cs,h1,h2,h3,h4,h5⟩:=hx
    exact⟨b,o,cs,h1,.inl h2,h3,h4,aN.mono (fun _ _=>rfl) (fun _ h=>.inl h) _ _ _ h5⟩
   ·simp at h
  ·simp at h
 ·split at h
  ·rename_i hb
   rw[<-beq_true hb] at hx
   split at h
   ·rename_i hk hz
    split at h
    ·rename_i l b8
     split at h
     ·rename_i y hd
      simp only[Option.some.injEq,Prod.mk.injEq] at h
      obtain⟨rfl,rfl⟩:=h
      obtain⟨b,cs,T,fr,g1,g2,g3,g4⟩:=(hs.obj _ _ b8).1
      exact key ⟨b,cs,T,fr,_,g1,rfl,.inr ⟨_,g1,rfl,rfl⟩,g2,g4⟩ hk hz (fun zs iu=>aN.mono (fun _ _=>rfl) (fun _ h=>.inl h) _ _ _ (DS hd iu)) hx
     ·split at h
      ·rename_i q' y hd
       simp only[Option.some.injEq,Prod.mk.injEq] at h
       obtain⟨rfl,rfl⟩:=h
       obtain⟨b,cs,T,fr,g1,g2,g3,g4⟩:=(hs.obj _ _ b8).1
       refine key ⟨b,cs,T,fr,_,g1,rfl,.inr ⟨_,g1,rfl,rfl⟩,g2,g4⟩ hk hz (fun zs iu=>?_) hx
       obtain⟨z1,z2,rfl,k1,k2⟩:=zas (dom:=dom) hs hd hq iu
       simp only[aR] at k2
       subst k2
       simpa using k1
      ·simp at h
    ·rename_i l b8
     split at h
     ·rename_i y hd
      simp only[Option.some.injEq,Prod.mk.injEq] at h
      obtain⟨rfl,rfl⟩:=h
      obtain⟨b,cs,T,fr,g1,g0,g2,g4⟩:=(hs.obj _ _ b8).1
      exact key ⟨b,cs,T,fr,_,g1,rfl,.inl g0,g2,g4⟩ hk hz (fun zs iu=>aN.mono (fun _ _=>rfl) (fun _ h=>.inl h) _ _ _ (DS hd iu)) hx
     ·simp at h
    ·simp at h
   ·simp at h
  ·simp at h
 ·simp at h
theorem zat(hs:qK E us ob){d:LD}{v:AV}{q:List Prop}{x:d.T}{z:Value}(h:LD.dec fz rn ob d v=some (q,x))(hq:∀ p∈q,p)(hx:VR E v z):
  VR (fK E fz rn dom) (d.enc x) z:=by
 cases d with
 | int k=>
  simp only[LD.dec] at h
  split at h
  ·split at h
   ·rename_i hk
    subst hk
    simp only[Option.some.injEq,Prod.mk.injEq] at h
    obtain⟨rfl,rfl⟩:=h
    simpa only[LD.enc,VR] using hx
   ·simp at h
  ·simp at h
 | bool=>
  simp only[LD.dec] at h
  split at h
  ·simp only[Option.some.injEq,Prod.mk.injEq] at h
   obtain⟨rfl,rfl⟩:=h
   simpa only[LD.enc,VR] using hx
  ·simp at h
 | str=>
  simp only[LD.dec] at h
  split at h
  ·simp only[Option.some.injEq,Prod.mk.injEq] at h
   obtain⟨rfl,rfl⟩:=h
   simpa only[LD.enc,VR] using hx
  ·simp at h
 | sl e=>
  simp only[LD.dec] at h
  simp only[LD.enc,VR]
  exact zaq hs h hq hx
 | own i e=>
  simp only[LD.dec] at h
  split at h
  ·split at h
   ·rename_i hn
    split at h
    ·rename_i he
     subst he
     simp only[LD.enc,VR] at hx ⊢
     exact⟨hx.1,fun L hL=>hx.2 L (Ny hn hL)⟩
    ·simp at h
   ·simp at h
  ·split at h
   ·rename_i hn
    simp only[LD.enc,VR] at hx ⊢
    subst hx
    refine⟨trivial,fun L hL=>?_⟩
    simp only[fK,hn] at hL
    split at hL
    ·simp only[Option.some.injEq] at hL;subst hL;rfl
    ·simp at hL
   ·simp at h
  ·simp at h
 | ptr i off=>
  simp only[LD.dec] at h
  split at h
  ·split at h
   ·rename_i hn hb
    simp only[LD.enc,VR] at hx ⊢
    rw[beq_true hb]
    exact⟨hx.1,fun L hL=>hx.2 L (Ny hn hL)⟩
   ·simp at h
  ·simp at h
 | epr i e off=>
  simp only[LD.dec] at h
  split at h
  ·split at h
   ·rename_i hn hb
    split at h
    ·rename_i he
     subst he
     simp only[Option.some.injEq,Prod.mk.injEq] at h
     obtain⟨rfl,rfl⟩:=h
     simp only[LD.enc,VR] at hx ⊢
     rw[beq_true hb]
     exact⟨hx.1,fun L hL=>hx.2 L (Ny hn hL)⟩
    ·simp at h
   ·simp at h
  ·simp at h
 | dq e off=>
  simp only[LD.dec] at h
  exact zoX hs h hq hx
 | jS=>
  simp only[LD.dec] at h
  split at h
  ·simpa only[LD.enc,VR] using hx
  ·simp at h
 | nilif=>
  simp only[LD.dec] at h
  split at h
  ·simpa only[LD.enc,VR] using hx
  ·simp at h
 | nV=>
  simp only[LD.dec] at h
  split at h
  ·simpa only[LD.enc,VR] using hx
  ·simp at h
 | pQ=>
  simp only[LD.dec] at h
  split at h
  ·rename_i hl
   simp only[LD.enc,VR]
   exact Re hl hx
  ·simp at h
 | err=>
  simp only[LD.dec] at h
  split at h
  ·rename_i y hy
   simp only[Option.some.injEq,Prod.mk.injEq] at h
   obtain⟨rfl,rfl⟩:=h
   simp only[LD.enc,VR]
   exact zar hy hx
  ·simp at h
 | mpr i=>
  simp only[LD.dec] at h
  split at h
  ·split at h
   ·rename_i hn
    simp only[LD.enc,VR] at hx ⊢
    exact⟨hx.1,fun L hL=>hx.2 L (Ny hn hL)⟩
   ·simp at h
  ·simp at h
theorem zau(hs:qK E us ob){s:Sh}{l:List AV}{q:List Prop}{x:s.T}{zs:List Value}(hf:s.flat=true)(h:nE fz rn ob s l=some (q,x,[]))(hq:∀ p∈q,p)(hv:aR E l zs):
  aR (fK E fz rn dom) (enc s x) zs:=by
 obtain⟨z1,z2,rfl,g1,g2⟩:=zas (dom:=dom) hs h hq hv
 simp only[aR] at g2
 subst g2
 rw[List.append_nil]
 exact tJ (E:=fK E fz rn dom) s hf x z1 g1
theorem H9{R:Type}(hs:qK E us ob):∀ {ds:List LD} {l:List AV} {r:Option (List Prop×R)} {q:List Prop} {y:sH ds R},yF fz rn ob ds l r=some (q,y)->(∀ p∈q,p)->
  ∃ q0 y0,r=some (q0,y0)/\(∀ p∈q0,p)/\(j0 ds y).2=y0/\∀ zs,aR E l zs->aR (fK E fz rn dom) (j0 ds y).1 zs
 | [],l,r,q,y,h,hq=>by
  simp only[yF] at h
  split at h
  ·exact⟨q,y,h,hq,rfl,fun zs hz=>by simpa [aR,j0] using hz⟩
  ·simp at h
 | d::ds,l,r,q,y,h,hq=>by
  simp only[yF] at h
  split at h
  ·rename_i v vs
   split at h
   ·rename_i p x q' y' h1 h2
    simp only[Option.some.injEq,Prod.mk.injEq] at h
    obtain⟨rfl,rfl⟩:=h
    obtain⟨q0,y0,g1,g2,g3,g4⟩:=H9 hs h2 (eY hq)
    refine⟨q0,y0,g1,g2,?_,fun zs hz=>?_⟩
    ·simp only[j0,Sq];exact g3
    ·simp only[aR] at hz
     obtain⟨z,r',rfl,kf,o8⟩:=hz
     simp only[j0,Sq,zap,aR]
     exact⟨z,r',rfl,zat hs h1 (eX hq) kf,g4 r' o8⟩
   ·simp at h
  ·simp at h
theorem zoY{R:Type}(hs:qK E us ob){d:VD}{v:AV}{r:Option (List Prop×R)}{q:List Prop}{y:d.To R}(h:VD.dec fz rn ob d v r=some (q,y))(hq:∀ p∈q,p):
  ∃ q0 y0,r=some (q0,y0)/\(∀ p∈q0,p)/\(d.enc y).2=y0/\∀ z,VR E v z->VR (fK E fz rn dom) (d.enc y).1 z:=by
 cases d with
 | leaf d=>
  simp only[VD.dec] at h
  split at h
  ·rename_i p x q' y' h1
   simp only[Option.some.injEq,Prod.mk.injEq] at h
   obtain⟨rfl,rfl⟩:=h
   exact⟨q',y',rfl,eY hq,Sq _ _ _,fun z hz=>by simp only[VD.enc,zap];exact zat hs h1 (eX hq) hz⟩
  ·simp at h
 | cP s=>
  simp only[VD.dec] at h
  split at h
  ·split at h
   ·rename_i hf hd
    simp only[Option.some.injEq,Prod.mk.injEq] at h
    obtain⟨rfl,rfl⟩:=h
    refine⟨_,_,rfl,eY hq,rfl,fun z hz=>?_⟩
    simp only[VR] at hz
    obtain⟨vs,rfl,hz⟩:=hz
    simp only[VD.enc,VR]
    exact⟨vs,rfl,zau hs hf hd (eX hq) hz⟩
   ·simp at h
  ·simp at h
 | agg ds=>
  simp only[VD.dec] at h
  split at h
  ·obtain⟨q0,y0,g1,g2,g3,g4⟩:=H9 (dom:=dom) hs h hq
   refine⟨q0,y0,g1,g2,g3,fun z hz=>?_⟩
   simp only[VR] at hz
   obtain⟨vs,rfl,hz⟩:=hz
   simp only[VD.enc,VR]
   exact⟨vs,rfl,g4 vs hz⟩
  ·simp at h
 | fn f x1 x2=>
  simp only[VD.dec] at h
  split at h
  ·split at h
   ·rename_i hb
    obtain⟨q0,y0,g1,g2,g3,g4⟩:=H9 (dom:=dom) hs h hq
    obtain⟨q1,y1,k1,k2,k3,k4⟩:=H9 (dom:=dom) hs g1 g2
    refine⟨q1,y1,k1,k2,?_,fun z hz=>?_⟩
    ·simp only[VD.enc,g3];exact k3
    ·simp only[VR] at hz
     obtain⟨p,q,rfl,kf,o8⟩:=hz
     simp only[VD.enc,VR,g3]
     exact⟨p,q,by rw[beq_true hb],g4 p kf,k4 q o8⟩
   ·simp at h
  ·simp at h
 | arr e=>
  simp only[VD.dec] at h
  split at h
  ·rename_i x q' y' hx
   split at h
   case isFalse=>simp at h
   rename_i tI
   simp only[Option.some.injEq,Prod.mk.injEq] at h
   obtain⟨rfl,rfl⟩:=h
   refine⟨_,_,rfl,hq,rfl,fun z hz=>?_⟩
   obtain⟨vs,rfl⟩:=zoV tI hz
   have:=(MQ hx hz).1
   have e1:(Value.agg vs).cells.toList=vs.toList:=by simp[Value.cells]
   rw[e1] at this
   simp only[VD.enc,VR]
   exact⟨vs.toList,by simp,aN.mono (fun _ _=>rfl) (fun _ h=>.inl h) _ _ _ this⟩
  ·simp at h
theorem Nz{R:Type}(hs:qK E us ob){val:Nat->Value}(ht:∀ t v,tm t=some v->VR E v (val t)):∀ {l:List (Nat×VD)} {r:Option (List Prop×R)} {q:List Prop} {y:oe l R},Bg fz rn ob tm l r=some (q,y)->(∀ p∈q,p)->
  ∃ q0 y0,r=some (q0,y0)/\(∀ p∈q0,p)/\(eQ l y).2=y0/\∀ p∈(eQ l y).1,VR (fK E fz rn dom) p.2 (val p.1)
 | [],r,q,y,h,hq=>⟨q,y,h,hq,rfl,fun p hp=>by simp[eQ] at hp⟩
 | (t0,d)::l,r,q,y,h,hq=>by
  simp only[Bg] at h
  split at h
  ·rename_i v0 yH
   obtain⟨q0,y0,g1,g2,g3,g4⟩:=zoY (dom:=dom) hs h hq
   obtain⟨q1,y1,k1,k2,k3,k4⟩:=Nz hs ht g1 g2
   refine⟨q1,y1,k1,k2,by simp only[eQ,g3];exact k3,fun p hp=>?_⟩
   simp only[eQ,g3] at hp
   rcases List.mem_cons.1 hp with rfl | hp
   ·exact g4 _ (ht t0 v0 yH)
   ·exact k4 p hp
  ·simp at h
theorem zoZ{R:Type}(hs:qK E us ob){i:Nat}(vr:dom i=true){d:OD}{r:Option (List Prop×R)}{q:List Prop}{y:d.To R}{st:Bool}(h:OD.dec st fz rn ob i d r=some (q,y))(hq:∀ p∈q,p):
  ∃ q0 y0,r=some (q0,y0)/\(∀ p∈q0,p)/\(d.enc y).2=y0/\eO (fK E fz rn dom) i (d.enc y).1/\(st=true->i<16->∃ n,aQ rn i=some n)/\∀ n,aQ rn i=some n->∃ o,ob n=some o:=by
 have gp:∀ {n:Nat},aQ rn i=some n->(fK E fz rn dom).mu i=E.mu n:=fun hn=>by simp only[fK,vr,hn]
 have D0:∀ {n:Nat} {l l':List AV},aQ rn i=some n->ob n=some (.cells l)->(∀ zs,aR E l zs->aR (fK E fz rn dom) l' zs)->eO (fK E fz rn dom) i (.cells l'):=by
  intro n l l' hn b8 hl
  obtain⟨b,cs,T,fr,g1,g2,g3,g4⟩:=(hs.obj _ _ b8).1
  exact⟨b,cs,T,fr,(gp hn).trans g1,g2,g3,hl _ g4⟩
 cases d with
 | rows e=>
  simp only[OD.dec] at h
  split at h
  ·rename_i n hn
   split at h
   ·rename_i e' xs b8
    split at h
    ·rename_i q' y'
     split at h
     ·rename_i he
      subst he
      simp only[Option.some.injEq,Prod.mk.injEq] at h
      obtain⟨rfl,rfl⟩:=h
      refine⟨q',y',rfl,hq,rfl,?_,fun _ _=>⟨n,hn⟩,fun m hm=>by rw[hn] at hm;cases hm;exact⟨_,b8⟩⟩
      obtain⟨L,g1,g2,g3⟩:=(hs.obj _ _ b8).1
      refine⟨L,(gp hn).trans g1,g2,?_⟩
      rcases g3 with g3 | ⟨b,cs,T,fr,k1,k2,k3,k4,k5,k6,k7⟩
      ·exact .inl g3
      ·exact .inr ⟨b,cs,T,fr,k1,k2,k3,k4,k5,k6,fun j hj=>aN.mono (fun _ _=>rfl) (fun _ h=>.inl h) _ _ _ (k7 j hj)⟩
     ·simp at h
    ·simp at h
   ·simp at h
  ·rename_i hn
   split at h
   ·simp at h
   rename_i jF
   split at h
   ·rename_i q' y'
    simp only[Option.some.injEq,Prod.mk.injEq] at h
    obtain⟨rfl,rfl⟩:=h
    refine⟨q',y',rfl,hq,rfl,?_,fun h1 h2=>?_,fun m hm=>by rw[hn] at hm;simp at hm⟩
    ·exact⟨⟨none,0,false,0⟩,by simp only[fK,vr,hn],rfl,.inl ⟨rfl,rfl,rfl⟩⟩
    ·subst h1
     have:Nat.blt i 16=true:=Nat.ble_eq_true_of_le h2
     simp[this] at jF
   ·simp at h
 | cells ds=>
  simp only[OD.dec] at h
  split at h
  ·rename_i n hn
   split at h
   ·rename_i l b8
    obtain⟨q0,y0,g1,g2,g3,g4⟩:=H9 (dom:=dom) hs h hq
    exact⟨q0,y0,g1,g2,g3,D0 hn b8 g4,fun _ _=>⟨n,hn⟩,fun m hm=>by rw[hn] at hm;cases hm;exact⟨_,b8⟩⟩
   ·simp at h
  ·simp at h
 | cP s=>
  simp only[OD.dec] at h
  split at h
  ·rename_i n hn
   split at h
   ·rename_i l b8
    split at h
    ·rename_i hf hd
     simp only[Option.some.injEq,Prod.mk.injEq] at h
     obtain⟨rfl,rfl⟩:=h
     exact⟨_,_,rfl,eY hq,rfl,D0 hn b8 fun zs hz=>zau hs hf hd (eX hq) hz,fun _ _=>⟨n,hn⟩,fun m hm=>by rw[hn] at hm;cases hm;exact⟨_,b8⟩⟩
    ·simp at h
   ·simp at h
  ·simp at h
 | mp k e=>
  simp only[OD.dec] at h
  split at h
  ·rename_i n hn
   split at h
   ·rename_i k' e' xs b8
    split at h
    ·rename_i q' y'
     split at h
     ·rename_i he
      subst he
      split at h
      ·rename_i hk
       subst hk
       simp only[Option.some.injEq,Prod.mk.injEq] at h
       obtain⟨rfl,rfl⟩:=h
       refine⟨q',y',rfl,hq,rfl,?_,fun _ _=>⟨n,hn⟩,fun m hm=>by rw[hn] at hm;cases hm;exact⟨_,b8⟩⟩
       obtain⟨b,es,c,g1,g2,g3⟩:=(hs.obj _ _ b8).1
       exact⟨b,es,c,(gp hn).trans g1,g2,lq.mono (fun _ _=>rfl) (fun _ h=>.inl h) g3⟩
      ·simp at h
     ·simp at h
    ·simp at h
   ·simp at h
  ·simp at h
theorem NA{R:Type}(hs:qK E us ob):∀ {l:List (Nat×OD)} {r:Option (List Prop×R)} {q:List Prop} {y:qf l R} {st:Bool},Bh st fz rn ob l r=some (q,y)->(∀ p∈q,p)->(∀ i,cX l i=true->dom i=true)->
  ∃ q0 y0,r=some (q0,y0)/\(∀ p∈q0,p)/\(fS l y).2=y0/\(∀ i o,(i,some o)∈(fS l y).1->eO (fK E fz rn dom) i o)/\(∀ i,cX l i=true->st=true->i<16->∃ n,aQ rn i=some n)/\∀ i,cX l i=true->∀ n,aQ rn i=some n->∃ o,ob n=some o
 | [],r,q,y,st,h,hq,_=>⟨q,y,h,hq,rfl,fun i o ho=>by simp[fS] at ho,fun i hi=>by simp[cX] at hi,fun i hi=>by simp[cX] at hi⟩
 | (i0,d)::l,r,q,y,st,h,hq,vr=>by
  simp only[Bh] at h
  obtain⟨q0,y0,g1,g2,g3,g4,g5,g6⟩:=zoZ (dom:=dom) hs (vr i0 (by simp[cX,eV])) h hq
  obtain⟨q1,y1,k1,k2,k3,k4,k5,k6⟩:=NA hs g1 g2 (fun i hi=>vr i (by simp only[cX];split<;>first | rfl | exact hi))
  refine⟨q1,y1,k1,k2,by simp only[fS,g3];exact k3,fun i o ho=>?_,fun i hi=>by
   simp only[cX] at hi
   split at hi
   ·rename_i hb;rw[beq_true hb];exact g5
   ·exact k5 i hi,fun i hi=>by
   simp only[cX] at hi
   split at hi
   ·rename_i hb;rw[beq_true hb];exact g6
   ·exact k6 i hi⟩
  simp only[fS,g3] at ho
  rcases List.mem_cons.1 ho with ho | ho
  ·simp only[Prod.mk.injEq,Option.some.injEq] at ho
   obtain⟨rfl,rfl⟩:=ho
   exact g4
  ·exact k4 i o ho
end
theorem zav{N:Nat}(d:LD)(x:d.T)(h:d.vq N=true):(d.enc x).nm (fun n=>n<N):=by
 cases d<;>simp only[LD.enc,AV.nm,LD.vq] at h ⊢<;>exact Nat.le_of_ble_eq_true h
theorem Ia{R:Type}{N:Nat}:∀ (l:List LD) (x:sH l R),Bi N l=true->AV.cI (fun n=>n<N) (j0 l x).1
 | [],x,_=>by simp[j0,AV.cI]
 | d::l,x,h=>by
  simp only[Bi,Bool.and_eq_true] at h
  simp only[j0,AV.cI]
  exact⟨zav d _ h.1,Ia l _ h.2⟩
theorem zo0{R:Type}{N:Nat}(d:VD)(x:d.To R)(h:d.vq N=true):(d.enc x).1.nm (fun n=>n<N):=by
 cases d with
 | leaf d=>exact zav d _ h
 | cP s=>simp only[VD.enc,AV.nm];exact qM _ _ _
 | agg l=>simp only[VD.enc,AV.nm];exact Ia l x h
 | fn f a b=>
  simp only[VD.vq,Bool.and_eq_true] at h
  simp only[VD.enc,AV.nm]
  exact⟨Ia a x h.1,Ia b _ h.2⟩
 | arr e=>simp[VD.enc,AV.nm]
theorem Sv{R:Type}{N:Nat}:∀ (l:List (Nat×VD)) (x:oe l R),H8 N l=true->∀ t v,aQ (eQ l x).1 t=some v->v.nm (fun n=>n<N)
 | [],x,_,t,v,h=>by simp[eQ,aQ] at h
 | (t0,d)::l,x,ho,t,v,h=>by
  simp only[H8,Bool.and_eq_true] at ho
  simp only[eQ,aQ] at h
  split at h
  ·simp only[Option.some.injEq] at h
   subst h
   exact zo0 d x ho.1
  ·exact Sv l _ ho.2 t v h
theorem Sw{R:Type}{N:Nat}:∀ (l:List (Nat×OD)) (x:qf l R),Bj N l=true->∀ i o,dP (fS l x).1 i=some o->o.nm (fun n=>n<N)/\i<N
 | [],x,_,i,o,h=>by simp[fS,dP,aQ] at h
 | (i0,d)::l,x,ho,i,o,h=>by
  simp only[Bj,Bool.and_eq_true] at ho
  simp only[fS] at h
  rw[Ek] at h
  split at h
  ·rename_i hi
   simp only[Option.some.injEq] at h
   subst h
   refine⟨?_,by rw[hi];exact Nat.le_of_ble_eq_true ho.1.1⟩
   cases d with
   | rows e=>simp[OD.enc,AO.nm]
   | cells l=>simp only[OD.enc,AO.nm];exact Ia l x ho.1.2
   | cP s=>simp only[OD.enc,AO.nm];exact qM _ _ _
   | mp k e=>simp[OD.enc,AO.nm]
  ·exact Sw l _ ho.2 i o h
theorem Sx{R:Type}:∀ (l:List (Nat×OD)) (x:qf l R) (i:Nat),cX l i=true->∃ o,dP (fS l x).1 i=some o
 | [],x,i,h=>by simp[cX] at h
 | (i0,d)::l,x,i,h=>by
  simp only[fS]
  rw[Ek]
  simp only[cX] at h
  split at h
  ·rename_i hb;rw[if_pos (beq_true hb)];exact⟨_,rfl⟩
  ·rename_i hb;rw[if_neg (beq_false hb)];exact Sx l _ i h
theorem zaw{l:List (Nat×Option AO)}{n:Nat}{o:AO}(h:dP l n=some o):aQ l n=some (some o):=by
 unfold dP at h
 split at h
 ·rename_i x hx;rw[hx,h]
 ·simp at h
theorem Es{rn:List (Nat×Nat)}{i n:Nat}(h:aQ rn i=some n):qe n rn=true:=by
 induction rn with
 | nil=>simp[aQ] at h
 | cons p r ih=>
  obtain⟨j,m⟩:=p
  simp only[aQ] at h
  simp only[qe]
  split at h
  ·simp only[Option.some.injEq] at h;rw[h,eV]
  ·split
   ·rfl
   ·exact ih h
theorem Sy{rn:List (Nat×Nat)}(h:yE rn=true){i j n:Nat}(hi:aQ rn i=some n)(hj:aQ rn j=some n):i=j:=by
 induction rn with
 | nil=>simp[aQ] at hi
 | cons p r ih=>
  obtain⟨k,m⟩:=p
  simp only[yE] at h
  split at h
  ·simp at h
  ·rename_i hk
   simp only[aQ] at hi hj
   split at hi<;>split at hj
   ·rename_i h1 _ h2;rw[beq_true h1,beq_true h2]
   ·simp only[Option.some.injEq] at hi
    subst hi
    rw[Es hj] at hk;simp at hk
   ·simp only[Option.some.injEq] at hj
    subst hj
    rw[Es hi] at hk;simp at hk
   ·exact ih h hi hj
theorem zo1{rn:List (Nat×Nat)}(h:Bd rn=true){i n:Nat}(hi:aQ rn i=some n)(hl:i<16):i=n:=by
 induction rn with
 | nil=>simp[aQ] at hi
 | cons p r ih=>
  obtain⟨k,m⟩:=p
  simp only[Bd] at h
  simp only[aQ] at hi
  split at hi
  ·rename_i hb
   have:=beq_true hb
   subst this
   simp only[Option.some.injEq] at hi
   subst hi
   split at h
   ·split at h
    ·rename_i hm;exact beq_true hm
    ·simp at h
   ·rename_i hm
    exact absurd (show Nat.blt i 16=true from by simpa [Nat.blt] using Nat.ble_eq_true_of_le hl) (by rw[hm];simp)
  ·split at h
   ·split at h
    ·exact ih h hi
    ·simp at h
   ·exact ih h hi
theorem Et{α:Type}{l:List (Nat×α)}{n:Nat}{x:α}(h:aQ l n=some x):(n,x)∈l:=by
 induction l with
 | nil=>simp[aQ] at h
 | cons p r ih=>
  obtain⟨m,y⟩:=p
  simp only[aQ] at h
  split at h
  ·rename_i hb
   simp only[Option.some.injEq] at h
   subst h
   rw[beq_true hb];simp
  ·exact List.mem_cons_of_mem _ (ih h)
theorem NB{E:Env}{fz:Option (List Nat)}{rn:List (Nat×Nat)}{dom:Nat->Bool}{i b:Nat}(h:cV (fK E fz rn dom) i b):∃ n,aQ rn i=some n/\cV E n b:=by
 obtain⟨L,h1,h2,h3⟩:=h
 simp only[fK] at h1
 split at h1
 ·split at h1
  ·rename_i n hn;exact⟨n,hn,L,h1,h2,h3⟩
  ·simp only[Option.some.injEq] at h1;subst h1;simp at h2
 ·simp at h1
theorem zax{W0:WX}{okIn B:Nat->Prop}{E:Env}{fz:Option (List Nat)}{rn:List (Nat×Nat)}{dom:Nat->Bool}(he:jm W0 okIn B E)(ma:yE rn=true)(vt:Bd rn=true)(k5:∀ i,dom i=true->i<16->∃ n,aQ rn i=some n):
  jm W0 okIn B (fK E fz rn dom):=by
 refine⟨?_,?_,?_,fun b hb=>.inl (he.sr b hb),he.fr,he.sz,he.new,he.os,he.tape,he.output,?_⟩
 ·intro n m b h1 h2
  obtain⟨n',a1,a2⟩:=NB h1
  obtain⟨m',b1,b2⟩:=NB h2
  have:=he.inj n' m' b a2 b2
  subst this
  exact Sy ma a1 b1
 ·intro n b h1
  obtain⟨n',a1,a2⟩:=NB h1
  obtain⟨c1,c2,c3⟩:=he.own n' b a2
  refine⟨c1,c2,?_⟩
  rintro (hk | ⟨m,hm,hk,_⟩)
  ·exact c3 hk
  ·rw[he.inj m n' b hm a2,Es a1] at hk;simp at hk
 ·rintro b (hb | ⟨n,hn,_,_⟩)
  ·exact he.iR b hb
  ·obtain⟨c1,c2,_⟩:=he.own n b hn
   exact⟨c2,.inr c1⟩
 ·intro n L hL hn
  simp only[fK] at hL
  split at hL
  ·rename_i hd
   obtain⟨m,hm⟩:=k5 n hd hn
   rw[hm] at hL
   have:=zo1 vt hm hn
   subst this
   exact he.li n L hL hn
  ·simp at hL
theorem je.sound{D:je}(nB:D.wf=true){g:Ga}{q:List Prop}{x:D.T}(h:D.dec g=some (q,x))(hq:∀ p∈q,p):lB g (D.enc x):=by
 intro W0 okIn B E a hs
 unfold je.dec at h
 split at h
 case h_2=>simp at h
 rename_i hnt
 rw[wW] at h
 split at h
 case h_2=>simp at h
 rename_i ma vt
 generalize hrn:tS (dP g.eB) D.eB (yG (aQ g.tmps) D.tmps (Er D.eB))=rn at h ma vt
 simp only[je.wf,Bool.and_eq_true] at nB
 obtain⟨⟨w1,w2⟩,w3⟩:=nB
 obtain⟨q0,y0,g1,g2,g3,g4⟩:=Nz (fz:=none) (dom:=cX D.eB) hs.ob (val:=fun t=>a.tmps.getD t undef) (fun t v hv=>(hs.tmp t v hv).1) h hq
 obtain⟨q1,y1,k1,k2,k3,k4,k5,_⟩:=NA (fz:=none) (dom:=cX D.eB) hs.ob g1 g2 (fun _ h=>h)
 have he:=hs.env
 refine⟨fK E none rn (cX D.eB),rfl,?_⟩
 have e1:(D.enc x).tmps=(eQ D.tmps x).1:=rfl
 have e2:(D.enc x).eB=(fS D.eB y0).1:=by simp only[je.enc,g3]
 have e3:(D.enc x).next=D.next:=rfl
 have e4:(D.enc x).nt=D.nt:=rfl
 refine⟨hs.defers,by rw[e4,<-beq_true hnt];exact hs.size,?_,?_,?_,?_,?_⟩
 ·intro t v hv
  rw[e1] at hv
  exact⟨g4 _ (Et hv),by rw[e3];exact Sv _ x w2 t v hv⟩
 ·intro n o ho
  rw[e2] at ho
  have cO:=Sw _ y0 w3 n o ho
  exact⟨k4 n o (Et (zaw ho)),by rw[e3];exact cO.1,by rw[e3];exact cO.2⟩
 ·intro n L hL
  rw[e2]
  simp only[fK] at hL
  split at hL
  ·rename_i hd;exact Sx _ _ n hd
  ·simp at hL
 ·exact zax he ma vt fun i hi=>k5 i hi rfl
 ·intro n hn
  rw[e3]
  have:=Nat.le_of_ble_eq_true w1
  omega
structure FD where
 par:List (Nat×VD)
 fk:List (Nat×OD)
 res:List (Nat×VD)
 cM:List (Nat×OD)
@[reducible] def FD.In(D:FD):Type:=oe D.par (qf D.fk Unit)
@[reducible] def FD.Out(D:FD):Type:=oe D.res (qf D.cM Unit)
def wX:Nat->List (Nat×VD)->Bool
 | _,[]=>true
 | i,(j,_)::l=>Nat.beq j i&&wX (i+1) l
def Ib(l:List (Nat×OD))(d:LD):Bool:=
 match d with
 | .own n _=>cX l n
 | .ptr n _=>cX l n
 | .epr n _ _=>cX l n
 | .mpr n=>cX l n
 | _=>true
def tU(l:List (Nat×OD)):List LD->Bool
 | []=>true
 | d::r=>Ib l d&&tU l r
def VD.gK(l:List (Nat×OD)):VD->Bool
 | .leaf d=>Ib l d
 | .cP _=>true
 | .agg r=>tU l r
 | .fn _ x y=>tU l x&&tU l y
 | .arr _=>true
def Bk(l:List (Nat×OD)):List (Nat×VD)->Bool
 | []=>true
 | (_,v)::r=>v.gK l&&Bk l r
def OD.gK(l:List (Nat×OD)):OD->Bool
 | .cells r=>tU l r
 | _=>true
def Ic(l:List (Nat×OD)):List (Nat×OD)->Bool
 | []=>true
 | (_,o)::r=>o.gK l&&Ic l r
def zay(p:List (Nat×OD)):List (Nat×OD)->Bool
 | []=>true
 | (i,_)::r=>((Nat.ble 16 i&&Nat.blt i 32)||(Nat.blt i 16&&cX p i))&&!cX r i&&zay p r
def FD.wf(D:FD):Bool:=
 wX 0 D.par&&wX 0 D.res&&H8 16 D.par&&Bj 16 D.fk&&Bk D.fk D.par&&Ic D.fk D.fk&&Bk D.cM D.res&&Ic D.cM D.cM&&zay D.fk D.cM
def gW{R:Type}(l:List (Nat×VD))(x:oe l R):List AV:=(eQ l x).1.map Prod.snd
def FnX(P:Program)[Tabs P](F:FuncId)(D:FD)(f:D.In->Option D.Out):Prop:=
 callable P F/\∀ (x:D.In) (y:D.Out),f x=some y->∀ (W0:WX) (E:Env) (vs:List Value),E.w=W0.toWorld->Tabs.G P E.w (fun b=>b<E.w.heap.size/\∀ n,¬ cV E n b)->
  (∀ n m b,cV E n b->cV E m b->n=m)->(∀ n b,cV E n b->b<E.w.heap.size/\¬ E.ok b)->(∀ b,E.ok b->b<E.w.heap.size)->
  (∀ n L,E.mu n=some L->W0.m0 n=some L/\cX D.fk n=true)->(∀ n o,(n,some o)∈(fS D.fk (eQ D.par x).2).1->eO E n o)->aR E (gW D.par x) vs->
  Calls P F vs.toArray E.w fun e w'=>∃ z E',e=.returned z/\E'.w=w'/\VR E' (vm (gW D.res y)) z/\(∀ n o,(n,some o)∈(fS D.cM (eQ D.res y).2).1->eO E' n o)/\
   (∀ n L,E'.mu n=some L->cX D.cM n=true)/\jm W0 E.ok (fun b=>(∃ n,cV E n b)\/W0.heap.size<=b) E'
noncomputable def ND(P:Program)(rs:List ResultVar)(D:FD)(g:Ga):Option (List Prop×D.Out):=
 match yA P (aQ g.tmps) (dP g.eB) rs with
 | none=>none
 | some (q,l)=>match Nat.beq (iP l) (iP D.res) with
  | true=>match wV (tS (dP g.eB) D.cM (yG (nth l) D.res (Er D.cM))) (fun rn=>match yE rn,Bd rn with
    | true,true=>Bg none rn (dP g.eB) (nth l) D.res (Bh true none rn (dP g.eB) D.cM (some ([],())))
    | _,_=>none) with
   | some (q',y)=>some (bQ q q',y)
   | none=>none
  | false=>none
noncomputable def tV(M:kS)(P:Program)(rs:List ResultVar)(D:FD):yD D.Out:=fun X g k=>
 match ND P rs D g with
 | some (q,y)=>jZ M q (k y)
 | none=>none
noncomputable def yI(M:kS)(P:Program)(rs:List ResultVar)(D1 D2:FD):yD (D1.Out⊕D2.Out):=fun X g k=>
 match ND P rs D1 g with
 | some (q,y)=>jZ M q (k (.inl y))
 | none=>match ND P rs D2 g with
  | some (q,y)=>jZ M q (k (.inr y))
  | none=>none
theorem Bl{X:Type}(l:List Prop)(x:Option X)(hl:∀ p∈l,p):jZ std l x=x:=by
 induction l with
 | nil=>rfl
 | cons p r ih=>
  show aj p (jZ std r x)=x
  rw[aC (hl p (by simp)),ih fun p hp=>hl p (by simp[hp])]
theorem zo3(P:Program)(rs:List ResultVar)(D:FD):(tV std P rs D).Nat:=by
 refine⟨fun Y g f y h=>?_⟩
 unfold tV at h ⊢
 split at h
 ·rename_i q z hd
  obtain⟨hq,h⟩:=mO h
  exact⟨z,h,fun X k=>by simp only[hd,Bl q _ hq]⟩
 ·simp at h
theorem zaz(P:Program)(rs:List ResultVar)(D1 D2:FD):(yI std P rs D1 D2).Nat:=by
 refine⟨fun Y g f y h=>?_⟩
 unfold yI at h ⊢
 split at h
 ·rename_i q z hd
  obtain⟨hq,h⟩:=mO h
  exact⟨.inl z,h,fun X k=>by simp only[hd,Bl q _ hq]⟩
 ·rename_i hd
  split at h
  ·rename_i q z hd2
   obtain⟨hq,h⟩:=mO h
   exact⟨.inr z,h,fun X k=>by simp only[hd,hd2,Bl q _ hq]⟩
  ·simp at h
theorem zo5{P:Program}{rs:List ResultVar}{D1 D2:FD}{g:Ga}{y:D1.Out}(h:yI std P rs D1 D2 _ g some=some (.inl y)):tV std P rs D1 D1.Out g some=some y:=by
 unfold yI at h
 unfold tV
 split at h
 ·rename_i q z hd
  obtain⟨hq,h⟩:=mO h
  simp only[Option.some.injEq,Sum.inl.injEq] at h
  subst h
  simp only[hd,Bl q _ hq]
 ·split at h
  ·obtain⟨hq,h⟩:=mO h
   simp at h
  ·simp at h
theorem zo6{P:Program}{rs:List ResultVar}{D1 D2:FD}{g:Ga}{y:D2.Out}(h:yI std P rs D1 D2 _ g some=some (.inr y)):tV std P rs D2 D2.Out g some=some y:=by
 unfold yI at h
 unfold tV
 split at h
 ·obtain⟨hq,h⟩:=mO h
  simp at h
 ·split at h
  ·rename_i q z hd
   obtain⟨hq,h⟩:=mO h
   simp only[Option.some.injEq,Sum.inr.injEq] at h
   subst h
   simp only[hd,Bl q _ hq]
  ·simp at h
noncomputable def fnE(M:kS)(P:Program)(CO:Bool->qT)(LS:List (Nat×lZ))(D:FD)(fn:Func)(c:Code)(x:D.In):Option D.Out:=
 match eQ D.par x with
 | (tm,y)=>match fS D.fk y with
  | (ob,_)=>Ga.jl ⟨tm,ob,16,fn.ntmps⟩ fun g=>l7 M P CO LS (tV M P fn.results.toList D) c D.Out (fun r=>r) g fun e g'=>match e with
   | .normal=>tV M P fn.results.toList D D.Out g' some
   | _=>none
structure FD2 where
 par:List (Nat×VD)
 fk:List (Nat×OD)
 zaA:List (Nat×VD)
 zaB:List (Nat×OD)
 zaC:List (Nat×VD)
 zaD:List (Nat×OD)
@[reducible] def FD2.one(D:FD2):FD:=⟨D.par,D.fk,D.zaA,D.zaB⟩
@[reducible] def FD2.two(D:FD2):FD:=⟨D.par,D.fk,D.zaC,D.zaD⟩
@[reducible] def FD2.In(D:FD2):Type:=oe D.par (qf D.fk Unit)
@[reducible] def FD2.Out(D:FD2):Type:=D.one.Out⊕D.two.Out
def FD2.wf(D:FD2):Bool:=D.one.wf&&D.two.wf
def Ie{A B:Type}(x:Option (A⊕B)):Option A:=
 match x with
 | some (.inl a)=>some a
 | _=>none
def Ig{A B:Type}(x:Option (A⊕B)):Option B:=
 match x with
 | some (.inr b)=>some b
 | _=>none
theorem zo7{A B:Type}{x:Option (A⊕B)}{a:A}(h:Ie x=some a):x=some (.inl a):=by
 unfold Ie at h
 split at h
 ·simp only[Option.some.injEq] at h;rw[h]
 ·simp at h
theorem zo8{A B:Type}{x:Option (A⊕B)}{b:B}(h:Ig x=some b):x=some (.inr b):=by
 unfold Ig at h
 split at h
 ·simp only[Option.some.injEq] at h;rw[h]
 ·simp at h
def FnX2(P:Program)[Tabs P](F:FuncId)(D:FD2)(f:D.In->Option D.Out):Prop:=
 FnX P F D.one (fun x=>Ie (f x))/\FnX P F D.two (fun x=>Ig (f x))
noncomputable def fnE2(M:kS)(P:Program)(CO:Bool->qT)(LS:List (Nat×lZ))(D:FD2)(fn:Func)(c:Code)(x:D.In):Option D.Out:=
 match eQ D.par x with
 | (tm,y)=>match fS D.fk y with
  | (ob,_)=>Ga.jl ⟨tm,ob,16,fn.ntmps⟩ fun g=>l7 M P CO LS (yI M P fn.results.toList D.one D.two) c D.Out (fun r=>r) g fun e g'=>match e with
   | .normal=>yI M P fn.results.toList D.one D.two D.Out g' some
   | _=>none
theorem Sz{R:Type}:∀ {l:List (Nat×VD)} {i:Nat} {x:oe l R},wX i l=true->∀ {t:Nat} {v:AV},(t,v)∈(eQ l x).1->i<=t/\(gW l x)[t-i]? =some v
 | [],i,x,_,t,v,h=>by simp[eQ] at h
 | (j,d)::l,i,x,hk,t,v,h=>by
  simp only[wX,Bool.and_eq_true] at hk
  have hj:=beq_true hk.1
  subst hj
  simp only[eQ] at h
  rcases List.mem_cons.1 h with h | h
  ·simp only[Prod.mk.injEq] at h
   obtain⟨rfl,rfl⟩:=h
   exact⟨Nat.le_refl _,by simp[gW,eQ]⟩
  ·obtain⟨h1,h2⟩:=Sz hk.2 h
   refine⟨by omega,?_⟩
   rw[show t-j=(t-(j+1))+1 by omega]
   simpa [gW,eQ] using h2
theorem Bm{R:Type}:∀ (l:List (Nat×VD)) (x:oe l R),(gW l x).length=l.length
 | [],x=>rfl
 | (j,d)::l,x=>by
  have:=Bm l (d.enc x).2
  simp only[gW,eQ,List.map_cons,List.length_cons,List.length_map] at this ⊢
  omega
theorem aR.get{E:Env}:∀ {l:List AV} {vs:List Value},aR E l vs->∀ {i:Nat} {v:AV},l[i]? =some v->∃ z,vs[i]? =some z/\VR E v z:=by
 intro l vs h i v hi
 exact aR.nth h hi
theorem aR.NF{E:Env}:∀ {l:List AV} {vs:List Value},l.length=vs.length->(∀ (i:Nat) (v:AV),l[i]? =some v->∃ z,vs[i]? =some z/\VR E v z)->aR E l vs
 | [],[],_,_=>by simp[aR]
 | [],_::_,h,_=>by simp at h
 | _::_,[],h,_=>by simp at h
 | a::l,z::vs,hl,h=>by
  simp only[aR]
  refine⟨z,vs,rfl,?_,aR.NF (by simpa using hl) fun i v hi=>?_⟩
  ·obtain⟨y,h1,h2⟩:=h 0 a rfl
   simp only[List.getElem?_cons_zero,Option.some.injEq] at h1
   subst h1;exact h2
  ·obtain⟨y,h1,h2⟩:=h (i+1) v (by simpa using hi)
   exact⟨y,by simpa using h1,h2⟩
theorem zaE{E E':Env}{l l':List AV}{z:Value}(hl:l.length=l'.length)(h:VR E (vm l) z)(hc:∀ vs,aR E l vs->aR E' l' vs):VR E' (vm l') z:=by
 have key:∀ {m m':List AV},m.length=m'.length->m.length≠1->VR E (.fG m) z->(∀ vs,aR E m vs->aR E' m' vs)->VR E' (.fG m') z:=by
  intro m m' _ _ h hc
  simp only[VR] at h ⊢
  obtain⟨vs,rfl,hv⟩:=h
  exact⟨vs,rfl,hc vs hv⟩
 match l,l',hl with
 | [],[],hl=>exact key hl (by simp) h hc
 | [a],[b],hl=>
  have:=hc [z] (by simp only[aR];exact⟨z,[],rfl,h,rfl⟩)
  simp only[aR] at this
  obtain⟨v,r,hv,h1,_⟩:=this
  simp only[List.cons.injEq] at hv
  rw[hv.1];exact h1
 | a::b::l,c::d::l',hl=>exact key hl (by simp) h hc
theorem FnX.core{P:Program}[Tabs P]{CO:Bool->qT}(hC:El P fun b=>sG (CO b))(tQ:P.follows .mixedOrders=true){LS:List (Nat×lZ)}(hL:∀ n D,(n,D)∈LS->D.OK){F:FuncId}{fn:Func}{c:Code}{D:FD}(nB:D.wf=true)
  (hf:P.funcs[F]? =some fn) (hb:fn.body=some c) (hle:D.par.length<=fn.ntmps) {R:Type} {ret:yD R} (zo9:ret.Nat) {x:D.In} {y:D.Out} {r:R} (zaF:∀ g',ret R g' some=some r->tV std P fn.results.toList D D.Out g' some=some y)
  (zaG:Ga.jl ⟨(eQ D.par x).1,(fS D.fk (eQ D.par x).2).1,16,fn.ntmps⟩ (fun g=>l7 std P CO LS ret c R (fun r=>r) g fun e g'=>match e with
   | .normal=>ret R g' some
   | _=>none)=some r) (W0:WX) (E:Env) (vs:List Value) (hw:E.w=W0.toWorld) (hG:Tabs.G P E.w (fun b=>b<E.w.heap.size/\∀ n,¬ cV E n b))
  (ma:∀ n m b,cV E n b->cV E m b->n=m) (dS:∀ n b,cV E n b->b<E.w.heap.size/\¬ E.ok b) (cR:∀ b,E.ok b->b<E.w.heap.size)
  (gp:∀ n L,E.mu n=some L->W0.m0 n=some L/\cX D.fk n=true) (kg:∀ n o,(n,some o)∈(fS D.fk (eQ D.par x).2).1->eO E n o) (eZ:aR E (gW D.par x) vs):
  Calls P F vs.toArray E.w fun e w'=>∃ z E',e=.returned z/\E'.w=w'/\VR E' (vm (gW D.res y)) z/\(∀ n o,(n,some o)∈(fS D.cM (eQ D.res y).2).1->eO E' n o)/\
   (∀ n L,E'.mu n=some L->cX D.cM n=true)/\jm W0 E.ok (fun b=>(∃ n,cV E n b)\/W0.heap.size<=b) E':=by
 simp only[FD.wf,Bool.and_eq_true] at nB
 obtain⟨⟨⟨⟨⟨⟨⟨⟨w1,w2⟩,w3⟩,w4⟩,w5⟩,w6⟩,w7⟩,w8⟩,w9⟩:=nB
 have hlen:vs.length=D.par.length:=by rw[eZ.length,Bm]
 obtain⟨g0,hg0,zpe⟩:=Si ⟨(eQ D.par x).1,(fS D.fk (eQ D.par x).2).1,16,fn.ntmps⟩ (fun g=>l7 std P CO LS ret c R (fun r=>r) g fun e g'=>match e with
   | .normal=>ret R g' some
   | _=>none)
 rw[hg0] at zaG
 have hs:mN W0 E.ok (fun b=>(∃ n,cV E n b)\/W0.heap.size<=b) ⟨(eQ D.par x).1,(fS D.fk (eQ D.par x).2).1,16,fn.ntmps⟩ E { tmps:=vs.toArray++Array.replicate (fn.ntmps-vs.toArray.size) undef,defers:=[] }:=by
  refine⟨rfl,by simp;omega,fun t v ht=>?_,fun n o ho=>?_,fun n L hL=>?_,?_,fun n hn=>hn⟩
  ·obtain⟨_,h2⟩:=Sz w1 (Et ht)
   obtain⟨z,h3,h4⟩:=eZ.get h2
   rw[Nat.sub_zero] at h3
   have hlt:t<vs.length:=by
    rcases Nat.lt_or_ge t vs.length with hlt | hge
    ·exact hlt
    ·rw[List.getElem?_eq_none hge] at h3;simp at h3
   refine⟨?_,Sv _ x w3 t v ht⟩
   have:(vs.toArray++Array.replicate (fn.ntmps-vs.toArray.size) undef).getD t undef=z:=by
    rw[Array.getD_eq_getD_getElem?,Array.getElem?_append_left (by simpa using hlt)]
    simp[h3]
   rw[this];exact h4
  ·have cO:=Sw _ (eQ D.par x).2 w4 n o ho
   exact⟨kg n o (Et (zaw ho)),cO.1,cO.2⟩
  ·exact Sx _ _ n (gp n L hL).2
  ·refine⟨ma,fun n b hn=>⟨.inl ⟨n,hn⟩,dS n b hn⟩,fun b hb=>⟨cR b hb,.inl hb⟩,fun b hb=>hb,fun _ _ _=>by rw[hw],by rw[hw];exact Nat.le_refl _,fun b hb=>.inr hb,by rw[hw],by rw[hw],by rw[hw],fun n L hL _=>⟨L,(gp n L hL).1,rfl,rfl,rfl⟩⟩
 have key:∀ {g':Ga} {E':Env} {a':Act},tV std P fn.results.toList D D.Out g' some=some y->mN W0 E.ok (fun b=>(∃ n,cV E n b)\/W0.heap.size<=b) g' E' a'->
   a'.defers=[]/\∃ z,(results fn a'.tmps).run P E'.w=.ok z E'.w/\∃ z' oc,Ending.returned z=.returned z'/\oc.w=E'.w/\VR oc (vm (gW D.res y)) z'/\(∀ n o,(n,some o)∈(fS D.cM (eQ D.res y).2).1->eO oc n o)/\
   (∀ n L,oc.mu n=some L->cX D.cM n=true)/\jm W0 E.ok (fun b=>(∃ n,cV E n b)\/W0.heap.size<=b) oc:=by
  intro g' E' a' hr gJ
  unfold tV at hr
  split at hr
  case h_2=>simp at hr
  rename_i q0 y0 ht
  obtain⟨hq0,hr⟩:=mO hr
  simp only[Option.some.injEq] at hr
  subst hr
  unfold ND at ht
  split at ht
  ·simp at ht
  rename_i q l oZ
  split at ht
  case h_2=>simp at ht
  rename_i NG
  split at ht
  case h_2=>simp at ht
  rename_i q' y' hd
  simp only[Option.some.injEq,Prod.mk.injEq] at ht
  obtain⟨rfl,rfl⟩:=ht
  have hq:∀ p∈q,p:=fun p hp=>hq0 p (da.2 (.inl hp))
  have wB:∀ p∈q',p:=fun p hp=>hq0 p (da.2 (.inr hp))
  rw[wW] at hd
  split at hd
  case h_2=>simp at hd
  rename_i hin vt
  generalize tS (dP g'.eB) D.cM (yG (nth l) D.res (Er D.cM))=rn at hd hin vt
  obtain⟨z,kf,o8⟩:=zou gJ oZ hq
  have zaJ:l.length=D.res.length:=by have:=beq_true NG;rwa [lS,lS] at this
  have conv:∀ vs,aR E' l vs->aR (fK E' none rn (cX D.cM)) (gW D.res y') vs/\(∀ n o,(n,some o)∈(fS D.cM (eQ D.res y').2).1->eO (fK E' none rn (cX D.cM)) n o)/\(∀ i,cX D.cM i=true->i<16->∃ n,aQ rn i=some n):=by
   intro vs hv
   obtain⟨q0,y0,g1,g2,g3,g4⟩:=Nz (fz:=none) (dom:=cX D.cM) gJ.ob (val:=fun t=>vs.getD t undef) (fun t v ht=>by
    rw[su] at ht
    obtain⟨u,h1,h2⟩:=hv.get ht
    simp only[List.getD_eq_getElem?_getD,h1,Option.getD_some]
    exact h2) hd wB
   obtain⟨q1,y1,k1,k2,k3,k4,k5,_⟩:=NA (fz:=none) (dom:=cX D.cM) gJ.ob g1 g2 (fun _ h=>h)
   refine⟨aR.NF (by rw[Bm,hv.length,zaJ]) fun i v hi=>?_,by rw[g3];exact k4,fun i hi hlt=>k5 i hi rfl hlt⟩
   have hlt:i<vs.length:=by
    rcases Nat.lt_or_ge i (gW D.res y').length with hh | hh
    ·rw[Bm] at hh;rw[hv.length];omega
    ·rw[List.getElem?_eq_none hh] at hi;simp at hi
   refine⟨vs[i],by simp[hlt],?_⟩
   simp only[gW,List.getElem?_map,Option.map_eq_some_iff] at hi
   obtain⟨⟨t,v'⟩,hm,rfl⟩:=hi
   have n9:=List.mem_of_getElem? hm
   have fI:=g4 _ n9
   obtain⟨_,Yt⟩:=Sz w2 n9
   have HH:t=i:=by
    have Ih:∀ {l:List (Nat×VD)} {R:Type} {x:oe l R} {j i:Nat} {p:Nat×AV},wX j l=true->(eQ l x).1[i]? =some p->p.1=j+i:=by
     intro l
     induction l with
     | nil=>intro R x j i p _ hp;simp[eQ] at hp
     | cons a l ih=>
      obtain⟨k,d⟩:=a
      intro R x j i p hk hp
      simp only[wX,Bool.and_eq_true] at hk
      simp only[eQ] at hp
      cases i with
      | zero=>simp only[List.getElem?_cons_zero,Option.some.injEq] at hp;subst hp;exact beq_true hk.1
      | succ i=>simp only[List.getElem?_cons_succ] at hp;have:=ih hk.2 hp;omega
    have:=Ih w2 hm
    simpa using this
   subst HH
   simpa [hlt] using fI
  refine⟨gJ.defers,z,kf,z,fK E' none rn (cX D.cM),rfl,rfl,?_,?_,?_,?_⟩
  ·exact zaE (by rw[Bm,zaJ]) o8 fun vs hv=>(conv vs hv).1
  ·obtain⟨vs0,zpf,yH⟩:=HW gJ oZ hq
   exact (conv vs0 yH).2.1
  ·intro n L hL
   simp only[fK] at hL
   split at hL
   ·assumption
   ·simp at hL
  ·obtain⟨vs0,zpf,yH⟩:=HW gJ oZ hq
   exact zax gJ.env hin vt (conv vs0 yH).2.2
 have hT:yc P W0 (fun b=>(∃ n,cV E n b)\/W0.heap.size<=b):=by
  refine Tabs.mono _ _ _ _ (fun b hb=>⟨⟨by rw[<-hw];exact hb.1,?_⟩,by rw[hw]⟩) hG
  rintro (⟨n,hn⟩ | h)
  ·exact hb.2 n hn
  ·rw[<-hw] at h;have:=hb.1;omega
 refine calls_of_wp hf hb ?_
 refine wp_mono (pf.sub zpe (Z1 hC tQ c _ _ (zoQ hC tQ hL zo9 c _ _ _ _ r zaG)) W0 E.ok _ E _ hT hs) fun e a' w' hq=>?_
 obtain⟨g',E',h1,rfl,h3⟩:=hq
 cases e with
 | normal=>exact key (zaF _ h1) h3
 | ret=>exact key (zaF _ h1) h3
 | exit id=>simp[tR] at h1
 | goto l=>simp[tR] at h1
 | panic ch=>simp[tR] at h1
 | outgrown=>simp[tR] at h1
theorem FnX.of{P:Program}[Tabs P]{CO:Bool->qT}(hC:El P fun b=>sG (CO b))(tQ:P.follows .mixedOrders=true){LS:List (Nat×lZ)}(hL:∀ n D,(n,D)∈LS->D.OK){F:FuncId}{fn:Func}{c:Code}{D:FD}(nB:D.wf=true){f:D.In->Option D.Out}
  (hf : P.funcs[F]? = some fn) (hb : fn.body = some c) (hname : (fn.name == "runtime.NumGoroutine") = false) (hle : D.par.length ≤ fn.ntmps) (h : ∀ x, fnE std P CO LS D fn c x = f x) : FnX P F D f := by
 refine⟨⟨fn,hf,hname,by rw[hb];rfl⟩,fun x y js W0 E vs hw hG ma dS cR gp kg eZ=>?_⟩
 rw[<-h x] at js
 exact FnX.core hC tQ hL nB hf hb hle (zo3 P _ D) (fun _ h=>h) js W0 E vs hw hG ma dS cR gp kg eZ
theorem FnX2.of{P:Program}[Tabs P]{CO:Bool->qT}(hC:El P fun b=>sG (CO b))(tQ:P.follows .mixedOrders=true){LS:List (Nat×lZ)}(hL:∀ n D,(n,D)∈LS->D.OK){F:FuncId}{fn:Func}{c:Code}{D:FD2}(nB:D.wf=true){f:D.In->Option D.Out}
  (hf : P.funcs[F]? = some fn) (hb : fn.body = some c) (hname : (fn.name == "runtime.NumGoroutine") = false) (hle : D.par.length ≤ fn.ntmps) (h : ∀ x, fnE2 std P CO LS D fn c x = f x) : FnX2 P F D f := by
 simp only[FD2.wf,Bool.and_eq_true] at nB
 refine⟨⟨⟨fn,hf,hname,by rw[hb];rfl⟩,fun x y js W0 E vs hw hG ma dS cR gp kg eZ=>?_⟩,⟨⟨fn,hf,hname,by rw[hb];rfl⟩,fun x y js W0 E vs hw hG ma dS cR gp kg eZ=>?_⟩⟩
 ·have js:=zo7 js
  rw[<-h x] at js
  exact FnX.core hC tQ hL nB.1 hf hb hle (zaz P _ D.one D.two) (fun _ h=>zo5 h) js W0 E vs hw hG ma dS cR gp kg eZ
 ·have js:=zo8 js
  rw[<-h x] at js
  exact FnX.core (D:=D.two) hC tQ hL nB.2 hf hb hle (zaz P _ D.one D.two) (fun _ h=>zo6 h) js W0 E vs hw hG ma dS cR gp kg eZ
structure bf where
 F:FuncId
 D:FD
 f:D.In->Option D.Out
 ft:D.Out
 fz:Bool
def Sh.gi:Sh->Bool
 | .int _=>true
 | .bool=>true
 | .str=>true
 | .unit=>true
 | .sl _=>false
 | .arr _ e=>e.gi
 | .pair a b=>a.gi&&b.gi
 | .err=>false
 | .pt _=>false
def LD.gi:LD->Bool
 | .sl _=>false
 | .dq _ _=>false
 | .err=>false
 | _=>true
def Bn:List LD->Bool
 | []=>true
 | d::l=>d.gi&&Bn l
def VD.gi:VD->Bool
 | .leaf d=>d.gi
 | .cP s=>s.gi
 | .agg l=>Bn l
 | .fn _ x y=>Bn x&&Bn y
 | .arr s=>s.gi
def Ii:List (Nat×VD)->Bool
 | []=>true
 | (_,v)::l=>v.gi&&Ii l
def OD.gi:OD->Bool
 | .rows e=>e.gi
 | .cells l=>Bn l
 | .cP s=>s.gi
 | .mp _ e=>e.gi
def Ij:List (Nat×OD)->Bool
 | []=>true
 | (_,o)::l=>o.gi&&Ij l
theorem aN.free{w w':World}{ok nu:Nat->Prop}:∀ (s:Sh),s.gi=true->∀ (x:s.T) (vs:List Value),aN w ok s x vs->aN w' nu s x vs:=by
 intro s
 induction s with
 | int k=>intro _ x vs h;exact h
 | bool=>intro _ x vs h;exact h
 | str=>intro _ x vs h;exact h
 | unit=>intro _ x vs h;exact h
 | sl e ih=>intro hn;simp[Sh.gi] at hn
 | arr n e ih=>
  intro hn x vs h
  simp only[aN] at h ⊢
  exact⟨h.1,h.2.1,fun i hi=>ih hn _ _ (h.2.2 i hi)⟩
 | pair a b fP fQ=>
  intro hn x vs h
  simp only[Sh.gi,Bool.and_eq_true] at hn
  simp only[aN] at h ⊢
  obtain⟨v1,v2,h1,h2,h3⟩:=h
  exact⟨v1,v2,h1,fP hn.1 _ _ h2,fQ hn.2 _ _ h3⟩
 | err=>intro hn;simp[Sh.gi] at hn
 | pt e ih=>intro hn;simp[Sh.gi] at hn
theorem lq.free{w w':World}{ok nu:Nat->Prop}{k:IntKind}{e:Sh}(hn:e.gi=true):∀ {l:List (Int×e.T)} {ms:List MapEntry},lq w ok k e l ms->lq w' nu k e l ms
 | [],ms,h=>h
 | p::l,ms,h=>by
  obtain⟨m,r,h1,h2,h3,h4⟩:=h
  exact⟨m,r,h1,h2,aN.free e hn _ _ h3,lq.free hn h4⟩
def lC(f:Nat->Nat)(v:AV):AV:=
 match v with
 | .own n e=>.own (f n) e
 | .ptr n off=>.ptr (f n) off
 | .epr n e i off=>.epr (f n) e i off
 | .mpr n=>.mpr (f n)
 | v=>v
def mapA{α β:Type}(f:α->β):List α->List β
 | []=>[]
 | a::l=>f a::mapA f l
def ph(f:Nat->Nat)(v:AV):AV:=
 match v with
 | .agg l=>.agg (mapA (lC f) l)
 | .fn F x y=>.fn F (mapA (lC f) x) (mapA (lC f) y)
 | v=>lC f v
def AO.re(f:Nat->Nat)(o:AO):AO:=
 match o with
 | .cells l=>.cells (mapA (lC f) l)
 | o=>o
theorem SC{α β:Type}(f:α->β):∀ l:List α,mapA f l=l.map f
 | []=>rfl
 | a::l=>by simp[mapA,SC f l]
def lD(nr rn:List (Nat×Nat))(nm i:Nat):Nat:=
 match aQ nr i with
 | some n=>n
 | none=>match aQ rn i with
  | some n=>n
  | none=>nm
def jf(full:Bool)(args:List AV)(ob:Nat->Option AO):Nat->Option AO:=
 match full with
 | true=>ob
 | false=>fun n=>match AV.dK n (lu ob args) with
  | true=>ob n
  | false=>none
theorem zaK{full:Bool}{args:List AV}{ob:Nat->Option AO}{n:Nat}{o:AO}(h:jf full args ob n=some o):ob n=some o:=by
 cases full with
 | true=>exact h
 | false=>
  simp only[jf] at h
  split at h
  ·exact h
  ·simp at h
theorem zpg{full:Bool}{args:List AV}{ob:Nat->Option AO}{n:Nat}(h:AV.dK n args=true):jf full args ob n=ob n:=by
 cases full with
 | true=>rfl
 | false=>simp only[jf,Ee,h,Bool.true_or]
def NH(v:AV):List Nat:=
 match v with
 | .own n _=>[n]
 | .rsl n _ _ _=>[n]
 | .csl n _ _=>[n]
 | .ptr n _=>[n]
 | .wsl n _ _ _ _ _ _ _=>[n]
 | _=>[]
def Bo:List AV->List Nat
 | []=>[]
 | v::l=>bQ (NH v) (Bo l)
def SD(v:AV):List Nat:=
 match v with
 | .agg l=>Bo l
 | .fn _ x y=>bQ (Bo x) (Bo y)
 | v=>NH v
def argNames:List AV->List Nat
 | []=>[]
 | v::l=>bQ (SD v) (argNames l)
def Il(p:List (Nat×OD)):List (Nat×Nat)->Bool
 | []=>true
 | (i,_)::r=>cX p i&&Il p r
def qV(rn:List (Nat×Nat)):List (Nat×OD)->List Nat
 | []=>[]
 | (i,_)::r=>match aQ rn i with
  | some _=>qV rn r
  | none=>i::qV rn r
def qW:List Nat->Nat->List (Nat×Nat)
 | [],_=>[]
 | i::r,nm=>(i,nm)::qW r (nm+1)
def tY(f:Nat->Nat):cx->cx
 | []=>[]
 | (i,o)::r=>(f i,match o with
  | some o=>some (o.re f)
  | none=>none)::tY f r
def qX(rn:List (Nat×Nat))(cM:List (Nat×OD)):List (Nat×OD)->cx
 | []=>[]
 | (i,_)::r=>match cX cM i with
  | true=>qX rn cM r
  | false=>match aQ rn i with
   | some n=>(n,none)::qX rn cM r
   | none=>qX rn cM r
def qg(rn:List (Nat×Nat))(ob:Nat->Option AO):List Nat->cx
 | []=>[]
 | n::r=>match qe n rn with
  | true=>qg rn ob r
  | false=>match ob n with
   | some (.rows e xs)=>(n,some (.gR e xs))::qg rn ob r
   | some (.cells l)=>(n,some (.hM l))::qg rn ob r
   | _=>qg rn ob r
def Eu(ob:Nat->Option AO):List Nat->List Nat
 | []=>[]
 | n::r=>match ob n with
  | some (.mp _ _ _)=>Eu ob r
  | _=>n::Eu ob r
def Bp(b:Bool)(ob:Nat->Option AO)(args:List AV):Option (List Nat):=
 match b with
 | true=>some (Eu ob (argNames args))
 | false=>none
def NI(o:Option AO):Bool:=
 match o with
 | some (.mp _ _ _)=>true
 | _=>false
theorem Im{ob:Nat->Option AO}{n:Nat}:∀ {l:List Nat},dG n (Eu ob l)=(dG n l&&!NI (ob n))
 | []=>by simp[Eu,dG]
 | m::l=>by
  simp only[Eu,dG]
  cases hb:Nat.beq n m with
  | true=>
   have:=beq_true hb
   subst this
   split
   ·rename_i ho;rw[Im];simp[NI,ho]
   ·rename_i ho
    simp only[dG,hb,Bool.true_and]
    cases h2:ob n with
    | none=>rfl
    | some o=>cases o<;>first | rfl | exact (ho _ _ _ h2).elim
  | false=>
   split
   ·exact Im
   ·simp only[dG,hb];exact Im
noncomputable def yJ(M:kS)(full:Bool)(e:bf)(args:List AV)(ob:Nat->Option AO)(nm:Nat):Option wS:=
 match Nat.beq (iP args) (iP e.D.par) with
 | false=>none
 | true=>wV (tS (jf full args ob) e.D.fk (yG (nth args) e.D.par [])) fun rn=>wV (qW (qV rn e.D.cM) nm) fun nr=>match yE rn,Il e.D.fk rn,Nat.ble (iP (qV rn e.D.cM)) 16 with
  | true,true,true=>match Bg (Bp e.fz (jf full args ob) args) rn (jf full args ob) (nth args) e.D.par (Bh false (Bp e.fz (jf full args ob) args) rn (jf full args ob) e.D.fk (some ([],()))) with
   | some (q,x)=>some ⟨e.D.Out,jZ M q (e.f x),e.ft,
     fun y=>vm (mapA (ph (lD nr rn nm)) (gW e.D.res y)),
     fun y=>bQ (tY (lD nr rn nm) (fS e.D.cM (eQ e.D.res y).2).1) (bQ (qX rn e.D.cM e.D.fk) (match e.fz with
      | true=>qg rn (jf full args ob) (argNames args)
      | false=>[])),fun _ _ y k=>k y,fun _ _ _=>rfl⟩
   | none=>none
  | _,_,_=>none
def bf.st(e:bf):Bool:=e.D.wf&&(e.fz||(Ii e.D.res&&Ij e.D.cM))
structure bf.OK(P:Program)[Tabs P](e:bf):Prop where
 fn:FnX P e.F e.D e.f
 st:e.st=true
structure tZ where
 F:FuncId
 D:FD2
 f:D.In->Option D.Out
 zaL:D.one.Out
 zph:D.two.Out
 fz:Bool
@[reducible] noncomputable def tZ.one(e:tZ):bf:=⟨e.F,e.D.one,fun x=>Ie (e.f x),e.zaL,e.fz⟩
@[reducible] noncomputable def tZ.two(e:tZ):bf:=⟨e.F,e.D.two,fun x=>Ig (e.f x),e.zph,e.fz⟩
structure tZ.OK(P:Program)[Tabs P](e:tZ):Prop where
 fn:FnX2 P e.F e.D e.f
 st:(e.one.st&&e.two.st)=true
structure NJ(D:FD) where
 q:List Prop
 x:D.In
 res:D.Out->AV
 lA:D.Out->cx
noncomputable def vu(full:Bool)(D:FD)(fz:Bool)(args:List AV)(ob:Nat->Option AO)(nm:Nat):Option (NJ D):=
 match Nat.beq (iP args) (iP D.par) with
 | false=>none
 | true=>wV (tS (jf full args ob) D.fk (yG (nth args) D.par [])) fun rn=>wV (qW (qV rn D.cM) nm) fun nr=>match yE rn,Il D.fk rn,Nat.ble (iP (qV rn D.cM)) 16 with
  | true,true,true=>match Bg (Bp fz (jf full args ob) args) rn (jf full args ob) (nth args) D.par (Bh false (Bp fz (jf full args ob) args) rn (jf full args ob) D.fk (some ([],()))) with
   | some (q,x)=>some ⟨q,x,fun y=>vm (mapA (ph (lD nr rn nm)) (gW D.res y)),
     fun y=>bQ (tY (lD nr rn nm) (fS D.cM (eQ D.res y).2).1) (bQ (qX rn D.cM D.fk) (match fz with
      | true=>qg rn (jf full args ob) (argNames args)
      | false=>[]))⟩
   | none=>none
  | _,_,_=>none
def zaM{A B C:Type}(f:A->C)(h:B->C)(s:A⊕B):C:=
 match s with
 | .inl a=>f a
 | .inr b=>h b
noncomputable def Ev(M:kS)(full:Bool)(e:tZ)(args:List AV)(ob:Nat->Option AO)(nm:Nat):Option wS:=
 match vu full e.D.one e.fz args ob nm with
 | none=>none
 | some p=>match vu full e.D.two e.fz args ob nm with
  | none=>none
  | some p'=>some ⟨e.D.Out,jZ M p.q (e.f p.x),.inl e.zaL,zaM p.res p'.res,zaM p.lA p'.lA,
    fun _ M y k=>M.sum y (fun a=>k (.inl a)) (fun b=>k (.inr b)),fun _ y k=>by cases y<;>rfl⟩
structure vv where
 F:FuncId
 co:List AV->(Nat->Option AO)->Nat->Option (List Prop×AV×cx)
structure vv.OK(P:Program)[Tabs P](e:vv):Prop where
 ok:∀ args ob nm q v u,e.co args ob nm=some (q,v,u)->(∀ p∈q,p)->D8 P e.F args ob nm v u
 M1:∀ args ob ob' nm,(∀ n,AV.dK n (lu ob args)=true->ob n=ob' n)->e.co args ob nm=e.co args ob' nm
noncomputable def Ew(M:kS)(e:vv)(args:List AV)(ob:Nat->Option AO)(nm:Nat):Option wS:=
 match e.co args ob nm with
 | none=>none
 | some (q,v,u)=>some ⟨Unit,jZ M q (some ()),(),fun _=>v,fun _=>u,fun _ _ y k=>k y,fun _ _ _=>rfl⟩
inductive EntX where
 | one (e:bf) | two (e:tZ) | hand (e:vv)
def EntX.F(e:EntX):FuncId:=
 match e with
 | .one e=>e.F
 | .two e=>e.F
 | .hand e=>e.F
def EntX.OK(P:Program)[Tabs P](e:EntX):Prop:=
 match e with
 | .one e=>e.OK P
 | .two e=>e.OK P
 | .hand e=>e.OK P
noncomputable def NK(M:kS)(full:Bool)(e:EntX)(args:List AV)(ob:Nat->Option AO)(nm:Nat):Option wS:=
 match e with
 | .one e=>yJ M full e args ob nm
 | .two e=>Ev M full e args ob nm
 | .hand e=>Ew M e args ob nm
noncomputable def coL(M:kS)(es:List EntX):Bool->qT:=fun draw F args ob nm=>go M (!draw) F args ob nm es
 where
 go (M:kS) (full:Bool) (F:FuncId) (args:List AV) (ob:Nat->Option AO) (nm:Nat):List EntX->Option wS
  | []=>none
  | e::r=>match Nat.beq F e.F with
   | true=>match NK M full e args ob nm with
    | some R=>some R
    | none=>go M full F args ob nm r
   | false=>go M full F args ob nm r
theorem zaN{args:List AV}{ob ob':Nat->Option AO}(h:∀ n,AV.dK n (lu ob args)=true->ob n=ob' n):jf false args ob=jf false args ob':=by
 funext n
 show (match AV.dK n (lu ob args) with | true=>ob n | false=>none)=(match AV.dK n (lu ob' args) with | true=>ob' n | false=>none)
 rw[<-ZF h]
 cases hh:AV.dK n (lu ob args) with
 | true=>exact h n hh
 | false=>rfl
theorem zpi{M:kS}{e:bf}{args:List AV}{ob ob':Nat->Option AO}{nm:Nat}(h:∀ n,AV.dK n (lu ob args)=true->ob n=ob' n):yJ M false e args ob nm=yJ M false e args ob' nm:=by
 unfold yJ
 rw[zaN h]
theorem zaO{D:FD}{fz:Bool}{args:List AV}{ob ob':Nat->Option AO}{nm:Nat}(h:∀ n,AV.dK n (lu ob args)=true->ob n=ob' n):vu false D fz args ob nm=vu false D fz args ob' nm:=by
 unfold vu
 rw[zaN h]
theorem NL{n:Nat}:∀ {l m:List Nat},dG n (bQ l m)=(dG n l||dG n m)
 | [],m=>by simp[bQ,dG]
 | a::l,m=>by
  simp only[bQ,dG]
  cases Nat.beq n a<;>simp[NL]
theorem zaP{n:Nat}{v:AV}(h:dG n (NH v)=true):v.has n=true:=by
 cases v<;>simp[NH,dG] at h<;>(split at h<;>simp at h<;>rename_i hb<;>simp only[AV.has];exact hb)
theorem NM{n:Nat}:∀ {l:List AV},dG n (Bo l)=true->AV.dK n l=true
 | [],h=>by simp[Bo,dG] at h
 | v::l,h=>by
  simp only[Bo,NL,Bool.or_eq_true] at h
  simp only[AV.dK,Bool.or_eq_true]
  exact h.imp zaP NM
theorem zpj{n:Nat}{v:AV}(h:dG n (SD v)=true):v.has n=true:=by
 cases v with
 | agg l=>exact NM h
 | fn f x y=>
  simp only[SD,NL,Bool.or_eq_true] at h
  simp only[AV.has,Bool.or_eq_true]
  exact h.imp NM NM
 | _=>exact zaP h
theorem zaQ{n:Nat}:∀ {l:List AV},dG n (argNames l)=true->AV.dK n l=true
 | [],h=>by simp[argNames,dG] at h
 | v::l,h=>by
  simp only[argNames,NL,Bool.or_eq_true] at h
  simp only[AV.dK,Bool.or_eq_true]
  exact h.imp zpj zaQ
section
variable {E2 E':Env} {f:Nat->Nat} {cM:List (Nat×OD)}
structure yK(E2 E':Env)(f:Nat->Nat)(cM:List (Nat×OD))(ref:Prop):Prop where
 w:E'.w=E2.w
 mu:∀ i,cX cM i=true->E'.mu (f i)=E2.mu i
 ok:ref->∀ b,E2.ok b->E'.ok b
theorem zaR{ref:Prop}(m:yK E2 E' f cM ref){d:LD}{x:d.T}{z:Value}(hd:Ib cM d=true)(hr:d.gi=true\/ref)(h:VR E2 (d.enc x) z):VR E' (lC f (d.enc x)) z:=by
 cases d<;>simp only[LD.enc,lC,VR] at h ⊢<;>try exact h
 ·rcases hr with hr | hr
  ·simp[LD.gi] at hr
  ·exact aN.mono (fun b hb=>by rw[m.w]) (m.ok hr) _ _ _ h
 ·exact⟨h.1,fun L hL=>h.2 L ((m.mu _ hd).symm.trans hL)⟩
 ·exact⟨h.1,fun L hL=>h.2 L ((m.mu _ hd).symm.trans hL)⟩
 ·exact⟨h.1,fun L hL=>h.2 L ((m.mu _ hd).symm.trans hL)⟩
 ·rcases hr with hr | hr
  ·simp[LD.gi] at hr
  ·obtain⟨b,o,cs,h1,h2,h3,h4,h5⟩:=h
   exact⟨b,o,cs,h1,m.ok hr b h2,h3,h4.mono (by rw[m.w]),aN.mono (fun b hb=>by rw[m.w]) (m.ok hr) _ _ _ h5⟩
 ·rcases hr with hr | hr
  ·simp[LD.gi] at hr
  ·exact eT.mono (fun b hb=>by rw[m.w]) (m.ok hr) _ _ h
 ·exact⟨h.1,fun L hL=>h.2 L ((m.mu _ hd).symm.trans hL)⟩
theorem Io{ref:Prop}(m:yK E2 E' f cM ref){R:Type}:∀ {ds:List LD} {x:sH ds R} {zs:List Value},tU cM ds=true->(Bn ds=true\/ref)->aR E2 (j0 ds x).1 zs->aR E' (mapA (lC f) (j0 ds x).1) zs
 | [],x,zs,_,_,h=>by simpa [j0,mapA,aR] using h
 | d::ds,x,zs,hd,hr,h=>by
  simp only[tU,Bool.and_eq_true] at hd
  simp only[Bn,Bool.and_eq_true] at hr
  simp only[j0,mapA,aR] at h ⊢
  obtain⟨z,r,rfl,h1,h2⟩:=h
  exact⟨z,r,rfl,zaR m hd.1 (hr.imp_left And.left) h1,Io m hd.2 (hr.imp_left And.right) h2⟩
theorem SE{s:Sh}{x:s.T}:mapA (lC f) (enc s x)=enc s x:=by
 rw[SC]
 have:∀ (s:Sh) (x:s.T),∀ v∈enc s x,lC f v=v:=by
  intro s
  induction s with
  | int k=>intro x v hv;simp[enc] at hv;subst hv;rfl
  | bool=>intro x v hv;simp[enc] at hv;subst hv;rfl
  | str=>intro x v hv;simp[enc] at hv;subst hv;rfl
  | sl e ih=>intro x v hv;simp[enc] at hv;subst hv;rfl
  | arr n e ih=>intro x v hv;simp[enc] at hv
  | unit=>intro x v hv;simp[enc] at hv
  | pair a b fP fQ=>
   intro x v hv
   simp only[enc,iC] at hv
   rcases List.mem_append.1 hv with hv | hv
   ·exact fP _ v hv
   ·exact fQ _ v hv
  | err=>intro x v hv;simp[enc] at hv;subst hv;rfl
  | pt e ih=>intro x v hv;simp[enc] at hv;subst hv;rfl
 have h2:=List.map_congr_left (f:=lC f) (g:=id) (l:=enc s x) fun v hv=>this s x v hv
 simpa using h2
theorem zpk{s:Sh}(hn:s.gi=true){x:s.T}{zs:List Value}(h:aR E2 (enc s x) zs):aR E' (enc s x) zs:=by
 have:∀ (s:Sh),s.gi=true->∀ (x:s.T),∀ v∈enc s x,∀ z,VR E2 v z->VR E' v z:=by
  intro s
  induction s with
  | int k=>intro _ x v hv z hz;simp[enc] at hv;subst hv;simpa [VR] using hz
  | bool=>intro _ x v hv z hz;simp[enc] at hv;subst hv;simpa [VR] using hz
  | str=>intro _ x v hv z hz;simp[enc] at hv;subst hv;simpa [VR] using hz
  | sl e ih=>intro hn;simp[Sh.gi] at hn
  | arr n e ih=>intro _ x v hv;simp[enc] at hv
  | unit=>intro _ x v hv;simp[enc] at hv
  | pair a b fP fQ=>
   intro hn x v hv
   simp only[Sh.gi,Bool.and_eq_true] at hn
   simp only[enc,iC] at hv
   rcases List.mem_append.1 hv with hv | hv
   ·exact fP hn.1 _ v hv
   ·exact fQ hn.2 _ v hv
  | err=>intro hn;simp[Sh.gi] at hn
  | pt e ih=>intro hn;simp[Sh.gi] at hn
 refine aR.NF h.length.symm fun i v hi=>?_
 obtain⟨z,h1,h2⟩:=h.get hi
 exact⟨z,h1,this s hn x v (List.mem_of_getElem? hi) z h2⟩
theorem zaS{ref:Prop}(m:yK E2 E' f cM ref){s:Sh}{x:s.T}(hr:s.gi=true\/ref){zs:List Value}(h:aR E2 (enc s x) zs):aR E' (mapA (lC f) (enc s x)) zs:=by
 rw[SE]
 rcases hr with hr | hr
 ·exact zpk hr h
 ·refine aR.mono (us:=fun _=>False) ⟨fun b hb=>by rw[m.w],m.ok hr,fun n h=>h.elim⟩ _ _ ?_ h
  exact qM _ s x
theorem zpl{ref:Prop}(m:yK E2 E' f cM ref){R:Type}{d:VD}{x:d.To R}{z:Value}(hd:d.gK cM=true)(hr:d.gi=true\/ref)(h:VR E2 (d.enc x).1 z):VR E' (ph f (d.enc x).1) z:=by
 cases d with
 | leaf d=>
  have:=zaR m (x:=H6 d x) hd hr h
  cases d<;>exact this
 | cP s=>
  simp only[VD.enc,ph,VR] at h ⊢
  obtain⟨vs,rfl,hv⟩:=h
  exact⟨vs,rfl,zaS m hr hv⟩
 | agg l=>
  simp only[VD.enc,ph,VR] at h ⊢
  obtain⟨vs,rfl,hv⟩:=h
  exact⟨vs,rfl,Io m hd hr hv⟩
 | fn F a b=>
  simp only[VD.gK,Bool.and_eq_true] at hd
  simp only[VD.gi,Bool.and_eq_true] at hr
  simp only[VD.enc,ph,VR] at h ⊢
  obtain⟨p,q,rfl,h1,h2⟩:=h
  exact⟨p,q,rfl,Io m hd.1 (hr.imp_left And.left) h1,Io m hd.2 (hr.imp_left And.right) h2⟩
 | arr s=>
  simp only[VD.enc,ph,lC,VR] at h ⊢
  obtain⟨vs,rfl,hv⟩:=h
  refine⟨vs,rfl,?_⟩
  rcases hr with hr | hr
  ·exact aN.free _ hr _ _ hv
  ·exact aN.mono (fun b hb=>by rw[m.w]) (m.ok hr) _ _ _ hv
theorem zaT{ref:Prop}(m:yK E2 E' f cM ref){R:Type}:∀ {l:List (Nat×VD)} {x:oe l R} {zs:List Value},Bk cM l=true->(Ii l=true\/ref)->aR E2 (gW l x) zs->aR E' (mapA (ph f) (gW l x)) zs
 | [],x,zs,_,_,h=>by simpa [gW,eQ,mapA,aR] using h
 | (t,d)::l,x,zs,hd,hr,h=>by
  simp only[Bk,Bool.and_eq_true] at hd
  simp only[Ii,Bool.and_eq_true] at hr
  have e1:gW ((t,d)::l) x=(d.enc x).1::gW l (d.enc x).2:=rfl
  rw[e1] at h ⊢
  simp only[mapA,aR] at h ⊢
  obtain⟨z,r,rfl,h1,h2⟩:=h
  exact⟨z,r,rfl,zpl m hd.1 (hr.imp_left And.left) h1,zaT m hd.2 (hr.imp_left And.right) h2⟩
theorem zpm{ref:Prop}(m:yK E2 E' f cM ref){R:Type}{d:OD}{x:d.To R}{i:Nat}(hi:cX cM i=true)(hd:d.gK cM=true)(hr:d.gi=true\/ref)(h:eO E2 i (d.enc x).1):eO E' (f i) ((d.enc x).1.re f):=by
 cases d with
 | rows e=>
  obtain⟨L,h1,h2,h3⟩:=h
  refine⟨L,(m.mu i hi).trans h1,h2,?_⟩
  rcases h3 with h3 | ⟨b,cs,T,fr,k1,k2,k3,k4,k5,k6,k7⟩
  ·exact .inl h3
  ·refine .inr ⟨b,cs,T,fr,k1,k2,by rw[m.w];exact k3,k4,k5,k6,fun j hj=>?_⟩
   rcases hr with hr | hr
   ·exact aN.free _ hr _ _ (k7 j hj)
   ·exact aN.mono (fun b hb=>by rw[m.w]) (m.ok hr) _ _ _ (k7 j hj)
 | cells l=>
  obtain⟨b,cs,T,fr,h1,h2,h3,h4⟩:=h
  exact⟨b,cs,T,fr,(m.mu i hi).trans h1,by rw[m.w];exact h2,h3,Io m hd hr h4⟩
 | cP s=>
  obtain⟨b,cs,T,fr,h1,h2,h3,h4⟩:=h
  exact⟨b,cs,T,fr,(m.mu i hi).trans h1,by rw[m.w];exact h2,h3,zaS m hr h4⟩
 | mp k e=>
  obtain⟨b,es,c,h1,h2,h3⟩:=h
  refine⟨b,es,c,(m.mu i hi).trans h1,by rw[m.w];exact h2,?_⟩
  rcases hr with hr | hr
  ·exact lq.free hr h3
  ·exact lq.mono (fun b hb=>by rw[m.w]) (m.ok hr) h3
theorem zaU{ref:Prop}(m:yK E2 E' f cM ref){R:Type}:∀ {l:List (Nat×OD)} {x:qf l R},(∀ i,cX l i=true->cX cM i=true)->Ic cM l=true->(Ij l=true\/ref)->(∀ i o,(i,some o)∈(fS l x).1->eO E2 i o)->
  ∀ n r,(n,r)∈tY f (fS l x).1->∃ i o,cX l i=true/\n=f i/\r=some o/\eO E' n o/\∀ p:Nat->Prop,(∀ j,cX cM j=true->p (f j))->o.nm p
 | [],x,_,_,_,_,n,r,h=>by simp[fS,tY] at h
 | (i,d)::l,x,nY,hd,hr,b8,n,r,h=>by
  simp only[Ic,Bool.and_eq_true] at hd
  simp only[Ij,Bool.and_eq_true] at hr
  have hi:cX cM i=true:=nY i (by simp[cX,eV])
  simp only[fS,tY] at h
  rcases List.mem_cons.1 h with h | h
  ·simp only[Prod.mk.injEq] at h
   obtain⟨rfl,rfl⟩:=h
   refine⟨i,_,by simp[cX,eV],rfl,rfl,zpm m hi hd.1 (hr.imp_left And.left) (b8 i _ (by simp[fS])),fun p hp=>?_⟩
   have qa:∀ (d:LD) (y:d.T),Ib cM d=true->(lC f (d.enc y)).nm p:=by
    intro d y hd
    cases d<;>simp only[LD.enc,lC,AV.nm]<;>first | trivial | exact hp _ hd
   have Ip:∀ (ds:List LD) (y:sH ds (qf l R)),tU cM ds=true->AV.cI p (mapA (lC f) (j0 ds y).1):=by
    intro ds
    induction ds with
    | nil=>intro y _;simp[j0,mapA,AV.cI]
    | cons d ds ih=>
     intro y Bq
     simp only[tU,Bool.and_eq_true] at Bq
     simp only[j0,mapA,AV.cI]
     exact⟨qa d _ Bq.1,ih _ Bq.2⟩
   cases d with
   | rows e=>simp[OD.enc,AO.re,AO.nm]
   | cells ds=>exact Ip ds _ hd.1
   | cP s=>simp only[OD.enc,AO.re,AO.nm,SE];exact qM p _ _
   | mp k e=>simp[OD.enc,AO.re,AO.nm]
  ·obtain⟨i',o,h1,h2⟩:=zaU m (fun j hj=>nY j (by simp only[cX];split<;>first | rfl | exact hj)) hd.2 (hr.imp_left And.right) (fun i' o' vk=>b8 i' o' (by simp[fS,vk])) n r h
   exact⟨i',o,by simp only[cX];split<;>first | rfl | exact h1,h2⟩
end
end Go.Tr
