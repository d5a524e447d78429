/- Functions of Go's library over rows of any closed element: a clone. slices.SortFunc over rows of plain elements, by the shelf's contract. slices.Delete over rows of any closed element: the walk. Functions of Go's library over rows of any closed element: elements taken out of an owned row. Conditions: none but those that each theorem states. -/
import Derived.Test.YtploofmfghjijaaGreatMacD
import Derived.Shelf.SlicesE.Clone
import Derived.Shelf.SlSortCmp.NoneTotal
import Derived.Shelf.SlicesE.Delete
namespace Go.Proofs
open Go.Shelf Go.RowKit Go.Lib
variable {P:Program} {ρ:Ren}
set_option maxHeartbeats 2000000 in
set_option maxRecDepth 100000 in
theorem zrz(L:SlLaysE0.n41 P ρ)(i0:TypeInfo)(z:Value)(size bytes:Nat)(hi:P.info? (ρ.t 23)=some i0)(AI:i0.zero=some z)(kf:i0.size=size)(o8:i0.bytes=bytes)(iu:z.cells.size=size)(cq:0<size)
  (z23:∀ w,(Go.sizeOf (ρ.t 23)).run P w=.ok size w) (a:Addr) (c:Nat) (w:World):
  Calls P (ρ.f 41) #[.slice (some a) 0 c] w fun e w'=>∃ v',e=.returned v'/\w'.ownsRow w.heap.size (ρ.t 23) size v' 0 []/\Below w.heap.size w w':=by
 have mixed:=L.mixed;have t4:=L.t4;have a4:=L.a4;have z4:=L.z4;have v4:=L.v4;have t22:=L.t22;have a22:=L.a22;have z22:=L.z22;have v22:=L.v22
 have q22:∀ (w:World) (a:Option Addr) (n c n' c':Nat),(binOp .eql (ρ.t 22) (.slice a n c) (.slice none n' c')).run P w=.ok (.bool a.isNone) w:=fun w a n c n' c'=>Lib.run_eql_slice_nil w _ _ a n c n' c' L.t22
 have u22:∀ w,Sem.run P (underlying (ρ.t 22)) w=.ok (TypeDesc.slice (ρ.t 23)) w:=run_underlying t22
 obtain⟨_,_,FG⟩:=L.f41
 go_enter FG,SlBodyN.n41_ntmps ρ
 go_wp2_with (at_builtin;refine wpList_append_own _ rfl _ _ (ρ.t 22) rfl w.heap.size (ρ.t 23) i0 z size bytes t22 hi AI kf o8 iu cq _ _ _ rfl (World.ownsRow_made w #[] 0 (Nat.le_refl _) (Nat.zero_le _) (by simp)) a 0 c [] rfl (by simp) (by intro j u hj;simp at hj) (by intro u hu;cases hu) (by simp) (by simp) (by simp) ?_)
 intro v' w1 dS zrA Y4
 go_wp2
 go_ret
 refine⟨v',rfl,by simpa using dS,?_⟩
 exact ((Below.refl _ w).alloc (Nat.le_refl _) _).grown zrA (by simp) (by intro k hk;simp[Value.ownBlock] at hk;omega)
end Go.Proofs
namespace Go.Tr
open Go Go.RowKit Go.Shelf
set_option linter.unusedVariables false
set_option linter.unusedSimpArgs false
theorem zrB{P:Program}[Tabs P]{F:FuncId}{par:List (Nat×VD)}{e:Sh}{f:FD.In ⟨par,[],[(0,.leaf (.own 16 e))],[(16,.rows e)]⟩->Option (List e.T×Unit)}(hc:callable P F)
  (h:∀ x y,f x=some y->∀ (w:World) (ok:Nat->Prop) (vs:List Value),Tabs.G P w (fun b=>b<w.heap.size)->(∀ b,ok b->b<w.heap.size)->aR ⟨w,fun _=>none,ok⟩ (gW par x) vs->
   Calls P F vs.toArray w fun en w'=>∃ base cap,en=.returned (.slice base y.1.length cap)/\Below w.heap.size w w'/\
    ((base=none/\cap=0/\y.1.length=0)\/∃ b cs T,base=some ⟨b,0,none⟩/\w.heap.size<=b/\w'.heap[b]? =some (.cells cs T (0,0))/\cs.size=cap*e.size/\y.1.length<=cap/\
     ∀ i (hi:i<y.1.length),aN w ok e (y.1[i]'hi) ((cs.toList.drop (i*e.size)).take e.size))):
  FnX P F ⟨par,[],[(0,.leaf (.own 16 e))],[(16,.rows e)]⟩ f:=by
 refine⟨hc,fun x y js W0 E vs hw hG ma dS cR gp kg eZ=>?_⟩
 have hE:E.mu=fun _=>none:=by
  funext n
  cases hh:E.mu n with
  | none=>rfl
  | some L=>
   have:=(gp n L hh).2
   simp[cX] at this
 obtain⟨w,mu,ok⟩:=E
 simp only at hE hw cR hG
 subst hE
 obtain⟨y,⟨⟩⟩:=y
 have:=h x (y,()) js w ok vs (Tabs.mono _ _ _ _ (fun b hb=>⟨hb.1,rfl⟩) hG) cR eZ
 refine Calls.mono this fun en w' hq=>?_
 obtain⟨base,cap,rfl,hb,hr⟩:=hq
 have xn:W0.heap=w.heap:=by rw[hw]
 refine⟨_,⟨w',fun n=>if n=16 then some ⟨base,cap,base.isSome,y.length⟩ else none,ok⟩,rfl,rfl,?_,fun n o ho=>?_,fun n L hL=>?_,?_⟩
 ·show VR _ (.own 16 e) _
  simp only[VR,eL,true_and,if_true,Option.some.injEq]
  intro L hL
  subst hL
  rfl
 ·have:n=16/\o=.rows e y:=by
   have vk:(n,some o)∈[((16:Nat),some (AO.rows e y))]:=ho
   simpa using vk
  obtain⟨rfl,rfl⟩:=this
  refine⟨⟨base,cap,base.isSome,List.length y⟩,rfl,rfl,?_⟩
  rcases hr with⟨rfl,rfl,h0⟩ | ⟨b,cs,T,rfl,h1,h2,h3,h4,h5⟩
  ·exact .inl ⟨rfl,h0,rfl⟩
  ·refine .inr ⟨b,cs,T,(0,0),rfl,rfl,h2,h3,h4,fun i _ hi=>by omega,fun i hi=>?_⟩
   exact aN.mono (fun b cL=>hb.block b (cR b cL)) (fun b hb=>hb) _ _ _ (h5 i hi)
 ·by_cases hn:n=16
  ·subst hn;rfl
  ·simp[hn] at hL
 ·have zn:∀ n b,cV ⟨w',fun n=>if n=16 then some (⟨base,cap,base.isSome,y.length⟩:Loc) else none,ok⟩ n b->n=16/\w.heap.size<=b/\b<w'.heap.size:=by
   rintro n b ⟨L,k1,k2,k3⟩
   by_cases hn:n=16
   ·subst hn
    simp only[if_true,Option.some.injEq] at k1
    subst k1
    simp only at k2 k3
    rcases hr with⟨rfl,_,_⟩ | ⟨b',cs,T,rfl,h1,h2,_⟩
    ·simp at k3
    ·simp only[Option.some.injEq,Addr.mk.injEq,and_true] at k3
     subst k3
     exact⟨rfl,h1,(Array.getElem?_eq_some_iff.1 h2).1⟩
   ·simp[hn] at k1
  refine⟨fun n m b h1 h2=>(zn n b h1).1.trans (zn m b h2).1.symm,fun n b h1=>?_,fun b cL=>?_,fun b cL=>cL,fun b hlt _=>?_,?_,fun b cL=>.inr cL,?_,?_,?_,fun n L hL hn=>?_⟩
  ·obtain⟨_,c1,c2⟩:=zn n b h1
   refine⟨.inr (by rw[xn];exact c1),c2,fun cL=>?_⟩
   have:=cR b cL
   omega
  ·exact⟨Nat.lt_of_lt_of_le (cR b cL) hb.size,.inl cL⟩
  ·rw[xn] at hlt ⊢;exact hb.block b hlt
  ·rw[xn];exact hb.size
  ·rw[hb.os,hw]
  ·rw[hb.tape,hw]
  ·rw[hb.output,hw]
  ·have:n≠16:=by omega
   simp[this] at hL
@[reducible] def FM(e:Sh):FD:=⟨[(0,.leaf (.sl e))],[],[(0,.leaf (.own 16 e))],[(16,.rows e)]⟩
theorem aN.one{w:World}{ok:Nat->Prop}:∀ (s:Sh) (x:s.T) (vs:List Value),aN w ok s x vs->vs.length=s.size/\∀ u∈vs,u.oneCell'=true:=by
 intro s
 induction s with
 | int k=>intro x vs h;simp only[aN] at h;subst h;simp[Sh.size,Value.oneCell']
 | bool=>intro x vs h;simp only[aN] at h;subst h;simp[Sh.size,Value.oneCell']
 | str=>intro x vs h;simp only[aN] at h;subst h;simp[Sh.size,Value.oneCell']
 | unit=>intro x vs h;simp only[aN] at h;subst h;simp[Sh.size]
 | sl e ih=>intro x vs h;simp only[aN] at h;obtain⟨_,_,rfl,_⟩:=h;simp[Sh.size,Value.oneCell']
 | arr n e ih=>
  intro x vs h
  simp only[aN] at h
  obtain⟨h1,h2,h3⟩:=h
  refine⟨h2,fun u hu=>?_⟩
  obtain⟨j,hj,rfl⟩:=List.getElem_of_mem hu
  have hp:0<e.size:=by
   rcases Nat.eq_zero_or_pos e.size with h0 | h0
   ·rw[h0,Nat.mul_zero] at h2;omega
   ·exact h0
  have hi:j / e.size<List.length x:=by
   rw[h1,Nat.div_lt_iff_lt_mul hp,<-h2];exact hj
  obtain⟨k1,k2⟩:=ih _ _ (h3 (j / e.size) hi)
  refine k2 _ ?_
  have hm:j / e.size*e.size+j % e.size=j:=Nat.div_add_mod' j e.size
  have hlt:j % e.size<e.size:=Nat.mod_lt _ hp
  have hg:((vs.drop (j / e.size*e.size)).take e.size)[j % e.size]? =some vs[j]:=by
   rw[List.getElem?_take_of_lt hlt,List.getElem?_drop,hm,List.getElem?_eq_getElem hj]
  exact List.mem_of_getElem? hg
 | pair a b fP fQ=>
  intro x vs h
  simp only[aN] at h
  obtain⟨v1,v2,rfl,h1,h2⟩:=h
  obtain⟨a1,a2⟩:=fP _ _ h1
  obtain⟨b1,b2⟩:=fQ _ _ h2
  refine⟨by simp[Sh.size,a1,b1],fun u hu=>?_⟩
  rcases List.mem_append.1 hu with hu | hu
  ·exact a2 u hu
  ·exact b2 u hu
 | pt e ih=>
  intro x vs h
  simp only[aN] at h
  obtain⟨b,o,cs,rfl,h⟩:=h
  refine⟨by simp[Sh.size],fun u hu=>?_⟩
  have e:u=Value.pointer (some ⟨b,o,none⟩):=by simpa using hu
  subst e
  rfl
 | err=>
  intro x vs h
  simp only[aN] at h
  obtain⟨y,rfl,h⟩:=h
  refine⟨by simp[Sh.size],fun u hu=>?_⟩
  have e:u=y:=by simpa using hu
  subst e
  exact aN.leaf (w:=w) (ok:=ok) .err x [u] ⟨u,rfl,h⟩ u (by simp)
theorem aN.cells{w:World}{ok:Nat->Prop}{e:Sh}{b o:Nat}:∀ (xs:List e.T),
  (∀ i (h:i<xs.length),∃ cs,cs.length=e.size/\Row w b (o+i*e.size) cs/\aN w ok e (xs[i]'h) cs)->
  ∃ news:List Value,news.length=xs.length*e.size/\(∀ u∈news,u.oneCell'=true)/\(∀ j u,news[j]? =some u->w.cell? ⟨b,o+j,none⟩=some u)/\
   ∀ i (h:i<xs.length),aN w ok e (xs[i]'h) ((news.drop (i*e.size)).take e.size):=by
 intro xs
 induction xs generalizing o with
 | nil=>intro _;exact⟨[],by simp,by simp,by simp,fun i h=>by simp at h⟩
 | cons x xs ih=>
  intro h
  obtain⟨cs,c1,c2,c3⟩:=h 0 (by simp)
  obtain⟨news,n1,n2,n3,n4⟩:=ih (o:=o+e.size) fun i hi=>by
   obtain⟨cs,k1,k2,k3⟩:=h (i+1) (by simp;omega)
   refine⟨cs,k1,?_,by simpa using k3⟩
   have:o+e.size+i*e.size=o+(i+1)*e.size:=by rw[Nat.succ_mul];omega
   rw[this];exact k2
  refine⟨cs++news,by simp[c1,n1,Nat.succ_mul];omega,fun u hu=>?_,fun j u hj=>?_,fun i hi=>?_⟩
  ·rcases List.mem_append.1 hu with hu | hu
   ·exact (aN.one _ _ _ c3).2 u hu
   ·exact n2 u hu
  ·by_cases hlt:j<cs.length
   ·rw[List.getElem?_append_left hlt,List.getElem?_eq_getElem hlt] at hj
    have:=c2 j hlt
    simp only[Nat.zero_mul,Nat.add_zero] at this
    rw[this];exact hj
   ·have hge:cs.length<=j:=by omega
    rw[List.getElem?_append_right hge] at hj
    have:=n3 _ _ hj
    have he:o+e.size+(j-cs.length)=o+j:=by omega
    rwa [he] at this
  ·cases i with
   | zero=>
    have:(List.drop (0*e.size) (cs++news)).take e.size=cs:=by
     rw[Nat.zero_mul,List.drop_zero,<-c1,List.take_left]
    rw[this];simpa using c3
   | succ i=>
    have dD:i<xs.length:=by simpa using hi
    have:List.drop ((i+1)*e.size) (cs++news)=news.drop (i*e.size):=by
     rw[Nat.succ_mul,Nat.add_comm,<-c1,<-List.drop_drop,List.drop_left]
    rw[this];simpa using n4 i dD
theorem zrC{P:Program}[Tabs P]{ρ:Ren}{F:FuncId}{e:Sh}{k:Nat}(hc:callable P F)(L:Go.Proofs.SlLaysE0.n41 P ρ)(hF:ρ.f 41=F)(i0:TypeInfo)(z:Value)(hi:P.info? (ρ.t 23)=some i0)(AI:i0.zero=some z)(kf:i0.size=e.size)(o8:i0.bytes=k)(iu:z.cells.size=e.size)(cq:0<e.size)(hk:0<k)
  (z23:∀ w,(Go.sizeOf (ρ.t 23)).run P w=.ok e.size w):FnX P F (FM e) (fun x=>clone k x.1):=by
 refine zrB hc fun x y js w ok vs hG cR eZ=>?_
 obtain⟨xs,⟨⟩⟩:=x
 obtain⟨h0,hy⟩:=AY js
 obtain rfl:=Option.some.inj hy
 replace eZ:aR ⟨w,fun _=>none,ok⟩ [.fsl e xs] vs:=eZ
 simp only[aR,VR] at eZ
 obtain⟨v,r,rfl,hv,rfl⟩:=eZ
 simp only[aN] at hv
 obtain⟨base,cap,hv,hcap,hz⟩:=hv
 simp only[List.cons.injEq,and_true] at hv
 subst hv
 subst hF
 have fin:∀ (news:List Value) (v':Value) (w':World),(∀ i (h:i<List.length xs),aN w ok e (xs[i]'h) ((news.drop (i*e.size)).take e.size))->w'.ownsRow w.heap.size (ρ.t 23) e.size v' (List.length xs) news->Below w.heap.size w w'->
   ∃ base cap,Ending.returned v'=.returned (.slice base (List.length xs) cap)/\Below w.heap.size w w'/\
    ((base=none/\cap=0/\List.length xs=0)\/∃ b cs T,base=some ⟨b,0,none⟩/\w.heap.size<=b/\w'.heap[b]? =some (.cells cs T (0,0))/\cs.size=cap*e.size/\List.length xs<=cap/\
     ∀ i (hi:i<List.length xs),aN w ok e (xs[i]'hi) ((cs.toList.drop (i*e.size)).take e.size)):=by
  intro news v' w' hn ho hb
  obtain⟨o1,o2⟩:=ho
  rcases o2 with⟨rfl,o2⟩ | ⟨g,cap,cur,rfl,g1,g2,g3,g4,g5,g6⟩
  ·exact⟨none,0,by rw[o2],hb,.inl ⟨rfl,rfl,o2⟩⟩
  ·refine⟨_,cap,rfl,hb,.inr ⟨g,cur,_,rfl,g1,g2,g5,g3,fun i hi=>?_⟩⟩
   have hle:(i+1)*e.size<=List.length xs*e.size:=Nat.mul_le_mul_right _ hi
   have:(cur.toList.drop (i*e.size)).take e.size=(news.drop (i*e.size)).take e.size:=by
    rw[<-g6,List.drop_take,List.take_take]
    congr 1
    rw[Nat.succ_mul] at hle
    omega
   rw[this];exact hn i hi
 rcases hz with hz | ⟨b,o,rfl,hb,hr⟩
 ·have hx:xs=[]:=List.eq_nil_of_length_eq_zero hz
  subst hx
  cases base with
  | none=>
   refine Calls.mono (Go.Proofs.AnyE.slices_Clone_nil L 0 cap w) fun en w' hq=>?_
   obtain⟨rfl,rfl⟩:=hq
   exact⟨none,0,rfl,Below.refl _ _,.inl ⟨rfl,rfl,rfl⟩⟩
  | some a=>
   refine Calls.mono (Go.Proofs.zrz L i0 z e.size k hi AI kf o8 iu cq z23 a cap w) fun en w' hq=>?_
   obtain⟨v',rfl,h1,h2⟩:=hq
   exact fin [] v' w' (fun i h=>by simp at h) h1 h2
 ·obtain⟨news,n1,n2,n3,n4⟩:=aN.cells xs hr
  have h0':List.length xs*k<=140737488355328:=h0
  have hle:List.length xs<=List.length xs*k:=Nat.le_mul_of_pos_right _ hk
  have hm:List.length xs<=maxLen:=by
                      have:maxLen=9223372036854775807:=rfl
                      omega
  refine Calls.mono (Go.Proofs.AnyE.slices_Clone L i0 z e.size k hi AI kf o8 iu cq z23 b o _ cap news w n1 hm h0' n3 n2) fun en w' hq=>?_
  obtain⟨v',rfl,h1,_,h2⟩:=hq
  exact fin news v' w' n4 h1 h2
theorem OQ{P:Program}[Tabs P]{ρ:Ren}{F:FuncId}{e:Sh}{k:Nat}(hc:callable P F)(L:Go.Proofs.SlLaysE0.n41 P ρ)(hF:ρ.f 41=F)
  (hi:(P.info? (ρ.t 23)).map (fun i=>(i.zero.map (fun z=>z.cells.size),i.size,i.bytes))=some (some e.size,e.size,k)) (cq:0<e.size) (hk:0<k)
  (z23:∀ w,(Go.sizeOf (ρ.t 23)).run P w=.ok e.size w):FnX P F (FM e) (fun x=>clone k x.1):=by
 cases hh:P.info? (ρ.t 23) with
 | none=>rw[hh] at hi;simp at hi
 | some i0=>
  rw[hh] at hi
  simp only[Option.map_some,Option.some.injEq,Prod.mk.injEq] at hi
  obtain⟨h1,h2,h3⟩:=hi
  cases hz:i0.zero with
  | none=>rw[hz] at h1;simp at h1
  | some z=>
   rw[hz] at h1
   simp only[Option.map_some,Option.some.injEq] at h1
   exact zrC hc L hF i0 z hh hz h2 h3 h1 cq hk z23
end Go.Tr
namespace Go.Tr
open Go Go.RowKit Go.Shelf
set_option linter.unusedVariables false
set_option linter.unusedSimpArgs false
def Sh.plain:Sh->Bool
 | .int _=>true
 | .bool=>true
 | .str=>true
 | .unit=>true
 | .sl _=>false
 | .arr _ _=>false
 | .pair a b=>a.plain&&b.plain
 | .err=>false
 | .pt _=>false
def pE:(s:Sh)->s.T->List Value
 | .int k,n=>[.int k n]
 | .bool,b=>[.bool b]
 | .str,l=>[.string ⟨l.toArray⟩]
 | .pair a b,x=>pE a (Prod.fst x)++pE b (Prod.snd x)
 | .unit,_=>[]
 | .sl _,_=>[]
 | .arr _ _,_=>[]
 | .err,_=>[]
 | .pt _,_=>[]
theorem OR{w:World}{ok:Nat->Prop}:∀ (s:Sh),s.plain=true->∀ (x:s.T) (vs:List Value),aN w ok s x vs ↔ vs=pE s x:=by
 intro s
 induction s with
 | int k=>intro _ x vs;simp[aN,pE]
 | bool=>intro _ x vs;simp[aN,pE]
 | str=>intro _ x vs;simp[aN,pE]
 | unit=>intro _ x vs;simp[aN,pE]
 | sl e ih=>intro h;simp[Sh.plain] at h
 | arr n e ih=>intro h;simp[Sh.plain] at h
 | err=>intro h;simp[Sh.plain] at h
 | pt e ih=>intro h;simp[Sh.plain] at h
 | pair a b fP fQ=>
  intro h x vs
  simp only[Sh.plain,Bool.and_eq_true] at h
  simp only[aN,pE]
  constructor
  ·rintro ⟨v1,v2,rfl,h1,h2⟩
   rw[(fP h.1 _ _).1 h1,(fQ h.2 _ _).1 h2]
  ·rintro rfl
   exact⟨_,_,rfl,(fP h.1 _ _).2 rfl,(fQ h.2 _ _).2 rfl⟩
@[reducible] def zds(e:Sh)(g:FuncId):FD:=⟨[(0,.leaf (.own 0 e)),(1,.fn g [] [])],[(0,.rows e)],[],[(0,.rows e)]⟩
theorem zrE{P:Program}[Tabs P]{ρ:Ren}{F g:FuncId}{e:Sh}(hc:callable P F)(L:Go.Proofs.SlLaysF0.n6 P ρ)(hF:ρ.f 6=F)(jG:e.plain=true)
  (aE:∀ w,(isAgg (ρ.t 24)).run P w=.ok true w) (zE:∀ w,(Go.sizeOf (ρ.t 24)).run P w=.ok e.size w) (eg:∀ args w,(callFunc g args).run P w=.ok (.enter g args) w) (cq:0<e.size)
  {cmp:e.T->e.T->Option (Int×Unit)} (dh:∀ x y W,Calls P g #[.agg (pE e x).toArray,.agg (pE e y).toArray] W fun en w'=>∃ c,cmp x y=some (c,())/\en=.returned (.int .i64 c)/\∃ q VG,w'=Sort.grow (W.drewN q) VG)
  (zdt:∀ x y,∃ c,cmp x y=some (c,())):FnX P F (zds e g) (fun x=>SZ cmp x.1):=by
 refine⟨hc,fun x y js W0 E vs hw hG ma dS cR gp kg eZ=>?_⟩
 obtain⟨xs,⟨⟩⟩:=x
 obtain⟨⟨h1,h2,o1,o2,o3,o4⟩,hy⟩:=AY js
 obtain rfl:=Option.some.inj hy
 replace h1:1<=List.length xs:=h1
 replace h2:List.length xs<4611686018427387904:=h2
 obtain⟨L0,hL,hlen,hr⟩:eO E 0 (.rows e xs):=kg 0 _ (List.mem_cons_self ..)
 replace eZ:aR E [.own 0 e,.fn g [] []] vs:=eZ
 simp only[aR,VR] at eZ
 obtain⟨v,r,rfl,⟨_,hv⟩,v',r',rfl,⟨p,q,rfl,rfl,rfl⟩,rfl⟩:=eZ
 have hv:=hv L0 hL
 rcases hr with⟨_,h0,_⟩ | ⟨b,cs,T,fr,hb,KR,gq,Cf,hcap,KS,fx⟩
 ·exact absurd h0 (by omega)
 obtain⟨base,cap,own,len⟩:=L0
 simp only at hb KR Cf hcap hlen hv
 subst hb;subst KR;subst hlen;subst hv
 subst hF
 have eW:xs≠[]:=by intro h;rw[h] at h1;simp at h1
 obtain⟨x0,wG⟩:=List.exists_mem_of_ne_nil xs eW
 letI:Inhabited {x:e.T // x∈xs}:=⟨⟨x0,wG⟩⟩
 let enc:{x:e.T // x∈xs}->List Value:=fun x=>pE e x.1
 let cf:{x:e.T // x∈xs}->{x:e.T // x∈xs}->Int:=fun x y=>((cmp x.1 y.1).getD (0,())).1
 have hlt:∀ x y,Go.Proofs.ltOf cf x y=mQ cmp x.1 y.1:=by
  intro x y
  obtain⟨c,hc⟩:=zdt x.1 y.1
  simp[Go.Proofs.ltOf,cf,mQ,hc]
 let d:Array {x:e.T // x∈xs}:=xs.attach.toArray
 have KT:d.size=xs.length:=by simp[d]
 have DX:∀ x,(enc x).length=e.size:=fun x=>((aN.one (w:=E.w) (ok:=E.ok) e x.1 _ ((OR e jG x.1 _).2 rfl)).1)
 have zrI:∀ x,∀ v∈enc x,v.oneCell'=true:=fun x=>((aN.one (w:=E.w) (ok:=E.ok) e x.1 _ ((OR e jG x.1 _).2 rfl)).2)
 have hO:Sort.SWO (Go.Proofs.ltOf cf):=⟨fun x=>by rw[hlt];exact o1 _ x.2,fun x y z a b=>by rw[hlt] at *;exact o2 _ x.2 _ y.2 _ z.2 a b,fun x y z a b=>by rw[hlt] at *;exact o3 _ x.2 _ y.2 _ z.2 a b⟩
 have hT:∀ x y,Go.Proofs.ltOf cf x y=false->Go.Proofs.ltOf cf y x=false->x=y:=fun x y a b=>by
  rw[hlt] at a b
  exact Subtype.ext (o4 _ x.2 _ y.2 a b)
 have hle:xs.length*e.size<=cap*e.size:=Nat.mul_le_mul_right _ hcap
 have hH:Go.Sort.HoldsK enc e.size E.w b 0 d:=by
  intro j hj
  rw[Go.Sort.size_flatK,KT] at hj
  have D3:j<cs.size:=by omega
  have hi:j / e.size<xs.length:=by rw[Nat.div_lt_iff_lt_mul cq];exact hj
  have hm:j / e.size*e.size+j % e.size=j:=Nat.div_add_mod' j e.size
  have Cg:j % e.size<e.size:=Nat.mod_lt _ cq
  refine⟨?_,?_⟩
  ·show (match E.w.heap[b]? with
    | some (.cells c _ _)=>c[0+j]?
    | _=>none)=_
   rw[gq]
   simp only[Nat.zero_add,id]
   rw[Go.Sort.get_flatK enc e.size d j (by rw[KT];exact hj)]
   have hd:d[j / e.size]! =⟨xs[j / e.size],List.getElem_mem hi⟩:=by
    rw[getElem!_pos d _ (by rw[KT];exact hi)]
    simp[d]
   rw[hd]
   have:=(OR e jG _ _).1 (fx (j / e.size) hi)
   have dh:(pE e xs[j / e.size]).length=e.size:=DX ⟨xs[j / e.size],List.getElem_mem hi⟩
   show _=some ((pE e xs[j / e.size])[j % e.size]!)
   rw[getElem!_pos _ _ (by rw[dh];exact Cg),<-List.getElem?_eq_getElem (by rw[dh];exact Cg),<-this,List.getElem?_take_of_lt Cg,List.getElem?_drop,hm]
   simp
  ·show (match E.w.heap[b]? with
    | some (.cells _ _ (lo,hi))=>decide (lo<=0+j)&&decide (0+j<hi)
    | _=>false)=false
   rw[gq]
   have:=KS j D3
   obtain⟨f1,f2⟩:=fr
   simp only[Nat.zero_add] at this ⊢
   rw[<-Bool.not_eq_true,Bool.and_eq_true,decide_eq_true_eq,decide_eq_true_eq]
   exact this
 have hblk:b<E.w.heap.size:=(Array.getElem?_eq_some_iff.1 gq).1
 have zrJ:Go.Proofs.CmpLays P g #[] enc e.size cf b 0 d.size E.w:=by
  intro m os dk hdk x y
  refine Calls.mono (dh x.1 y.1 _) fun en w' hq=>?_
  obtain⟨c,h1,h2,h3⟩:=hq
  refine⟨?_,h3⟩
  rw[h2]
  simp[cf,h1]
 have OS:=Go.Proofs.AnyQ.slices_SortFunc_total L e.size aE zE enc DX zrI cf hO g #[] b 0 cap d E.w eg zrJ hH hblk (by rw[KT];exact h2) hT
 rw[KT] at OS
 refine Calls.mono OS fun en w' hq=>?_
 obtain⟨rfl,n,os,rfl⟩:=hq
 generalize hD:(d.toList.mergeSort fun x y=>!(Go.Proofs.ltOf cf) y x)=D'
 have zp:D'.length=xs.length:=by rw[<-hD,List.length_mergeSort];simp[d]
 have VH:D'.map Subtype.val=xs.mergeSort (fun x y=>!mQ cmp y x):=by
  rw[<-hD,List.map_mergeSort (s:=fun x y=>!mQ cmp y x) (fun a _ b _=>by rw[hlt])]
  congr 1
  simp[d]
 generalize MU:(xs.mergeSort (fun x y=>!mQ cmp y x))=ys at VH
 have wJ:ys.length=xs.length:=by rw[<-VH,List.length_map,zp]
 have HF:(Go.Proofs.sortWorldK enc e.size E.w b 0 n D'.toArray os).heap.size=E.w.heap.size+os.size:=by
  show ((E.w.heap.modify b _)++os).size=_
  simp
 have FN:(Go.Proofs.sortWorldK enc e.size E.w b 0 n D'.toArray os).heap[b]? =some (.cells (Sort.putCells id 0 (Go.Sort.flatK enc e.size D'.toArray) cs) T fr):=by
  show ((E.w.heap.modify b _)++os)[b]? =_
  rw[Array.getElem?_append_left (by simpa using hblk),Array.getElem?_modify]
  simp[gq,Sort.onCells]
 have VI:∀ j,j≠b->j<E.w.heap.size->(Go.Proofs.sortWorldK enc e.size E.w b 0 n D'.toArray os).heap[j]? =E.w.heap[j]? :=by
  intro j KU hj
  show ((E.w.heap.modify b _)++os)[j]? =_
  rw[Array.getElem?_append_left (by simpa using hj),Array.getElem?_modify,if_neg (Ne.symm KU)]
 generalize hW:Go.Proofs.sortWorldK enc e.size E.w b 0 n D'.toArray os=W' at HF FN VI ⊢
 have sA:W'.os=E.w.os/\W'.tape=E.w.tape/\W'.output=E.w.output:=by subst hW;exact⟨rfl,rfl,rfl⟩
 have xn:W0.heap=E.w.heap:=by rw[hw]
 have hnb:∀ j,E.ok j->j≠b:=fun j hj KU=>(dS 0 b ⟨_,hL,rfl,rfl⟩).2 (KU▸hj)
 refine⟨_,⟨W',E.mu,E.ok⟩,rfl,rfl,?_,fun m o ho=>?_,fun m L1 VJ=>?_,?_⟩
 ·show VR _ (.fG []) _
  simp only[VR,aR]
  exact⟨[],rfl,rfl⟩
 ·have:m=0/\o=.rows e ys:=by
   have vk:(m,some o)∈[((0:Nat),some (AO.rows e ys))]:=ho
   simpa using vk
  obtain⟨rfl,rfl⟩:=this
  refine⟨_,hL,wJ.symm,.inr ⟨b,_,T,fr,rfl,rfl,FN,?_,?_,?_,fun i hi=>?_⟩⟩
  ·simpa [Sort.putCells] using Cf
  ·simpa [wJ] using hcap
  ·simpa [Sort.putCells] using KS
  ·refine (OR e jG _ _).2 ?_
   have AB:i<xs.length:=by rw[<-wJ];exact hi
   have hyi:ys[i]=(D'[i]'(by rw[zp];exact AB)).1:=by
    have h1:(D'.map Subtype.val)[i]? =ys[i]? :=by rw[VH]
    rw[List.getElem?_map,List.getElem?_eq_getElem (by rw[zp];exact AB),List.getElem?_eq_getElem hi] at h1
    simpa using h1.symm
   have dh:(pE e ys[i]).length=e.size:=by rw[hyi];exact DX _
   have DU:(i+1)*e.size<=xs.length*e.size:=Nat.mul_le_mul_right _ AB
   rw[Nat.succ_mul] at DU
   apply List.ext_getElem?
   intro t
   by_cases ht:t<e.size
   ·have zrK:i*e.size+t<cs.size:=by omega
    rw[List.getElem?_take_of_lt ht,List.getElem?_drop,Array.getElem?_toList]
    simp only[Sort.putCells,Array.getElem?_mapIdx]
    rw[Array.getElem?_eq_getElem zrK]
    simp only[Option.map_some,Nat.zero_le,Nat.zero_add,true_and,Nat.sub_zero,id]
    rw[if_pos (by rw[Go.Sort.size_flatK];simp only[List.size_toArray];rw[zp];omega),Go.Sort.get_flatK _ _ _ _ (by simp only[List.size_toArray];rw[zp];omega)]
    have q1:(i*e.size+t) / e.size=i:=by
     rw[Nat.mul_comm,Nat.mul_add_div cq,Nat.div_eq_of_lt ht];rfl
    have q2:(i*e.size+t) % e.size=t:=by
     rw[Nat.mul_comm,Nat.mul_add_mod];exact Nat.mod_eq_of_lt ht
    rw[q1,q2,getElem!_pos D'.toArray i (by simp only[List.size_toArray];rw[zp];exact AB)]
    have:enc (D'.toArray[i]'(by simp only[List.size_toArray];rw[zp];exact AB))=pE e ys[i]:=by rw[hyi];simp[enc]
    rw[this,getElem!_pos _ _ (by rw[dh];exact ht),<-List.getElem?_eq_getElem (by rw[dh];exact ht)]
   ·rw[List.getElem?_eq_none (by simp;omega),List.getElem?_eq_none (by omega)]
 ·have:=(gp m L1 VJ).2
  exact this
 ·have zn:∀ m j,cV ⟨W',E.mu,E.ok⟩ m j->cV E m j:=fun m j h=>h
  refine⟨fun m m' j h1 h2=>ma m m' j h1 h2,fun m j h1=>?_,fun j hj=>?_,fun j hj=>hj,fun j hlt VK=>?_,?_,fun j hj=>.inr hj,?_,?_,?_,fun m L1 VJ hm=>?_⟩
  ·have:=dS m j h1
   refine⟨.inl ⟨m,h1⟩,?_,this.2⟩
   show j<W'.heap.size
   omega
  ·refine⟨?_,.inl hj⟩
   have:=cR j hj
   show j<W'.heap.size
   omega
  ·rw[xn] at hlt ⊢
   exact VI j (fun KU=>VK (.inl ⟨0,_,hL,rfl,by rw[KU]⟩)) hlt
  ·rw[xn];show _<=W'.heap.size;omega
  ·rw[sA.1,hw]
  ·rw[sA.2.1,hw]
  ·rw[sA.2.2,hw]
  ·exact⟨L1,(gp m L1 VJ).1,rfl,rfl,rfl⟩
end Go.Tr
namespace Go.Proofs
open Go.Shelf Go.RowKit Go.Lib Go.Sort
variable {P:Program} {ρ:Ren}
set_option linter.unusedVariables false
theorem zdv(b:Nat):∀ (vs:List Value) (o:Nat) (w:World) (q:Addr),(w.cell? q).isSome=true->((w.setCells b o vs).cell? q).isSome=true
 | [],_,_,_,h=>h
 | v::r,o,w,q,h=>by
  rw[World.setCells]
  refine zdv b r _ _ q ?_
  by_cases hq:q=⟨b,o,none⟩
  ·subst hq
   rw[World.cell?_setCell_same' w _ v h];rfl
  ·rw[World.cell?_setCell_other w _ _ v (Ne.symm hq)];exact h
theorem zrL(w:World)(t e ty:TypeId)(z:Value)(ht:P.underlying t=some (.slice e))(hv:∀ w,(zeroValue e).run P w=.ok z w)(b o n c:Nat)(hn:0<n)(zs:List Value)(iu:(Builtin.zeroCells z.cells n).toList=zs)(h1:∀ v∈zs,v.oneCell'=true)
  (hc:∀ j,j<zs.length->(w.cell? ⟨b,o+j,none⟩).isSome=true) (hf:∀ j,j<zs.length->w.frozen? ⟨b,o+j,none⟩=false):
  (Builtin.clear_ #[t] ty #[.slice (some ⟨b,o,none⟩) n c]).run P w=.ok (.tuple #[]) (w.setCells b o zs):=by
 have hst:=run_storeCells_cells (P:=P) b o zs 0 w (by simpa using hc) (by simpa using hf) h1
 simp only[Nat.add_zero] at hst
 obtain⟨m,rfl⟩:∃ m,n=m+1:=⟨n-1,by omega⟩
 simp[Builtin.clear_,run_underlying ht,hv,iu,hst]
set_option maxHeartbeats 4000000 in
set_option maxRecDepth 1000000 in
theorem zrM(L:SlLaysE0.n45 P ρ)(i0:TypeInfo)(yl:P.info? (ρ.t 23)=some i0)(size:Nat)(kf:i0.size=size)(cq:0<size)(z:Value)(v23:∀ w,(zeroValue (ρ.t 23)).run P w=.ok z w)(z23:∀ w,(Go.sizeOf (ρ.t 23)).run P w=.ok size w)
  (j4 cap n i j:Nat) (w:World) (nM:i<j) (hj:j<=n) (hn:n<=cap) (hm:n<=9223372036854775807) (news zs:List Value) (hl:news.length=(n-j)*size) (Ei:∀ t u,news[t]? =some u->w.cell? ⟨j4,j*size+t,none⟩=some u) (h1:∀ u∈news,u.oneCell'=true)
  (fA:∀ t,t<n*size->(w.cell? ⟨j4,t,none⟩).isSome=true/\w.frozen? ⟨j4,t,none⟩=false) (iu:(Builtin.zeroCells z.cells (j-i)).toList=zs) (tK:zs.length=(j-i)*size) (zrN:∀ v∈zs,v.oneCell'=true):
  Calls P (ρ.f 45) #[.slice (some ⟨j4,0,none⟩) n cap,.int .i64 i,.int .i64 j] w fun e w'=>e=.returned (.slice (some ⟨j4,0,none⟩) (n-(j-i)) cap)/\w'=(w.drew.setCells j4 (i*size) news).setCells j4 ((i+(n-j))*size) zs:=by
 have mixed:=L.mixed;have t0:=L.t0;have a0:=L.a0;have z0:=L.z0;have v0:=L.v0;have t3:=L.t3;have a3:=L.a3;have z3:=L.z3;have v3:=L.v3;have t4:=L.t4;have a4:=L.a4;have z4:=L.z4;have v4:=L.v4;have t22:=L.t22;have a22:=L.a22;have z22:=L.z22;have v22:=L.v22
 obtain⟨A,hA,jJ⟩:∃ A:Addr,(if cap=j then some (⟨j4,0,none⟩:Addr) else some ⟨j4,j*size,none⟩)=some A/\Hid (∀ t u,news[t]? =some u->w.drew.cell? (A.add t)=some u):=by
  by_cases h:cap=j
  ·refine⟨⟨j4,0,none⟩,by simp[h],fun t u hu=>?_⟩
   have h0:news.length=0:=by
                   rw[hl];have:n-j=0:=by omega
                   rw[this,Nat.zero_mul]
   rw[List.length_eq_zero_iff.1 h0] at hu
   simp at hu
  ·exact⟨⟨j4,j*size,none⟩,by simp[h],fun t u hu=>by rw[Addr.add_lit];exact Ei t u hu⟩
 have hle:(i+(n-j))*size<=n*size:=Nat.mul_le_mul_right _ (by omega)
 have VL:(i+(n-j))*size=i*size+(n-j)*size:=Nat.add_mul ..
 have zdt:(i+(n-j))*size+(j-i)*size=n*size:=by rw[<-Nat.add_mul];congr 1;omega
 have s1:Hid (news.length=(n-j)*size):=hl
 have s2:Hid (∀ u∈news,u.oneCell'=true):=h1
 have s3:Hid (∀ t,t<news.length->(w.drew.cell? ⟨j4,0+i*size+t,none⟩).isSome=true/\w.drew.frozen? ⟨j4,0+i*size+t,none⟩=false):=by
  intro t ht
  rw[hl] at ht
  exact fA _ (by omega)
 obtain⟨W1,hW1⟩:∃ W1,W1=w.drew.setCells j4 (0+i*size) news:=⟨_,rfl⟩
 have gq:∀ t,t<n*size->(W1.cell? ⟨j4,t,none⟩).isSome=true/\W1.frozen? ⟨j4,t,none⟩=false:=by
  intro t ht
  rw[hW1]
  exact⟨zdv j4 news _ _ _ (fA t ht).1,(World.frozen?_setCells j4 news _ _ _).trans (fA t ht).2⟩
 have dh:∀ ty,(Builtin.clear_ #[ρ.t 22] ty #[.slice (some ⟨j4,i*size+(n-j)*size,none⟩) (n-(i+(n-j))) (cap-(i+(n-j)))]).run P W1=.ok (.tuple #[]) (W1.setCells j4 (i*size+(n-j)*size) zs):=
  fun ty=>zrL W1 _ _ ty z t22 v23 j4 _ _ _ (by omega) zs (by rw[show n-(i+(n-j))=j-i by omega];exact iu) zrN (fun t ht=>(gq _ (by omega)).1) (fun t ht=>(gq _ (by omega)).2)
 have hW:Hid (W1=w.drew.setCells j4 (0+i*size) news):=hW1
 have hic:i<=cap:=by omega
 have D3:j<=cap:=by omega
 clear fA Ei gq hW1
 obtain⟨_,_,FG⟩:=L.f45
 go_enter FG,SlBodyN.n45_ntmps ρ
 go_wp2_with fail
 go_region_law_o (refine step_append_room rfl (.tmp 22) (.tmp 25) (ρ.t 22) rfl (ρ.t 23) i0 size t22 yl kf j4 0 i cap (by simp[Act.eval,Act.put]) A (n-j) (cap-j) news (by simp[Act.eval,Act.put]) s1.out jJ.out s2.out (by omega) s3.out ?_;rw[<-hW.out])
 go_wp2
 go_ret
 refine⟨by rw[show n-(j-i)=i+(n-j) by omega];rfl,?_⟩
 rw[hW.out,Nat.zero_add,VL]
end Go.Proofs
namespace Go.Tr
open Go Go.RowKit Go.Shelf
set_option linter.unusedVariables false
set_option linter.unusedSimpArgs false
theorem VM(b:Nat):∀ (vs:List Value) (o:Nat) (w:World) (cs:Array Value) (T:TypeId) (fr:Nat×Nat),w.heap[b]? =some (.cells cs T fr)->o+vs.length<=cs.size->
  ∃ dQ,(w.setCells b o vs).heap[b]? =some (.cells dQ T fr)/\dQ.size=cs.size/\∀ k,dQ[k]? =if o<=k/\k<o+vs.length then vs[k-o]? else cs[k]?
 | [],o,w,cs,T,fr,h,_=>⟨cs,h,rfl,fun k=>by rw[if_neg (by simp)]⟩
 | v::r,o,w,cs,T,fr,h,hl=>by
  have hb:b<w.heap.size:=(Array.getElem?_eq_some_iff.1 h).1
  have h1:(w.setCell ⟨b,o,none⟩ v).heap[b]? =some (.cells (cs.setIfInBounds o v) T fr):=by
   simp only[World.setCell,Array.getElem?_modify]
   simp[h]
  obtain⟨dQ,k1,k2,k3⟩:=VM b r (o+1) _ _ T fr h1 (by simp at hl ⊢;omega)
  refine⟨dQ,k1,by simpa using k2,fun k=>?_⟩
  rw[k3 k]
  simp only[List.length_cons] at hl ⊢
  by_cases hk:k=o
  ·subst hk
   rw[if_neg (by omega),if_pos (by omega),Nat.sub_self]
   have hk3:k<cs.size:=by omega
   simp[Array.getElem?_setIfInBounds,hk3]
  ·by_cases hk2:o+1<=k/\k<o+1+r.length
   ·rw[if_pos hk2,if_pos (by omega)]
    obtain⟨m,hm⟩:∃ m,k-o=m+1:=⟨k-o-1,by omega⟩
    rw[hm,show k-(o+1)=m by omega]
    simp
   ·rw[if_neg hk2,if_neg (by omega)]
    simp[Array.getElem?_setIfInBounds,Ne.symm hk]
theorem VN(b:Nat):∀ (vs:List Value) (o:Nat) (w:World),(w.setCells b o vs).heap.size=w.heap.size/\(∀ j,j≠b->(w.setCells b o vs).heap[j]? =w.heap[j]?)/\(w.setCells b o vs).os=w.os/\(w.setCells b o vs).tape=w.tape/\(w.setCells b o vs).output=w.output
 | [],o,w=>⟨rfl,fun _ _=>rfl,rfl,rfl,rfl⟩
 | v::r,o,w=>by
  obtain⟨h1,h2,h3,h4,h5⟩:=VN b r (o+1) (w.setCell ⟨b,o,none⟩ v)
  refine⟨h1.trans (by simp[World.setCell]),fun j hj=>(h2 j hj).trans ?_,h3,h4,h5⟩
  simp only[World.setCell,Array.getElem?_modify]
  rw[if_neg (Ne.symm hj)]
@[reducible] def OT(e:Sh):FD:=⟨[(0,.leaf (.own 0 e)),(1,.leaf (.int .i64)),(2,.leaf (.int .i64))],[(0,.rows e)],[(0,.leaf (.own 16 e))],[(16,.rows e)]⟩
theorem VO{P:Program}[Tabs P]{ρ:Ren}{F:FuncId}{e:Sh}(hc:callable P F)(L:Go.Proofs.SlLaysE0.n45 P ρ)(hF:ρ.f 45=F)
  (hi:(P.info? (ρ.t 23)).map (fun i=>i.size)=some e.size) (cq:0<e.size) {z:Value} (hz:z.cells.size=e.size) (kf:z.cells.toList.all Value.oneCell'=true)
  (v23:∀ w,(zeroValue (ρ.t 23)).run P w=.ok z w) (z23:∀ w,(Go.sizeOf (ρ.t 23)).run P w=.ok e.size w):FnX P F (OT e) (fun x=>EG x.2.2.1 x.1 x.2.1):=by
 cases hh:P.info? (ρ.t 23) with
 | none=>rw[hh] at hi;simp at hi
 | some i0=>
 rw[hh] at hi
 simp only[Option.map_some,Option.some.injEq] at hi
 refine⟨hc,fun x y js W0 E vs hw hG ma dS cR gp kg eZ=>?_⟩
 obtain⟨i,j,xs,⟨⟩⟩:=x
 obtain⟨⟨yl,nM,hj,hn⟩,hy⟩:=AY js
 obtain rfl:=Option.some.inj hy
 obtain⟨i,rfl⟩:=Int.eq_ofNat_of_zero_le yl
 obtain⟨j,rfl⟩:=Int.eq_ofNat_of_zero_le (Int.le_trans yl (Int.le_of_lt nM))
 replace nM:i<j:=by simpa using nM
 replace hj:j<=List.length xs:=by
  have:((j:Nat):Int)<=((List.length xs:Nat):Int):=hj
  omega
 replace hn:List.length xs<=9223372036854775807:=hn
 obtain⟨L0,hL,hlen,hr⟩:eO E 0 (.rows e xs):=kg 0 _ (List.mem_cons_self ..)
 replace eZ:aR E [.own 0 e,.int .i64 i,.int .i64 j] vs:=eZ
 simp only[aR,VR] at eZ
 obtain⟨v,r,rfl,⟨_,hv⟩,v',r',rfl,rfl,Zu,r'',rfl,rfl,rfl⟩:=eZ
 have hv:=hv L0 hL
 rcases hr with⟨_,h0,_⟩ | ⟨b,cs,T,fr,hb,KR,gq,Cf,hcap,KS,fx⟩
 ·exact absurd h0 (by omega)
 obtain⟨base,cap,own,len⟩:=L0
 simp only at hb KR Cf hcap hlen hv
 subst hb;subst KR;subst hlen;subst hv
 subst hF
 have hblk:b<E.w.heap.size:=(Array.getElem?_eq_some_iff.1 gq).1
 have hle:List.length xs*e.size<=cap*e.size:=Nat.mul_le_mul_right _ hcap
 have hrw:∀ k (h:k<xs.length),∃ c,c.length=e.size/\Row E.w b (0+k*e.size) c/\aN E.w E.ok e (xs[k]'h) c:=by
  intro k hk
  have h1:=fx k hk
  refine⟨_,(aN.one _ _ _ h1).1,fun t ht=>?_,h1⟩
  have hkl:(k+1)*e.size<=xs.length*e.size:=Nat.mul_le_mul_right _ hk
  rw[Nat.succ_mul] at hkl
  have MW:=ht
  rw[(aN.one _ _ _ h1).1] at MW
  show (match E.w.heap[b]? with
   | some (.cells c _ _)=>c[0+k*e.size+t]?
   | _=>none)=_
  rw[gq]
  simp only[Nat.zero_add]
  rw[<-List.getElem?_eq_getElem ht,List.getElem?_take_of_lt MW,List.getElem?_drop,Array.getElem?_toList]
 have zrQ:∀ k (h:k<(xs.drop j).length),∃ c,c.length=e.size/\Row E.w b (j*e.size+k*e.size) c/\aN E.w E.ok e ((xs.drop j)[k]'h) c:=by
  intro k hk
  have fB:j+k<xs.length:=by simp at hk;omega
  obtain⟨c,c1,c2,c3⟩:=hrw (j+k) fB
  refine⟨c,c1,?_,?_⟩
  ·rw[Nat.zero_add,Nat.add_mul] at c2;exact c2
  ·rw[List.getElem_drop];exact c3
 obtain⟨news,n1,n2,n3,n4⟩:=aN.cells (xs.drop j) zrQ
 have OU:(xs.drop j).length=xs.length-j:=by simp
 have fA:∀ t,t<List.length xs*e.size->(E.w.cell? ⟨b,t,none⟩).isSome=true/\E.w.frozen? ⟨b,t,none⟩=false:=by
  intro t ht
  have htc:t<cs.size:=by omega
  constructor
  ·show (match E.w.heap[b]? with
    | some (.cells c _ _)=>c[t]?
    | _=>none).isSome=true
   rw[gq]
   simp[htc]
  ·show (match E.w.heap[b]? with
    | some (.cells _ _ (lo,hi))=>decide (lo<=t)&&decide (t<hi)
    | _=>false)=false
   rw[gq]
   have:=KS t htc
   obtain⟨f1,f2⟩:=fr
   rw[<-Bool.not_eq_true,Bool.and_eq_true,decide_eq_true_eq,decide_eq_true_eq]
   exact this
 obtain⟨zs,iu⟩:∃ zs,(Builtin.zeroCells z.cells (j-i)).toList=zs:=⟨_,rfl⟩
 have tK:zs.length=(j-i)*e.size:=by rw[<-iu,Array.length_toList,size_zeroCells,hz]
 have hzc:∀ v∈zs,v.oneCell'=true:=by
  intro v hv
  rw[<-iu] at hv
  simp only[Builtin.zeroCells,Array.toList_map,List.mem_map] at hv
  obtain⟨k,_,rfl⟩:=hv
  have:k % z.cells.size<z.cells.size:=Nat.mod_lt _ (by omega)
  rw[getElem!_pos z.cells _ this]
  exact List.all_eq_true.1 kf _ (by simp)
 have OS:=Go.Proofs.zrM L i0 hh e.size hi cq z v23 z23 b cap (List.length xs) i j E.w nM hj hcap hn news zs (by rw[n1,OU]) n3 n2 fA iu tK hzc
 refine Calls.mono OS fun en w' hq=>?_
 obtain⟨rfl,rfl⟩:=hq
 have wA:E.w.drew.heap[b]? =some (.cells cs T fr):=gq
 have yq:(i+(xs.length-j))*e.size+(j-i)*e.size=xs.length*e.size:=by rw[<-Nat.add_mul];congr 1;omega
 have VL:(i+(xs.length-j))*e.size=i*e.size+(xs.length-j)*e.size:=Nat.add_mul ..
 obtain⟨c1,a1,a2,a3⟩:=VM b news (i*e.size) E.w.drew cs T fr wA (by rw[n1,OU];omega)
 obtain⟨c2,b1,b2,b3⟩:=VM b zs ((i+(xs.length-j))*e.size) _ c1 T fr a1 (by rw[tK];omega)
 obtain⟨p1,p2,p3,p4,p5⟩:=VN b news (i*e.size) E.w.drew
 obtain⟨q1,q2,q3,q4,q5⟩:=VN b zs ((i+(xs.length-j))*e.size) (E.w.drew.setCells b (i*e.size) news)
 generalize hW:(E.w.drew.setCells b (i*e.size) news).setCells b ((i+(xs.length-j))*e.size) zs=W' at b1 q1 q2 q3 q4 q5 ⊢
 have s1:W'.heap.size=E.w.heap.size:=by rw[q1,p1];rfl
 have s2:∀ k,k≠b->W'.heap[k]? =E.w.heap[k]? :=fun k hk=>by rw[q2 k hk,p2 k hk];rfl
 have s3:W'.os=E.w.os:=by rw[q3,p3];rfl
 have s4:W'.tape=E.w.tape:=by rw[q4,p4];rfl
 have s5:W'.output=E.w.output:=by rw[q5,p5];rfl
 clear q1 q2 q3 q4 q5 p1 p2 p3 p4 p5 hW a1
 have xn:W0.heap=E.w.heap:=by rw[hw]
 have zrT:∀ k,E.ok k->k≠b:=fun k hk VS=>(dS 0 b ⟨_,hL,rfl,rfl⟩).2 (VS▸hk)
 let ys:List e.T:=xs.take i++xs.drop j
 have wJ:ys.length=xs.length-(j-i):=by simp[ys];omega
 refine⟨_,⟨W',fun n=>if n=16 then some ⟨some ⟨b,0,none⟩,cap,true,ys.length⟩ else none,E.ok⟩,rfl,rfl,?_,fun n o ho=>?_,fun n L hL=>?_,?_⟩
 ·show VR _ (.own 16 e) _
  simp only[VR,eL,true_and,if_true,Option.some.injEq]
  intro L hL
  subst hL
  simp only[wJ]
 ·have:n=16/\o=.rows e ys:=by
   have vk:(n,some o)∈[((16:Nat),some (AO.rows e ys))]:=ho
   simpa using vk
  obtain⟨rfl,rfl⟩:=this
  refine⟨⟨some ⟨b,0,none⟩,cap,true,List.length ys⟩,rfl,rfl,.inr ⟨b,c2,T,fr,rfl,rfl,b1,by rw[b2,a2];exact Cf,by show ys.length<=cap;omega,by rw[b2,a2];exact KS,fun k hk=>?_⟩⟩
  refine aN.mono (fun k fB=>s2 k (zrT k fB)) (fun b hb=>hb) _ _ _ ?_
  have hkl:(k+1)*e.size<=ys.length*e.size:=Nat.mul_le_mul_right _ hk
  have zdx:ys.length=i+(xs.length-j):=by rw[wJ];omega
  rw[Nat.succ_mul,zdx,VL] at hkl
  by_cases HV:k<i
  ·have e1:ys[k]=xs[k]:=by simp only[ys];rw[List.getElem_append_left (by simp;omega)];simp
   rw[e1]
   have DU:(k+1)*e.size<=i*e.size:=Nat.mul_le_mul_right _ HV
   rw[Nat.succ_mul] at DU
   have:(c2.toList.drop (k*e.size)).take e.size=(cs.toList.drop (k*e.size)).take e.size:=by
    apply List.ext_getElem?
    intro t
    by_cases ht:t<e.size
    ·rw[List.getElem?_take_of_lt ht,List.getElem?_take_of_lt ht,List.getElem?_drop,List.getElem?_drop,Array.getElem?_toList,Array.getElem?_toList,b3,if_neg (by omega),a3,if_neg (by omega)]
    ·rw[List.getElem?_eq_none (by simp;omega),List.getElem?_eq_none (by simp;omega)]
   rw[this]
   exact fx k (by omega)
  ·have hkx:k-i<(xs.drop j).length:=by rw[OU];rw[zdx] at hk;omega
   have e1:ys[k]=(xs.drop j)[k-i]:=by
    simp only[ys]
    rw[List.getElem_append_right (by simp;omega)]
    congr 1
    simp
    omega
   rw[e1]
   have DU:i*e.size<=k*e.size:=Nat.mul_le_mul_right _ (by omega)
   have nY:(k-i)*e.size=k*e.size-i*e.size:=Nat.sub_mul ..
   have:(c2.toList.drop (k*e.size)).take e.size=(news.drop ((k-i)*e.size)).take e.size:=by
    apply List.ext_getElem?
    intro t
    by_cases ht:t<e.size
    ·rw[List.getElem?_take_of_lt ht,List.getElem?_take_of_lt ht,List.getElem?_drop,List.getElem?_drop,Array.getElem?_toList,b3,if_neg (by omega),a3,if_pos (by rw[n1,OU];omega)]
     congr 1
     omega
    ·rw[List.getElem?_eq_none (by simp;omega),List.getElem?_eq_none (by simp;omega)]
   rw[this]
   exact n4 (k-i) hkx
 ·by_cases hn:n=16
  ·subst hn;rfl
  ·simp[hn] at hL
 ·have zn:∀ n k,cV ⟨W',fun n=>if n=16 then some (⟨some ⟨b,0,none⟩,cap,true,ys.length⟩:Loc) else none,E.ok⟩ n k->n=16/\k=b:=by
   rintro n k ⟨L,k1,k2,k3⟩
   by_cases hn:n=16
   ·subst hn
    simp only[if_true,Option.some.injEq] at k1
    subst k1
    simp only[Option.some.injEq,Addr.mk.injEq,and_true] at k3
    exact⟨rfl,k3.symm⟩
   ·simp[hn] at k1
  refine⟨fun n m k h1 h2=>(zn n k h1).1.trans (zn m k h2).1.symm,fun n k h1=>?_,fun k hk=>?_,fun k hk=>hk,fun k hlt VK=>?_,?_,fun k hk=>.inr hk,?_,?_,?_,fun n L hL hn=>?_⟩
  ·obtain⟨_,rfl⟩:=zn n k h1
   refine⟨.inl ⟨0,_,hL,rfl,rfl⟩,by show k<W'.heap.size;omega,(dS 0 k ⟨_,hL,rfl,rfl⟩).2⟩
  ·exact⟨by have:=cR k hk;show k<W'.heap.size;omega,.inl hk⟩
  ·rw[xn] at hlt ⊢
   exact s2 k (fun VS=>VK (.inl ⟨0,_,hL,rfl,by rw[VS]⟩))
  ·rw[xn];show _<=W'.heap.size;omega
  ·exact s3.trans (by rw[hw])
  ·exact s4.trans (by rw[hw])
  ·exact s5.trans (by rw[hw])
  ·have:n≠16:=by omega
   simp[this] at hL
end Go.Tr
