/- A call by a contract is right, wherever it is made. Loops by shapes of states. Rules for the words of which the printed functions are made: as equations, and as what must hold of a result. Numbers: what shifts and bits come to. Short names for the types of records, and for their zero values, as printed texts have them. What some functions of Go's library come to, of closed data, as optional values. Conditions: none but those that each theorem states. -/
import Derived.Test.YtploofmfghjijaaGreatBD
import Derived.Test.YtploofmfghjijaaGreatBA
import Derived.Lib.ItoaNum
import Derived.Lib.Join
import Derived.Lib.IndexMore
import Derived.Lib.SplitLaws
namespace Go.Tr
open Go
set_option linter.unusedVariables false
set_option linter.unusedSimpArgs false
theorem Ex:∀ {ks:List Nat} {nm i n:Nat},aQ (qW ks nm) i=some n->nm<=n/\n<nm+ks.length/\i∈ks
 | [],nm,i,n,h=>by simp[qW,aQ] at h
 | k::ks,nm,i,n,h=>by
  simp only[qW,aQ] at h
  split at h
  ·rename_i hb
   simp only[Option.some.injEq] at h
   subst h
   exact⟨Nat.le_refl _,by simp,by simp[beq_true hb]⟩
  ·obtain⟨h1,h2,h3⟩:=Ex h
   exact⟨by omega,by simp only[List.length_cons];omega,by simp[h3]⟩
theorem zaV:∀ {ks:List Nat} {nm i j n:Nat},aQ (qW ks nm) i=some n->aQ (qW ks nm) j=some n->i=j
 | [],nm,i,j,n,h,_=>by simp[qW,aQ] at h
 | k::ks,nm,i,j,n,h,g=>by
  simp only[qW,aQ] at h g
  split at h<;>split at g
  ·rename_i _ h1 _ h2
   rw[beq_true h1,beq_true h2]
  ·simp only[Option.some.injEq] at h
   have:=(Ex g).1
   omega
  ·simp only[Option.some.injEq] at g
   have:=(Ex h).1
   omega
  ·exact zaV h g
theorem zaW:∀ {ks:List Nat} {nm i:Nat},i∈ks->∃ n,aQ (qW ks nm) i=some n
 | [],nm,i,h=>by simp at h
 | k::ks,nm,i,h=>by
  simp only[qW,aQ]
  split
  ·exact⟨nm,rfl⟩
  ·rename_i hb
   rcases List.mem_cons.1 h with h | h
   ·subst h;rw[eV] at hb;simp at hb
   ·exact zaW h
theorem SF{rn:List (Nat×Nat)}:∀ {l:List (Nat×OD)} {i:Nat},i∈qV rn l->aQ rn i=none
 | [],i,h=>by simp[qV] at h
 | (j,d)::l,i,h=>by
  simp only[qV] at h
  split at h
  ·exact SF h
  ·rename_i hn
   rcases List.mem_cons.1 h with h | h
   ·subst h;exact hn
   ·exact SF h
theorem zaX{rn:List (Nat×Nat)}:∀ {l:List (Nat×OD)} {i:Nat},cX l i=true->aQ rn i=none->i∈qV rn l
 | [],i,h,_=>by simp[cX] at h
 | (j,d)::l,i,h,hn=>by
  simp only[cX] at h
  simp only[qV]
  split at h
  ·rename_i hb
   have:=beq_true hb
   subst this
   simp[hn]
  ·have:=zaX h hn
   split
   ·exact this
   ·exact List.mem_cons_of_mem _ this
theorem Iq{p:List (Nat×OD)}:∀ {rn:List (Nat×Nat)},Il p rn=true->∀ {i n:Nat},aQ rn i=some n->cX p i=true
 | [],_,i,n,h=>by simp[aQ] at h
 | (j,m)::r,h,i,n,hi=>by
  simp only[Il,Bool.and_eq_true] at h
  simp only[aQ] at hi
  split at hi
  ·rename_i hb;rw[beq_true hb];exact h.1
  ·exact Iq h.2 hi
theorem zaY:∀ {l:List (Nat×OD)} {N i:Nat},Bj N l=true->cX l i=true->i<N
 | [],N,i,_,h=>by simp[cX] at h
 | (j,d)::l,N,i,ho,hi=>by
  simp only[Bj,Bool.and_eq_true] at ho
  simp only[cX] at hi
  split at hi
  ·rename_i hb;rw[beq_true hb];exact Nat.le_of_ble_eq_true ho.1.1
  ·exact zaY ho.2 hi
theorem Ir{rn:List (Nat×Nat)}{cM:List (Nat×OD)}:∀ {l:List (Nat×OD)} {n:Nat} {r:Option AO},(n,r)∈qX rn cM l->r=none/\∃ i,cX cM i=false/\aQ rn i=some n
 | [],n,r,h=>by simp[qX] at h
 | (i,d)::l,n,r,h=>by
  simp only[qX] at h
  split at h
  ·exact Ir h
  ·rename_i hd
   split at h
   ·rename_i m hm
    rcases List.mem_cons.1 h with h | h
    ·simp only[Prod.mk.injEq] at h
     obtain⟨rfl,rfl⟩:=h
     exact⟨rfl,i,hd,hm⟩
    ·exact Ir h
   ·exact Ir h
theorem SG{rn:List (Nat×Nat)}{cM:List (Nat×OD)}:∀ {l:List (Nat×OD)} {i n:Nat},cX l i=true->cX cM i=false->aQ rn i=some n->(n,none)∈qX rn cM l
 | [],i,n,h,_,_=>by simp[cX] at h
 | (j,d)::l,i,n,h,hr,hn=>by
  simp only[cX] at h
  simp only[qX]
  split at h
  ·rename_i hb
   have:=beq_true hb
   subst this
   simp only[hr,hn]
   exact List.mem_cons_self
  ·have:=SG h hr hn
   split
   ·exact this
   ·split
    ·exact List.mem_cons_of_mem _ this
    ·exact this
theorem SH{rn:List (Nat×Nat)}{ob:Nat->Option AO}:∀ {l:List Nat} {n:Nat} {r:Option AO},(n,r)∈qg rn ob l->qe n rn=false/\dG n l=true/\((∃ e xs,ob n=some (.rows e xs)/\r=some (.gR e xs))\/∃ m,ob n=some (.cells m)/\r=some (.hM m))
 | [],n,r,h=>by simp[qg] at h
 | k::l,n,r,h=>by
  simp only[qg] at h
  have up:(n,r)∈qg rn ob l->qe n rn=false/\dG n (k::l)=true/\((∃ e xs,ob n=some (.rows e xs)/\r=some (.gR e xs))\/∃ m,ob n=some (.cells m)/\r=some (.hM m)):=by
   intro h
   obtain⟨h1,h2,h3⟩:=SH h
   exact⟨h1,by simp only[dG];split<;>first | rfl | exact h2,h3⟩
  split at h
  ·exact up h
  ·rename_i hk
   split at h
   ·rename_i e xs b8
    rcases List.mem_cons.1 h with h | h
    ·simp only[Prod.mk.injEq] at h
     obtain⟨rfl,rfl⟩:=h
     exact⟨hk,by simp[dG,eV],.inl ⟨e,xs,b8,rfl⟩⟩
    ·exact up h
   ·rename_i m b8
    rcases List.mem_cons.1 h with h | h
    ·simp only[Prod.mk.injEq] at h
     obtain⟨rfl,rfl⟩:=h
     exact⟨hk,by simp[dG,eV],.inr ⟨m,b8,rfl⟩⟩
    ·exact up h
   ·exact up h
theorem zaZ{rn:List (Nat×Nat)}{ob:Nat->Option AO}{n:Nat}(hk:qe n rn=false)(ho:(∃ e xs,ob n=some (.rows e xs))\/∃ m,ob n=some (.cells m)):∀ {l:List Nat},dG n l=true->∃ r,(n,r)∈qg rn ob l
 | [],h=>by simp[dG] at h
 | k::l,h=>by
  simp only[dG] at h
  simp only[qg]
  split at h
  ·rename_i hb
   have:=beq_true hb
   subst this
   simp only[hk]
   rcases ho with⟨e,xs,ho⟩ | ⟨m,ho⟩
   ·simp only[ho];exact⟨_,List.mem_cons_self⟩
   ·simp only[ho];exact⟨_,List.mem_cons_self⟩
  ·obtain⟨r,hr⟩:=zaZ hk ho h
   split
   ·exact⟨r,hr⟩
   ·split
    ·exact⟨r,List.mem_cons_of_mem _ hr⟩
    ·exact⟨r,List.mem_cons_of_mem _ hr⟩
    ·exact⟨r,hr⟩
theorem SI{α:Type}{l:List (Nat×α)}{n:Nat}{x:α}(h:(n,x)∈l):∃ y,aQ l n=some y:=by
 induction l with
 | nil=>simp at h
 | cons p r ih=>
  obtain⟨m,z⟩:=p
  simp only[aQ]
  split
  ·exact⟨z,rfl⟩
  ·rename_i hb
   rcases List.mem_cons.1 h with h | h
   ·simp only[Prod.mk.injEq] at h
    obtain⟨rfl,rfl⟩:=h
    rw[eV] at hb;simp at hb
   ·exact ih h
theorem za0{f:Nat->Nat}:∀ {l:cx} {i:Nat} {o:Option AO},(i,o)∈l->∃ r,(f i,r)∈tY f l
 | [],i,o,h=>by simp at h
 | (j,p)::l,i,o,h=>by
  simp only[tY]
  rcases List.mem_cons.1 h with h | h
  ·simp only[Prod.mk.injEq] at h
   obtain⟨rfl,rfl⟩:=h
   exact⟨_,List.mem_cons_self⟩
  ·obtain⟨r,hr⟩:=za0 (f:=f) h
   exact⟨r,List.mem_cons_of_mem _ hr⟩
open Classical in
noncomputable def Ey(E E2:Env)(nr rn:List (Nat×Nat))(mb:Nat->Prop):Env:=
 ⟨E2.w,fun n=>if h:∃ i,aQ nr i=some n then E2.mu h.choose else if h:∃ i,aQ rn i=some n then E2.mu h.choose else if mb n then (E.mu n).map (fun L=>{ L with own:=false }) else E.mu n,
  fun b=>E.ok b\/(E2.ok b/\¬ ∃ n,cV E n b/\¬ (∃ i,aQ rn i=some n)/\¬ mb n)⟩
theorem SJ{P:Program}[Tabs P]{e:bf}(he:e.OK P){args:List AV}{ob:Nat->Option AO}{nm:Nat}{R:wS}{full:Bool}(h:yJ std full e args ob nm=some R)(hv:R.val.isSome=true):
  D8 P e.F args ob nm (R.res (R.val.getD R.ft)) (R.lA (R.val.getD R.ft)):=by
 refine⟨he.fn.1,fun W0 okIn B us E vs hT dJ jF wK kg vr eZ hn=>?_⟩
 have cO:¬ us nm:=wK nm (Nat.le_refl _) (by omega)
 have hst:=he.st
 simp only[bf.st,Bool.and_eq_true,Bool.or_eq_true] at hst
 obtain⟨nB,hrf⟩:=hst
 simp only[FD.wf,Bool.and_eq_true] at nB
 obtain⟨⟨⟨⟨⟨⟨⟨⟨w1,w2⟩,w3⟩,w4⟩,w5⟩,w6⟩,w7⟩,w8⟩,w9⟩:=nB
 unfold yJ at h
 split at h
 ·simp at h
 rename_i hlen
 rw[wW] at h
 generalize tS (jf full args ob) e.D.fk (yG (nth args) e.D.par [])=rn at h
 rw[wW] at h
 generalize It:qW (qV rn e.D.cM) nm=nr at h
 split at h
 case h_2=>simp at h
 rename_i ma NN zpn
 split at h
 case h_2=>simp at h
 rename_i q x DW
 simp only[Option.some.injEq] at h
 subst h
 simp only at hv ⊢
 obtain⟨y,hy⟩:=Option.isSome_iff_exists.1 hv
 obtain⟨hq,NO⟩:=mO hy
 simp only[hy,Option.getD_some]
 have zpo:args.length=e.D.par.length:=by have:=beq_true hlen;rwa [lS,lS] at this
 
 have tN:qK E us (jf full args ob):=⟨fun n o ho=>kg n o (zaK ho)⟩
 generalize hfz:Bp e.fz (jf full args ob) args=fz at DW
 obtain⟨q0,y0,g1,g2,g3,g4⟩:=Nz (fz:=fz) (dom:=cX e.D.fk) tN (val:=fun t=>vs.getD t undef) (fun t v ht=>by
  rw[su] at ht
  obtain⟨u,h1,h2⟩:=eZ.get ht
  simp only[List.getD_eq_getElem?_getD,h1,Option.getD_some]
  exact h2) DW hq
 obtain⟨q1,y1,k1,k2,k3,k4,-,k6⟩:=NA (fz:=fz) (dom:=cX e.D.fk) tN g1 g2 (fun _ h=>h)
 have kpo:∀ {i n:Nat},aQ rn i=some n->us n/\∃ o,ob n=some o:=by
  intro i n hi
  obtain⟨o,ho⟩:=k6 i (Iq NN hi) n hi
  exact⟨(tN.obj n o ho).2.2,o,zaK ho⟩
 have zGe:(qV rn e.D.cM).length<=16:=by have:=Nat.le_of_ble_eq_true zpn;rwa [lS] at this
 have Ez:∀ {i n:Nat},aQ nr i=some n->¬ us n:=fun hi=>by
  rw[<-It] at hi
  obtain⟨a1,a2,_⟩:=Ex hi
  exact wK _ a1 (by omega)
 have nin:∀ {i n:Nat},aQ nr i=some n->eC us nm n:=fun hi=>by
  rw[<-It] at hi
  obtain⟨a1,a2,_⟩:=Ex hi
  exact .inr ⟨a1,by omega⟩
 have zpq:∀ {i j n:Nat},aQ nr i=some n->aQ nr j=some n->i=j:=fun hi hj=>by
  rw[<-It] at hi hj
  exact zaV hi hj
 have NP:∀ {i n m:Nat},aQ rn i=some n->aQ nr i=some m->False:=fun hi hm=>by
  rw[<-It] at hm
  rw[SF (Ex hm).2.2] at hi
  simp at hi
 have za3:∀ {i:Nat},cX e.D.cM i=true->(∃ n,aQ nr i=some n)\/∃ n,aQ rn i=some n:=fun {i} hi=>by
  cases hh:aQ rn i with
  | some n=>exact .inr ⟨n,rfl⟩
  | none=>rw[<-It];exact .inl (zaW (zaX hi hh))
 have kne:∀ {i n:Nat},aQ rn i=some n->¬ ∃ j,aQ nr j=some n:=fun hi ⟨j,hj⟩=>Ez hj (kpo hi).1
 have Iu:∀ {i n:Nat},aQ rn i=some n->i<16:=fun hi=>zaY w4 (Iq NN hi)
 have AG:∀ {i n:Nat},aQ nr i=some n->E.mu n=none:=by
  intro i n hi
  cases hh:E.mu n with
  | none=>rfl
  | some L=>
   obtain⟨o,ho⟩:=vr n L hh
   exact absurd (kg n o ho).2.2 (Ez hi)
 
 have yL:∀ {n b:Nat},cV (fK E fz rn (cX e.D.fk)) n b->∃ m,aQ rn n=some m/\cV E m b:=fun h=>NB h
 have HP:=he.fn.2 x y NO ⟨E.w,(fK E fz rn (cX e.D.fk)).mu⟩ (fK E fz rn (cX e.D.fk)) vs rfl
  (by
   refine Tabs.mono _ _ _ _ (fun b hb=>⟨⟨Nat.lt_of_lt_of_le hb.1 dJ.sz,fun n hn=>?_⟩,dJ.fr b hb.1 hb.2⟩) hT
   obtain⟨n',a1,a2⟩:=yL hn
   exact hb.2 (dJ.own n' b a2).1)
  (fun n m b h1 h2=>by
   obtain⟨n',a1,a2⟩:=yL h1
   obtain⟨m',b1,b2⟩:=yL h2
   have:=dJ.inj n' m' b a2 b2
   subst this
   exact Sy ma a1 b1)
  (fun n b h1=>by
   obtain⟨n',a1,a2⟩:=yL h1
   obtain⟨c1,c2,c3⟩:=dJ.own n' b a2
   refine⟨c2,?_⟩
   rintro (hk | ⟨m,hm,hk,_⟩)
   ·exact c3 hk
   ·rw[dJ.inj m n' b hm a2,Es a1] at hk;simp at hk)
  (fun b hb=>by
   rcases hb with hb | ⟨n,hn,_,_⟩
   ·exact (dJ.iR b hb).1
   ·exact (dJ.own n b hn).2.1)
  (fun n L hL=>⟨hL,by
   simp only[fK] at hL
   split at hL
   ·assumption
   ·simp at hL⟩)
  (by rw[g3];exact k4)
  (aR.NF (by rw[Bm,eZ.length,zpo]) fun i v hi=>by
   have hlt:i<vs.length:=by
    rcases Nat.lt_or_ge i (gW e.D.par x).length with hh | hh
    ·rw[Bm] at hh;rw[eZ.length];omega
    ·rw[List.getElem?_eq_none hh] at hi;simp at hi
   refine⟨vs[i],by simp[hlt],?_⟩
   simp only[gW,List.getElem?_map,Option.map_eq_some_iff] at hi
   obtain⟨⟨t,v'⟩,hm,rfl⟩:=hi
   have n9:=List.mem_of_getElem? hm
   have fI:=g4 _ n9
   have Ih:∀ {l:List (Nat×VD)} {R:Type} {x:oe l R} {j i:Nat} {p:Nat×AV},wX j l=true->(eQ l x).1[i]? =some p->p.1=j+i:=by
    intro l
    induction l with
    | nil=>intro R x j i p _ hp;simp[eQ] at hp
    | cons a l ih=>
     obtain⟨k,d⟩:=a
     intro R x j i p hk hp
     simp only[wX,Bool.and_eq_true] at hk
     simp only[eQ] at hp
     cases i with
     | zero=>simp only[List.getElem?_cons_zero,Option.some.injEq] at hp;subst hp;exact beq_true hk.1
     | succ i=>simp only[List.getElem?_cons_succ] at hp;have:=ih hk.2 hp;omega
   have HH:t=i:=by simpa using Ih w1 hm
   subst HH
   simpa [hlt] using fI)
 refine Calls.mono HP fun en w' oZ=>?_
 obtain⟨z,E2,rfl,rfl,hz,zps,za4,og⟩:=oZ
 obtain⟨mb,Iv⟩:∃ mb:Nat->Prop,mb=fun n=>e.fz=true/\qe n rn=false/\dG n (argNames args)=true/\((∃ e' xs,jf full args ob n=some (.rows e' xs))\/∃ m,jf full args ob n=some (.cells m)):=⟨_,rfl⟩
 have stf:∀ {n:Nat},mb n->¬ ∃ i,aQ rn i=some n:=by
  rintro n hf ⟨i,hi⟩
  rw[Iv] at hf
  rw[Es hi] at hf;simp at hf
 have usf:∀ {n:Nat},mb n->us n:=by
  intro n hf
  rw[Iv] at hf
  rcases hf.2.2.2 with⟨e',xs,ho⟩ | ⟨m,ho⟩
  ·exact (tN.obj n _ ho).2.2
  ·exact (tN.obj n _ ho).2.2
 
 let E':=Ey E E2 nr rn mb
 have SK:∀ {i n:Nat},aQ nr i=some n->E'.mu n=E2.mu i:=by
  intro i n hi
  have hex:∃ i,aQ nr i=some n:=⟨i,hi⟩
  simp only[E',Ey]
  rw[dif_pos hex,zpq hex.choose_spec hi]
 have EA:∀ {i n:Nat},aQ rn i=some n->E'.mu n=E2.mu i:=by
  intro i n hi
  have hex:∃ i,aQ rn i=some n:=⟨i,hi⟩
  simp only[E',Ey]
  rw[dif_neg (kne hi),dif_pos hex,Sy ma hex.choose_spec hi]
 have Iw:∀ {n:Nat},(¬ ∃ i,aQ nr i=some n)->(¬ ∃ i,aQ rn i=some n)->mb n->E'.mu n=(E.mu n).map (fun L=>{ L with own:=false }):=by
  intro n h1 h2 h3
  simp only[E',Ey]
  rw[dif_neg h1,dif_neg h2,if_pos h3]
 have Ix:∀ {n:Nat},(¬ ∃ i,aQ nr i=some n)->(¬ ∃ i,aQ rn i=some n)->¬ mb n->E'.mu n=E.mu n:=by
  intro n h1 h2 h3
  simp only[E',Ey]
  rw[dif_neg h1,dif_neg h2,if_neg h3]
 have Bc:∀ {i b:Nat},cV E2 i b->((∃ j n,aQ rn j=some n/\cV E n b)\/E.w.heap.size<=b)/\b<E2.w.heap.size/\¬ E2.ok b:=by
  intro i b hi
  obtain⟨c1,c2,c3⟩:=og.own i b hi
  refine⟨?_,c2,c3⟩
  rcases c1 with⟨j,hj⟩ | c1
  ·obtain⟨n,a1,a2⟩:=yL hj
   exact .inl ⟨j,n,a1,a2⟩
  ·exact .inr c1
 have NQ:∀ {b:Nat},b<E.w.heap.size->(∀ n,cV E n b->¬ ∃ i,aQ rn i=some n)->E2.w.heap[b]? =E.w.heap[b]? :=by
  intro b hb fV
  refine og.fr b hb ?_
  rintro (⟨j,hj⟩ | hB)
  ·obtain⟨n,a1,a2⟩:=yL hj
   exact fV n a2 ⟨j,a1⟩
  ·exact absurd hB (Nat.not_le.2 hb)
 have cq:E.w.heap.size<=E2.w.heap.size:=og.sz
 have eqw:E'.w=E2.w:=rfl
 have SL:∀ {n b:Nat},cV E' n b->(∃ i,aQ nr i=some n/\cV E2 i b)\/(∃ i,aQ rn i=some n/\cV E2 i b)\/((¬ ∃ i,aQ nr i=some n)/\(¬ ∃ i,aQ rn i=some n)/\¬ mb n/\cV E n b):=by
  rintro n b ⟨L,h1,h2,h3⟩
  by_cases jd:∃ i,aQ nr i=some n
  ·obtain⟨i,hi⟩:=jd
   rw[SK hi] at h1
   exact .inl ⟨i,hi,L,h1,h2,h3⟩
  ·by_cases ia:∃ i,aQ rn i=some n
   ·obtain⟨i,hi⟩:=ia
    rw[EA hi] at h1
    exact .inr (.inl ⟨i,hi,L,h1,h2,h3⟩)
   ·by_cases nF:mb n
    ·rw[Iw jd ia nF] at h1
     simp only[Option.map_eq_some_iff] at h1
     obtain⟨L',_,rfl⟩:=h1
     simp at h2
    ·rw[Ix jd ia nF] at h1
     exact .inr (.inr ⟨jd,ia,nF,L,h1,h2,h3⟩)
 have EB:∀ {n b:Nat},(¬ ∃ i,aQ rn i=some n)->cV E n b->¬ ((∃ j n,aQ rn j=some n/\cV E n b)\/E.w.heap.size<=b):=by
  intro n b hk hn hh
  rcases hh with⟨j,m,hm,SM⟩ | hh
  ·rw[dJ.inj m n b SM hn] at hm
   exact hk ⟨j,hm⟩
  ·exact absurd hh (Nat.not_le.2 (dJ.own n b hn).2.1)
 have za5:∀ {i b:Nat},cV E2 i b->¬ E'.ok b/\B b/\b<E'.w.heap.size:=by
  intro i b hi
  obtain⟨c1,c2,c3⟩:=Bc hi
  refine⟨?_,?_,c2⟩
  ·rintro (hk | ⟨hk,_⟩)
   ·rcases c1 with⟨j,n,a1,a2⟩ | c1
    ·exact (dJ.own n b a2).2.2 hk
    ·exact absurd c1 (Nat.not_le.2 (dJ.iR b hk).1)
   ·exact c3 hk
  ·rcases c1 with⟨j,n,a1,a2⟩ | c1
   ·exact (dJ.own n b a2).1
   ·exact dJ.new b (Nat.le_trans dJ.sz c1)
 have zpu:jm W0 okIn B E':=by
  refine⟨?_,?_,?_,fun b hb=>.inl (dJ.sr b hb),?_,Nat.le_trans dJ.sz cq,dJ.new,og.os.trans dJ.os,og.tape.trans dJ.tape,og.output.trans dJ.output,?_⟩
  ·intro n m b h1 h2
   rcases SL h1 with⟨i,a1,a2⟩ | ⟨i,a1,a2⟩ | ⟨a1,a2,a3,a4⟩<;>rcases SL h2 with⟨j,b1,b2⟩ | ⟨j,b1,b2⟩ | ⟨b1,b2,b3,b4⟩
   ·have:=og.inj _ _ b a2 b2
    subst this
    rw[a1] at b1;exact Option.some.inj b1
   ·have:=og.inj _ _ b a2 b2
    subst this
    exact (NP b1 a1).elim
   ·exact absurd (Bc a2).1 (EB b2 b4)
   ·have:=og.inj _ _ b a2 b2
    subst this
    exact (NP a1 b1).elim
   ·have:=og.inj _ _ b a2 b2
    subst this
    rw[a1] at b1;exact Option.some.inj b1
   ·exact absurd (Bc a2).1 (EB b2 b4)
   ·exact absurd (Bc b2).1 (EB a2 a4)
   ·exact absurd (Bc b2).1 (EB a2 a4)
   ·exact dJ.inj n m b a4 b4
  ·intro n b h1
   rcases SL h1 with⟨i,a1,a2⟩ | ⟨i,a1,a2⟩ | ⟨a1,a2,a3,a4⟩
   ·have:=za5 a2;exact⟨this.2.1,this.2.2,this.1⟩
   ·have:=za5 a2;exact⟨this.2.1,this.2.2,this.1⟩
   ·obtain⟨c1,c2,c3⟩:=dJ.own n b a4
    refine⟨c1,Nat.lt_of_lt_of_le c2 cq,?_⟩
    rintro (hk | ⟨_,hk⟩)
    ·exact c3 hk
    ·exact hk ⟨n,a4,a2,a3⟩
  ·rintro b (hb | ⟨hb,_⟩)
   ·have:=dJ.iR b hb
    exact⟨Nat.lt_of_lt_of_le this.1 cq,this.2⟩
   ·obtain⟨c1,c2⟩:=og.iR b hb
    refine⟨c1,?_⟩
    rcases c2 with (c2 | ⟨n,c2,_,_⟩) | ⟨j,c2⟩ | c2
    ·exact (dJ.iR b c2).2
    ·exact .inr (dJ.own n b c2).1
    ·obtain⟨n,a1,a2⟩:=yL c2
     exact .inr (dJ.own n b a2).1
    ·exact .inr (dJ.new b (Nat.le_trans dJ.sz c2))
  ·intro b hb hB
   show E2.w.heap[b]? =_
   rw[NQ (Nat.lt_of_lt_of_le hb dJ.sz) fun n hn=>absurd (dJ.own n b hn).1 hB]
   exact dJ.fr b hb hB
  ·intro n L hL NR
   have jd:¬ ∃ i,aQ nr i=some n:=fun ⟨i,hi⟩=>Ez hi (jF n NR)
   by_cases ia:∃ i,aQ rn i=some n
   ·obtain⟨i,hi⟩:=ia
    rw[EA hi] at hL
    obtain⟨L0,c1,c2,c3,c4⟩:=og.li i L hL (Iu hi)
    simp only[fK] at c1
    split at c1
    ·rw[hi] at c1
     obtain⟨L1,d1,d2,d3,d4⟩:=dJ.li n L0 c1 NR
     exact⟨L1,d1,d2.trans c2,d3.trans c3,d4.trans c4⟩
    ·simp at c1
   ·by_cases nF:mb n
    ·rw[Iw jd ia nF] at hL
     simp only[Option.map_eq_some_iff] at hL
     obtain⟨L',c1,rfl⟩:=hL
     exact dJ.li n L' c1 NR
    ·rw[Ix jd ia nF] at hL
     exact dJ.li n L hL NR
 
 have zpv:e.fz=true->∀ b,E2.ok b->E'.ok b:=by
  intro hf b hb
  refine .inr ⟨hb,?_⟩
  rintro ⟨n,hn,hk,hnf⟩
  rcases (og.iR b hb).2 with (c | ⟨m,c,ck,cz⟩) | ⟨j,c⟩ | c
  ·exact (dJ.own n b hn).2.2 c
  ·have:=dJ.inj m n b c hn
   subst this
   rw[<-hfz,hf] at cz
   simp only[Bp,Be,Im,Bool.and_eq_true] at cz
   obtain⟨cz,cm⟩:=cz
   apply hnf
   rw[Iv]
   refine⟨hf,ck,cz,?_⟩
   obtain⟨L,l1,l2,l3⟩:=c
   obtain⟨o,ho⟩:=vr m L l1
   have Iz:jf full args ob m=some o:=by rw[zpg (zaQ cz)];exact ho
   have hO:=(kg m o ho).1
   cases o with
   | rows e' xs=>exact .inl ⟨e',xs,Iz⟩
   | cells l=>exact .inr ⟨l,Iz⟩
   | gR e' xs=>
    obtain⟨L',p1,_,p2,_⟩:=hO
    rw[l1] at p1;cases p1
    rw[l2] at p2;simp at p2
   | hM l=>
    obtain⟨b',cs,T,fr,p1,_⟩:=hO
    rw[l1] at p1;cases p1
    simp at l2
   | mp k e xs=>rw[Iz] at cm;simp[NI] at cm
  ·exact absurd (.inl (by obtain⟨n',a1,a2⟩:=yL c;exact⟨j,n',a1,a2⟩)) (EB hk hn)
  ·exact absurd (.inr c) (EB hk hn)
 have SO:∀ {i n:Nat},aQ nr i=some n->lD nr rn nm i=n:=fun hi=>by unfold lD;simp only[hi]
 have NS:∀ {i n:Nat},aQ rn i=some n->lD nr rn nm i=n:=fun {i n} hi=>by
  unfold lD
  cases hh:aQ nr i with
  | some m=>exact (NP hi hh).elim
  | none=>simp only[hi]
 have mv:yK E2 E' (lD nr rn nm) e.D.cM (e.fz=true):=by
  refine⟨rfl,fun i hi=>?_,zpv⟩
  rcases za3 hi with⟨n,hn⟩ | ⟨n,hn⟩
  ·rw[SO hn];exact SK hn
  ·rw[NS hn];exact EA hn
 have SP:∀ j,cX e.D.cM j=true->eC us nm (lD nr rn nm j):=by
  intro j hj
  rcases za3 hj with⟨n,hn⟩ | ⟨n,hn⟩
  ·rw[SO hn];exact nin hn
  ·rw[NS hn];exact .inl (kpo hn).1
 have zpx:Ii e.D.res=true\/e.fz=true:=hrf.symm.imp_left And.left
 have zpy:Ij e.D.cM=true\/e.fz=true:=hrf.symm.imp_left And.right
 have za7:=zaU mv (l:=e.D.cM) (fun _ h=>h) w8 zpy zps
 refine⟨E',z,rfl,rfl,?_,?_,?_⟩
 ·generalize hu:bQ (tY (lD nr rn nm) (fS e.D.cM (eQ e.D.res y).2).1) (bQ (qX rn e.D.cM e.D.fk) (match e.fz with
      | true=>qg rn (jf full args ob) (argNames args)
      | false=>[]))=u
  have n9:∀ {n:Nat} {r:Option AO},(n,r)∈u->(n,r)∈tY (lD nr rn nm) (fS e.D.cM (eQ e.D.res y).2).1\/(n,r)∈qX rn e.D.cM e.D.fk\/(e.fz=true/\(n,r)∈qg rn (jf full args ob) (argNames args)):=by
   intro n r hm
   rw[<-hu,iC,iC] at hm
   rcases List.mem_append.1 hm with hm | hm
   ·exact .inl hm
   ·rcases List.mem_append.1 hm with hm | hm
    ·exact .inr (.inl hm)
    ·refine .inr (.inr ?_)
     split at hm
     ·rename_i hf;exact⟨hf,hm⟩
     ·simp at hm
  have zpz:∀ {n:Nat} {r:Option AO},(n,r)∈tY (lD nr rn nm) (fS e.D.cM (eQ e.D.res y).2).1->∃ r',aQ u n=some r':=by
   intro n r hm;rw[<-hu,iC];exact SI (List.mem_append_left _ hm)
  have za8:∀ {n:Nat} {r:Option AO},(n,r)∈qX rn e.D.cM e.D.fk->∃ r',aQ u n=some r':=by
   intro n r hm;rw[<-hu,iC,iC];exact SI (List.mem_append_right _ (List.mem_append_left _ hm))
  have zpA:∀ {n:Nat},mb n->∃ r',aQ u n=some r':=by
   intro n hf
   have lT:=hf
   rw[Iv] at lT
   obtain⟨r,hr⟩:=zaZ lT.2.1 lT.2.2.2 lT.2.2.1
   rw[<-hu,iC,iC,lT.1]
   exact SI (List.mem_append_right _ (List.mem_append_right _ hr))
  have SQ:∀ {i:Nat},cX e.D.cM i=true->∃ r',aQ u (lD nr rn nm i)=some r':=by
   intro i hi
   have Ih:∀ {l:List (Nat×OD)} {x:qf l Unit},cX l i=true->∃ o,(i,o)∈(fS l x).1:=by
    intro l
    induction l with
    | nil=>intro x h;simp[cX] at h
    | cons a l ih=>
     obtain⟨j,d⟩:=a
     intro x h
     simp only[cX] at h
     simp only[fS]
     split at h
     ·rename_i hb;rw[beq_true hb];exact⟨_,List.mem_cons_self⟩
     ·obtain⟨o,ho⟩:=ih (x:=(d.enc x).2) h
      exact⟨o,List.mem_cons_of_mem _ ho⟩
   obtain⟨o,ho⟩:=Ih (x:=(eQ e.D.res y).2) hi
   obtain⟨r,hr⟩:=za0 (f:=lD nr rn nm) ho
   exact zpz hr
  have RL:∀ {n:Nat},aQ u n=none->E'.mu n=E.mu n:=by
   intro n ua
   by_cases jd:∃ i,aQ nr i=some n
   ·obtain⟨i,hi⟩:=jd
    rw[SK hi,AG hi]
    cases h2:E2.mu i with
    | none=>rfl
    | some L=>
     obtain⟨r,hr⟩:=SQ (za4 i L h2)
     rw[SO hi,ua] at hr;simp at hr
   ·by_cases ia:∃ i,aQ rn i=some n
    ·obtain⟨i,hi⟩:=ia
     have ub:=Iu hi
     cases hd:cX e.D.cM i with
     | true=>
      obtain⟨r,hr⟩:=SQ hd
      rw[NS hi,ua] at hr;simp at hr
     | false=>
      obtain⟨r,hr⟩:=za8 (SG (Iq NN hi) hd hi)
      rw[ua] at hr;simp at hr
    ·by_cases nF:mb n
     ·obtain⟨r,hr⟩:=zpA nF
      rw[ua] at hr;simp at hr
     ·exact Ix jd ia nF
  refine⟨fun n h=>.inl h,fun n h=>RL h,?_,?_,?_,?_,fun b hb=>Or.inl hb,zpu⟩
  ·intro n AS L' c9
   have jd:¬ ∃ i,aQ nr i=some n:=fun ⟨i,hi⟩=>Ez hi AS
   by_cases ia:∃ i,aQ rn i=some n
   ·obtain⟨i,hi⟩:=ia
    rw[EA hi] at c9
    obtain⟨L0,c1,c2,c3,c4⟩:=og.li i L' c9 (Iu hi)
    simp only[fK] at c1
    split at c1
    ·rw[hi] at c1
     exact⟨L0,c1,c2,c3,c4⟩
    ·simp at c1
   ·by_cases nF:mb n
    ·rw[Iw jd ia nF] at c9
     simp only[Option.map_eq_some_iff] at c9
     obtain⟨L,c1,rfl⟩:=c9
     exact⟨L,c1,rfl,rfl,rfl⟩
    ·rw[Ix jd ia nF] at c9
     exact⟨L',c9,rfl,rfl,rfl⟩
  ·intro n ua
   rcases n9 (Et ua) with hm | hm | ⟨hf,hm⟩
   ·obtain⟨i,o,_,_,hr,_⟩:=za7 n none hm
    simp at hr
   ·obtain⟨_,i,hd,hi⟩:=Ir hm
    rw[EA hi]
    cases h2:E2.mu i with
    | none=>rfl
    | some L=>rw[za4 i L h2] at hd;simp at hd
   ·obtain⟨_,_,hr⟩:=SH hm
    rcases hr with⟨_,_,_,hr⟩ | ⟨_,_,hr⟩<;>simp at hr
  ·intro n o ua
   rcases n9 (Et ua) with hm | hm | ⟨hf,hm⟩
   ·obtain⟨i,o',hi,rfl,hr,hO,zpB⟩:=za7 n (some o) hm
    simp only[Option.some.injEq] at hr
    subst hr
    exact⟨hO,zpB _ SP,SP i hi⟩
   ·obtain⟨hr,_⟩:=Ir hm
    simp at hr
   ·obtain⟨hk,hmm,hr⟩:=SH hm
    have hnk:¬ ∃ i,aQ rn i=some n:=by
     rintro ⟨i,hi⟩
     rw[Es hi] at hk;simp at hk
    have SR:mb n:=by
     rw[Iv]
     refine⟨hf,hk,hmm,?_⟩
     rcases hr with⟨e',xs,h1,_⟩ | ⟨m,h1,_⟩
     ·exact .inl ⟨e',xs,h1⟩
     ·exact .inr ⟨m,h1⟩
    have jd:¬ ∃ i,aQ nr i=some n:=fun ⟨i,hi⟩=>Ez hi (usf SR)
    have gp:=Iw jd hnk SR
    have hblk:∀ {b:Nat},cV E n b->E'.ok b/\E2.w.heap[b]? =E.w.heap[b]? :=by
     intro b hb
     refine⟨.inr ⟨og.sr b (.inr ⟨n,hb,hk,by
      rw[<-hfz,hf]
      simp only[Bp,Be,Im,hmm,Bool.true_and]
      rcases hr with⟨e',xs,h1,_⟩ | ⟨m,h1,_⟩<;>simp[NI,h1]⟩),?_⟩,NQ (dJ.own n b hb).2.1 fun m hm=>?_⟩
     ·rintro ⟨m,hm,_,hmf⟩
      rw[dJ.inj m n b hm hb] at hmf
      exact hmf SR
     ·rw[dJ.inj m n b hm hb];exact hnk
    have hww:∀ b,E.ok b->E2.w.heap[b]? =E.w.heap[b]? :=fun b hb=>NQ (dJ.iR b hb).1 fun m hm=>absurd hb (dJ.own m b hm).2.2
    rcases hr with⟨e',xs,h1,hr⟩ | ⟨m,h1,hr⟩
    ·simp only[Option.some.injEq] at hr
     subst hr
     obtain⟨hO,_,SS⟩:=tN.obj n _ h1
     refine⟨?_,by simp[AO.nm],.inl SS⟩
     obtain⟨L,c1,c2,c3⟩:=hO
     refine⟨{ L with own:=false },by rw[gp,c1];rfl,c2,rfl,?_,?_⟩
     ·rcases c3 with c3 | ⟨b,cs,T,fr,d1,_⟩
      ·exact .inl c3.1
      ·exact .inr ⟨b,d1⟩
     ·simp only[aN]
      rcases c3 with⟨d1,d2,d3⟩ | ⟨b,cs,T,fr,d1,d2,d3,d4,d5,d6,d7⟩
      ·exact⟨L.base,L.cap,rfl,by omega,.inl d2⟩
      ·have hb:=hblk (b:=b) ⟨L,c1,d2,d1⟩
       refine⟨L.base,L.cap,rfl,d5,.inr ⟨b,0,d1,hb.1,fun i hi=>⟨_,aN.length e' _ _ (d7 i hi),?_,aN.mono hww (fun b hb=>Or.inl hb) _ _ _ (d7 i hi)⟩⟩⟩
       exact (((pZ d3).drop (i*e'.size)).take e'.size).mono hb.2
    ·simp only[Option.some.injEq] at hr
     subst hr
     obtain⟨hO,yk,SS⟩:=tN.obj n _ h1
     refine⟨?_,AO.nX (fun _ h=>.inl h) _ yk,.inl SS⟩
     obtain⟨b,cs,T,fr,c1,c2,c3,c4⟩:=hO
     have hb:=hblk (b:=b) ⟨_,c1,rfl,rfl⟩
     refine⟨b,cs,T,fr,by rw[gp,c1];rfl,hb.1,hb.2.trans c2,?_⟩
     refine aR.mono (us:=us) (E:=E) (E':=Ey E E2 nr rn mb) ⟨hww,fun b hb=>Or.inl hb,fun k fB L' c9=>?_⟩ _ _ yk c4
     have hk1:¬ ∃ i,aQ nr i=some k:=fun ⟨i,hi⟩=>Ez hi fB
     by_cases ia:∃ i,aQ rn i=some k
     ·obtain⟨i,hi⟩:=ia
      rw[EA hi] at c9
      obtain⟨L0,c1,c2,c3,c4⟩:=og.li i L' c9 (Iu hi)
      simp only[fK] at c1
      split at c1
      ·rw[hi] at c1
       exact⟨L0,c1,c2,c3,c4⟩
      ·simp at c1
     ·by_cases nF:mb k
      ·rw[Iw hk1 ia nF] at c9
       simp only[Option.map_eq_some_iff] at c9
       obtain⟨L,c1,rfl⟩:=c9
       exact⟨L,c1,rfl,rfl,rfl⟩
      ·rw[Ix hk1 ia nF] at c9
       exact⟨L',c9,rfl,rfl,rfl⟩
  ·intro b hb fV
   refine NQ hb fun n hn=>?_
   rintro ⟨i,hi⟩
   have ua:=fV n hn
   cases hd:cX e.D.cM i with
   | true=>
    obtain⟨r,hr⟩:=SQ hd
    have ub:=Iu hi
    rw[NS hi,ua] at hr;simp at hr
   | false=>
    obtain⟨r,hr⟩:=za8 (SG (Iq NN hi) hd hi)
    rw[ua] at hr;simp at hr
 ·refine zaE (l:=gW e.D.res y) (by rw[SC,List.length_map]) hz fun vs hv=>zaT mv w7 zpx hv
 ·have qa:∀ (d:LD) (y:d.T),Ib e.D.cM d=true->(lC (lD nr rn nm) (d.enc y)).nm (eC us nm):=by
   intro d y hd
   cases d<;>simp only[LD.enc,lC,AV.nm]<;>first | trivial | exact SP _ hd
  have Ip:∀ {R:Type} (ds:List LD) (y:sH ds R),tU e.D.cM ds=true->AV.cI (eC us nm) (mapA (lC (lD nr rn nm)) (j0 ds y).1):=by
   intro R ds
   induction ds with
   | nil=>intro y _;simp[j0,mapA,AV.cI]
   | cons d ds ih=>
    intro y Bq
    simp only[tU,Bool.and_eq_true] at Bq
    simp only[j0,mapA,AV.cI]
    exact⟨qa d _ Bq.1,ih _ Bq.2⟩
  have hvd:∀ {R:Type} (d:VD) (y:d.To R),d.gK e.D.cM=true->(ph (lD nr rn nm) (d.enc y).1).nm (eC us nm):=by
   intro R d y hd
   cases d with
   | leaf d=>have:=qa d (H6 d y) hd;cases d<;>exact this
   | cP s=>simp only[VD.enc,ph,AV.nm,SE];exact qM _ _ _
   | agg l=>simp only[VD.enc,ph,AV.nm];exact Ip l y hd
   | fn F a b=>
    simp only[VD.gK,Bool.and_eq_true] at hd
    simp only[VD.enc,ph,AV.nm]
    exact⟨Ip a y hd.1,Ip b _ hd.2⟩
   | arr s=>simp[VD.enc,ph,lC,AV.nm]
  have htm:∀ {R:Type} (l:List (Nat×VD)) (y:oe l R),Bk e.D.cM l=true->AV.cI (eC us nm) (mapA (ph (lD nr rn nm)) (gW l y)):=by
   intro R l
   induction l with
   | nil=>intro y _;simp[gW,eQ,mapA,AV.cI]
   | cons a l ih=>
    obtain⟨t,d⟩:=a
    intro y hl
    simp only[Bk,Bool.and_eq_true] at hl
    have e1:gW ((t,d)::l) y=(d.enc y).1::gW l (d.enc y).2:=rfl
    rw[e1]
    simp only[mapA,AV.cI]
    exact⟨hvd d y hl.1,ih _ hl.2⟩
  have fA:=htm e.D.res y w7
  generalize mapA (ph (lD nr rn nm)) (gW e.D.res y)=l at fA
  match l,fA with
  | [],_=>simp[vm,AV.nm,AV.cI]
  | [v],fA=>simp only[AV.cI] at fA;exact fA.1
  | v::v'::l,fA=>exact fA
theorem zbd{e:bf}{args:List AV}{ob:Nat->Option AO}{nm:Nat}{full:Bool}{p:NJ e.D}(h:vu full e.D e.fz args ob nm=some p):
  yJ std full e args ob nm=some ⟨e.D.Out,jZ std p.q (e.f p.x),e.ft,p.res,p.lA,fun _ _ y k=>k y,fun _ _ _=>rfl⟩:=by
 unfold vu at h
 unfold yJ
 cases hl:Nat.beq (iP args) (iP e.D.par) with
 | false=>simp[hl] at h
 | true=>
  simp only[hl] at h ⊢
  rw[wW,wW] at h ⊢
  split at h
  ·split at h
   ·rename_i q x hd
    simp only[Option.some.injEq] at h
    subst h
    first
     | rfl
     | (simp only[hd])
   ·simp at h
  ·simp at h
theorem zpE{par:List (Nat×VD)}{fk:List (Nat×OD)}{r1 r2:List (Nat×VD)}{o1 o2:List (Nat×OD)}{fz full:Bool}{args:List AV}{ob:Nat->Option AO}{nm:Nat}{p:NJ ⟨par,fk,r1,o1⟩}{p':NJ ⟨par,fk,r2,o2⟩}
  (h:vu full ⟨par,fk,r1,o1⟩ fz args ob nm=some p) (h':vu full ⟨par,fk,r2,o2⟩ fz args ob nm=some p'):p.q=p'.q/\p.x=p'.x:=by
 unfold vu at h h'
 split at h
 ·simp at h
 ·rename_i hl
  simp only[hl] at h'
  rw[wW,wW] at h h'
  split at h
  ·split at h'
   ·split at h
    ·rename_i q x hd
     simp only[hd] at h'
     simp only[Option.some.injEq] at h h'
     subst h
     subst h'
     exact⟨rfl,rfl⟩
    ·simp at h
   ·simp at h'
  ·simp at h
theorem zpF{P:Program}[Tabs P]{e:tZ}(he:e.OK P){args:List AV}{ob:Nat->Option AO}{nm:Nat}{R:wS}{full:Bool}(h:Ev std full e args ob nm=some R)(hv:R.val.isSome=true):
  D8 P e.F args ob nm (R.res (R.val.getD R.ft)) (R.lA (R.val.getD R.ft)):=by
 have hst:=he.st
 simp only[Bool.and_eq_true] at hst
 unfold Ev at h
 split at h
 ·simp at h
 rename_i p hp
 split at h
 ·simp at h
 rename_i p' hp'
 simp only[Option.some.injEq] at h
 subst h
 simp only at hv ⊢
 obtain⟨hqq,NT⟩:=zpE (r1:=e.D.zaA) (r2:=e.D.zaC) (o1:=e.D.zaB) (o2:=e.D.zaD) hp hp'
 obtain⟨y,hy⟩:=Option.isSome_iff_exists.1 hv
 obtain⟨hq,NO⟩:=mO hy
 simp only[hy,Option.getD_some]
 cases y with
 | inl a=>
  have h1:=zbd (e:=e.one) hp
  have hval:jZ std p.q (e.one.f p.x)=some a:=by
   rw[Bl _ _ hq]
   show Ie (e.f p.x)=some a
   rw[NO];rfl
  have:=SJ (e:=e.one) ⟨he.fn.1,hst.1⟩ h1 (by simp only;rw[hval];rfl)
  simp only[hval,Option.getD_some] at this
  exact this
 | inr b=>
  have h1:=zbd (e:=e.two) hp'
  have hval:jZ std p'.q (e.two.f p'.x)=some b:=by
   rw[Bl _ _ (by rw[<-hqq];exact hq)]
   show Ig (e.f p'.x)=some b
   rw[<-NT,NO];rfl
  have:=SJ (e:=e.two) ⟨he.fn.2,hst.2⟩ h1 (by simp only;rw[hval];rfl)
  simp only[hval,Option.getD_some] at this
  exact this
theorem zpH{P:Program}[Tabs P]{e:EntX}(he:e.OK P){args:List AV}{ob:Nat->Option AO}{nm:Nat}{R:wS}{full:Bool}(h:NK std full e args ob nm=some R)(hv:R.val.isSome=true):
  D8 P e.F args ob nm (R.res (R.val.getD R.ft)) (R.lA (R.val.getD R.ft)):=by
 cases e with
 | one e=>exact SJ he h hv
 | two e=>exact zpF he h hv
 | hand e=>
  have h':Ew std e args ob nm=some R:=h
  unfold Ew at h'
  split at h'
  ·simp at h'
  rename_i q v u hc
  simp only[Option.some.injEq] at h'
  subst h'
  simp only at hv ⊢
  obtain⟨y,hy⟩:=Option.isSome_iff_exists.1 hv
  exact vv.OK.ok he _ _ _ _ _ _ hc (mO hy).1
theorem zpI{P:Program}[Tabs P]{e:EntX}(he:e.OK P){args:List AV}{ob ob':Nat->Option AO}{nm:Nat}(h:∀ n,AV.dK n (lu ob args)=true->ob n=ob' n):NK std false e args ob nm=NK std false e args ob' nm:=by
 cases e with
 | one e=>exact zpi h
 | two e=>
  show Ev std false e args ob nm=Ev std false e args ob' nm
  unfold Ev
  rw[zaO h,zaO h]
 | hand e=>
  show Ew std e args ob nm=Ew std e args ob' nm
  unfold Ew
  rw[vv.OK.M1 he _ _ _ _ h]
theorem coL_ok{P:Program}[Tabs P]{es:List EntX}(hes:∀ e∈es,e.OK P):El P fun b=>sG (coL std es b):=by
 have key:∀ (full:Bool) (l:List EntX),(∀ e∈l,e.OK P)->∀ F args ob nm R,coL.go std full F args ob nm l=some R->R.val.isSome=true->D8 P F args ob nm (R.res (R.val.getD R.ft)) (R.lA (R.val.getD R.ft)):=by
  intro full l
  induction l with
  | nil=>intro _ F args ob nm R h;simp[coL.go] at h
  | cons e r ih=>
   intro hl F args ob nm R h hv
   simp only[coL.go] at h
   split at h
   ·rename_i hb
    split at h
    ·rename_i R' hR
     simp only[Option.some.injEq] at h
     subst h
     rw[beq_true hb]
     exact zpH (hl e (by simp)) hR hv
    ·exact ih (fun e he=>hl e (by simp[he])) F args ob nm R h hv
   ·exact ih (fun e he=>hl e (by simp[he])) F args ob nm R h hv
 have ok:∀ b,CtxOK1 P (sG (coL std es b)):=fun b=>⟨fun F args ob nm p r u h hp=>by
  unfold sG at h
  split at h
  ·simp at h
  ·rename_i R hR
   simp only[Option.some.injEq,Prod.mk.injEq] at h
   obtain⟨rfl,rfl,rfl⟩:=h
   exact key _ es hes F args ob nm R hR hp⟩
 refine⟨ok false,{ ok true with M1:=fun F args ob ob' nm h=>?_ }⟩
 have hc:∀ (l:List EntX),(∀ e∈l,e.OK P)->coL.go std false F args ob nm l=coL.go std false F args ob' nm l:=by
  intro l
  induction l with
  | nil=>intro _;rfl
  | cons e r ih=>
   intro hl
   simp only[coL.go]
   rw[zpI (hl e (by simp)) h,ih fun e he=>hl e (by simp[he])]
 unfold sG
 simp only[coL,Bool.not_true,hc es hes]
theorem FnX.ok{P:Program}[Tabs P]{F:FuncId}{D:FD}{f:D.In->Option D.Out}(h:FnX P F D f)(hp:D.fk=[])(hr:D.cM=[]){x:D.In}{y:D.Out}(hy:f x=some y):Z3 P F (gW D.par x) (vm (gW D.res y)):=by
 refine⟨h.1,fun w ok vs hG cR eZ=>?_⟩
 have fV:∀ (n b:Nat),¬ cV ⟨w,fun _=>none,ok⟩ n b:=by rintro n b ⟨L,h1,_⟩;simp at h1
 refine Calls.mono (h.2 x y hy ⟨w,fun _=>none⟩ ⟨w,fun _=>none,ok⟩ vs rfl (Tabs.mono _ _ _ _ (fun b hb=>⟨⟨hb,fun n=>fV n b⟩,rfl⟩) hG) (fun n m b h1 _=>absurd h1 (fV n b)) (fun n b h1=>absurd h1 (fV n b)) cR (fun n L hL=>by simp at hL) (fun n o ho=>?_) eZ) fun e w' hq=>?_
 ·have hpe:∀ (l:List (Nat×OD)) (z:qf l Unit),l=[]->(fS l z).1=[]:=by
   intro l z hl;subst hl;rfl
  rw[hpe _ _ hp] at ho
  simp at ho
 ·obtain⟨z,E',rfl,rfl,h1,h2,h3,h4⟩:=hq
  have gp:E'.mu=fun _=>none:=by
   funext n
   cases hh:E'.mu n with
   | none=>rfl
   | some L=>
    have:=h3 n L hh
    rw[hr] at this
    simp[cX] at this
  refine⟨z,E'.ok,rfl,⟨fun b hb=>h4.fr b hb ?_,h4.sz,h4.os,h4.tape,h4.output⟩,h4.sr,fun b hb=>?_,?_⟩
  ·rintro (⟨n,hn⟩ | hB)
   ·exact fV n b hn
   ·exact absurd hB (Nat.not_le.2 hb)
  ·obtain⟨c1,c2⟩:=h4.iR b hb
   refine⟨c1,?_⟩
   rcases c2 with c2 | ⟨n,c2⟩ | c2
   ·exact .inl c2
   ·exact absurd c2 (fV n b)
   ·exact .inr c2
  ·have:E'=⟨E'.w,fun _=>none,E'.ok⟩:=by rw[<-gp]
   rw[<-this];exact h1
def mkL(h:je)(exit:Nat)(p:je):lZ:=⟨h.T,h.dec,h.enc,exit,p.T,p.dec,p.enc⟩
theorem zpK{h p:je}{exit:Nat}(hw:(h.wf&&p.wf)=true):(mkL h exit p).OK:=by
 simp only[Bool.and_eq_true] at hw
 exact⟨fun g q s hd hq=>je.sound hw.1 hd hq,fun g q s hd hq=>je.sound hw.2 hd hq⟩
def loopsWf:List (Nat×je×Nat×je)->Bool
 | []=>true
 | (_,h,_,p)::r=>h.wf&&p.wf&&loopsWf r
def mkLs:List (Nat×je×Nat×je)->List (Nat×lZ)
 | []=>[]
 | (k,h,e,p)::r=>(k,mkL h e p)::mkLs r
theorem mkLs_ok:∀ {l:List (Nat×je×Nat×je)},loopsWf l=true->∀ n D,(n,D)∈mkLs l->D.OK
 | [],_,n,D,h=>by simp[mkLs] at h
 | (k,hd,e,p)::r,hw,n,D,h=>by
  simp only[loopsWf,Bool.and_eq_true] at hw
  simp only[mkLs] at h
  rcases List.mem_cons.1 h with h | h
  ·simp only[Prod.mk.injEq] at h
   obtain⟨rfl,rfl⟩:=h
   exact zpK (by simp only[Bool.and_eq_true];exact hw.1)
  ·exact mkLs_ok hw.2 n D h
def OKs(P:Program)[Tabs P]:List EntX->Prop
 | []=>True
 | e::r=>e.OK P/\OKs P r
theorem OKs.mem{P:Program}[Tabs P]:∀ {l:List EntX},OKs P l->∀ e∈l,e.OK P
 | [],_,e,h=>by simp at h
 | a::r,ho,e,h=>by
  rcases List.mem_cons.1 h with rfl | h
  ·exact ho.1
  ·exact OKs.mem ho.2 e h
set_option linter.unusedVariables false
universe u v
@[simp] theorem bz{X:Type}(x y:Option X):ay true x y=x:=rfl
@[simp] theorem bn{X:Type}(x y:Option X):ay false x y=y:=rfl
theorem oi{X:Type}(b:Bool)(x y:Option X):ay b x y=if b=true then x else y:=by cases b<;>rfl
@[simp] theorem zGi{X:Type}(x:Option X):aj True x=x:=aC trivial x
@[simp] theorem cc{X:Type}(p:Prop)(x:Option X):aj (p->p) x=x:=aC (fun h=>h) x
@[simp] theorem dI{X:Type}(b:Bool)(x:Option X):aj (b=false->(!b)=true) x=x:=aC (by cases b<;>simp) x
@[simp] theorem vw{X:Type}(a b:Bool)(x:Option X):aj (a=true->b=true->(a&&b)=true) x=x:=aC (by cases a<;>cases b<;>simp) x
theorem aW{α X:Type}(v:α)(f:α->Option X):ab v f=f v:=rfl
@[simp] theorem au{Y X:Type}(y:Y)(f:Y->Option X):ao (some y) f=f y:=rfl
@[simp] theorem gX{Y X:Type}(c:Bool)(y d:Y)(f:Y->Option X):bU c (some y) d f=f y:=by
 unfold bU;rw[aC (by simp)];rfl
@[simp] theorem wY{Y X:Type}(y:Option Y)(d:Y)(f:Y->Option X):bU false y d f=f (y.getD d):=by
 unfold bU;rw[aC (by simp)]
theorem fW{Y X:Type}(y:Option Y)(d:Y)(f:Y->Option X):bU true y d f=ao y f:=by
 cases y with
 | none=>unfold bU;rw[zoI (by simp)];rfl
 | some y=>simp
@[simp] theorem dV{A B X:Type}(a:A)(f:A->Option X)(h:B->Option X):cC (.inl a) f h=f a:=rfl
@[simp] theorem Br{A B X:Type}(b:B)(f:A->Option X)(h:B->Option X):cC (.inr b) f h=h b:=rfl
theorem iI{S Y:Type}{f:S->Option (S⊕Y)}{s s':S}(h:f s=some (.inl s')):ct f s=ct f s':=by
 rw[zad,h]
theorem dm{S Y:Type}{f:S->Option (S⊕Y)}{s:S}{y:Y}(h:f s=some (.inr y)):ct f s=some y:=by
 rw[zad,h]
theorem jL{S Y:Type}{f:S->Option (S⊕Y)}(St:Nat->S){a n:Nat}(han:a<=n)(h:∀ i,a<=i->i<n->f (St i)=some (.inl (St (i+1)))):ct f (St a)=ct f (St n):=by
 induction n with
 | zero=>rw[show a=0 from by omega]
 | succ n ih=>
  by_cases e:a=n+1
  ·rw[e]
  ·rw[ih (by omega) fun i h1 h2=>h i h1 (by omega),iI (h n (by omega) (by omega))]
theorem NU{S Y:Type}{f:S->Option (S⊕Y)}(St:Nat->S)(c:Nat->Bool)(e y:Y)(N:Nat)(h:∀ i,i<N->f (St i)=if c i=true then some (.inl (St (i+1))) else some (.inr e))(hN:f (St N)=some (.inr y)):
  ∀ n k,k+n=N->ct f (St k)=some (if (List.range' k n).all c=true then y else e)
 | 0,k,hk=>by
  rw[show k=N from by omega,dm hN];rfl
 | n+1,k,hk=>by
  have fB:=h k (by omega)
  rw[List.range'_succ,List.all_cons]
  cases hc:c k with
  | false=>rw[hc] at fB;rw[dm fB];rfl
  | true=>
   rw[hc] at fB;rw[iI fB,NU St c e y N h hN n (k+1) (by omega)];rfl
def Ok{X:Type}(x:Option X)(Q:X->Prop):Prop:=∃ y,x=some y/\Q y
theorem Ok.mono{X:Type}{x:Option X}{Q R:X->Prop}(h:Ok x Q)(hq:∀ y,Q y->R y):Ok x R:=by
 obtain⟨y,h1,h2⟩:=h;exact⟨y,h1,hq y h2⟩
theorem Ok.some{X:Type}{y:X}{Q:X->Prop}(h:Q y):Ok (some y) Q:=⟨y,rfl,h⟩
theorem Ok.aj{X:Type}{p:Prop}{x:Option X}{Q:X->Prop}(hp:p)(h:Ok x Q):Ok (aj p x) Q:=by
 rw[aC hp];exact h
theorem Ok.jZ{X:Type}{p:Prop}{x:Option X}{Q:X->Prop}(h:Ok x Q):Ok (Go.Tr.aj (p->p) x) Q:=by
 rw[aC fun h=>h];exact h
theorem Ok.lt{α X:Type}{v:α}{f:α->Option X}{Q:X->Prop}(h:∀ x,x=v->Ok (f x) Q):Ok (ab v f) Q:=h v rfl
theorem Ok.ay{X:Type}{b:Bool}{x y:Option X}{Q:X->Prop}(h1:b=true->Ok x Q)(h2:b=false->Ok y Q):Ok (ay b x y) Q:=by
 cases b with
 | true=>exact h1 rfl
 | false=>exact h2 rfl
theorem Ok.ao{Y X:Type}{y:Option Y}{f:Y->Option X}{R:Y->Prop}{Q:X->Prop}(h:Ok y R)(h2:∀ z,R z->Ok (f z) Q):Ok (ao y f) Q:=by
 obtain⟨z,rfl,hz⟩:=h;exact h2 z hz
theorem Ok.bU{Y X:Type}{c:Bool}{y:Option Y}{d:Y}{f:Y->Option X}{R:Y->Prop}{Q:X->Prop}(h:c=true->Ok y R)(h2:∀ z,(c=true->R z)->Ok (f z) Q):Ok (bU c y d f) Q:=by
 unfold Go.Tr.bU
 refine Ok.aj (fun hc=>?_) (h2 _ fun hc=>?_)
 ·obtain⟨z,rfl,hz⟩:=h hc;rfl
 ·obtain⟨z,rfl,hz⟩:=h hc;exact hz
theorem Ok.loop{S Y:Type}{f:S->Option (S⊕Y)}{Q:Y->Prop}(I:S->Prop)(μ:S->Nat){s:S}(hs:I s)
  (h:∀ s,I s->Ok (f s) fun r=>match r with
   | .inl s'=>I s'/\μ s' < μ s
   | .inr y=>Q y):Ok (ct f s) Q:=by
 suffices H:∀ n s,μ s<n->I s->Ok (ct f s) Q from H _ s (Nat.lt_succ_self _) hs
 intro n
 induction n with
 | zero=>intro s hn;omega
 | succ n ih=>
  intro s hn hI
  obtain⟨r,hr,hq⟩:=h s hI
  cases r with
  | inl s'=>rw[iI hr];exact ih s' (by have:=hq.2;omega) hq.1
  | inr y=>exact⟨y,dm hr,hq⟩
@[simp] theorem kj(n:Nat):room 1 n ↔ n*1<=140737488355328:=Iff.rfl
set_option linter.unusedVariables false
theorem bA{n:Int}(h0:-9223372036854775808<=n)(h1:n<=9223372036854775807):IntKind.i64.wrap n=n:=by rw[qS];omega
theorem zpL{n:Int}(h0:0<=n)(h1:n<=18446744073709551615):IntKind.u64.wrap n=n:=by rw[zoG];omega
theorem qY{n:Int}(h0:0<=n)(h1:n<=4294967295):IntKind.u32.wrap n=n:=by rw[zoF];omega
theorem wu8{n:Int}(h0:0<=n)(h1:n<=255):IntKind.u8.wrap n=n:=by rw[od];omega
theorem SU{k:IntKind}{a:Int}(n:Nat)(h:n<=k.bits):rZ k a (n:Int)=a / 2 ^ n:=by
 unfold rZ
 rw[Int.toNat_natCast,Nat.min_eq_left h,Int.fdiv_eq_ediv_of_nonneg _ (by exact_mod_cast Nat.zero_le (2 ^ n))]
theorem NV{k:IntKind}{a:Int}(n:Nat)(h:n<=k.bits):we k a (n:Int)=k.wrap (a*2 ^ n):=by
 unfold we
 rw[Int.toNat_natCast,Nat.min_eq_left h]
theorem IA{k:IntKind}{a m:Int}(j:Nat)(h:0<=a)(hm:m=2 ^ j-1)(hj:j<=k.bits):lr k a m=a % 2 ^ j:=by
 unfold lr;exact Sb j h hm hj
theorem ED{b n:Nat}:(BitVec.ofInt b (n:Int)).toNat=n % 2 ^ b:=by
 rw[BitVec.ofInt_natCast,BitVec.toNat_ofNat]
theorem zpM{k:IntKind}{a b:Int}(j:Nat)(ha:0<=a)(hb:0<=b)(tH:b<2 ^ j)(hd:a % 2 ^ j=0)(h1:a+b<2 ^ k.bits):wb k a b=a+b:=by
 obtain⟨n,rfl⟩:=Int.eq_ofNat_of_zero_le ha
 obtain⟨m,rfl⟩:=Int.eq_ofNat_of_zero_le hb
 unfold wb
 rw[BitVec.toNat_or,ED,ED]
 have hm:m<2 ^ j:=by exact_mod_cast tH
 have hn:n % 2 ^ j=0:=by exact_mod_cast hd
 have hs:n+m<2 ^ k.bits:=by exact_mod_cast h1
 rw[Nat.mod_eq_of_lt (by omega:n<2 ^ k.bits),Nat.mod_eq_of_lt (by omega:m<2 ^ k.bits)]
 obtain⟨q,rfl⟩:=Nat.dvd_of_mod_eq_zero hn
 rw[<-Nat.two_pow_add_eq_or_of_lt hm q]
 rfl
theorem zpN{w j a:Nat}(hj:j<=w)(ha:a<2 ^ w):a &&& (2 ^ w-2 ^ j)=2 ^ j*(a / 2 ^ j):=by
 apply Nat.eq_of_testBit_eq
 intro i
 have hp:0<2 ^ j:=Nat.two_pow_pos j
 have hle:2 ^ j<=2 ^ w:=Nat.pow_le_pow_right (by omega) hj
 have e:2 ^ w-2 ^ j=2 ^ w-((2 ^ j-1)+1):=by omega
 rw[Nat.testBit_and,e,Nat.testBit_two_pow_sub_succ (by omega),Nat.testBit_two_pow_sub_one,Nat.testBit_two_pow_mul,Nat.testBit_div_two_pow]
 by_cases h:j<=i
 ·rw[show i-j+j=i from by omega]
  by_cases hi:i<w
  ·simp[h,hi,Nat.not_lt.2 h]
  ·have:a.testBit i=false:=Nat.testBit_lt_two_pow (Nat.lt_of_lt_of_le ha (Nat.pow_le_pow_right (by omega) (by omega)))
   simp[this]
 ·simp[h,Nat.lt_of_not_le h]
theorem zpO{k:IntKind}{a m:Int}(j:Nat)(h:0<=a)(ha:a<2 ^ k.bits)(hm:m=2 ^ k.bits-2 ^ j)(hj:j<=k.bits):lr k a m=a-a % 2 ^ j:=by
 obtain⟨n,rfl⟩:=Int.eq_ofNat_of_zero_le h
 have hn:n<2 ^ k.bits:=by exact_mod_cast ha
 have hle:2 ^ j<=2 ^ k.bits:=Nat.pow_le_pow_right (by omega) hj
 have hp:0<2 ^ j:=Nat.two_pow_pos j
 have e:m=((2 ^ k.bits-2 ^ j:Nat):Int):=by rw[hm,Int.natCast_sub hle];simp
 unfold lr
 rw[e,BitVec.toNat_and,ED,ED,Nat.mod_eq_of_lt hn,Nat.mod_eq_of_lt (by omega:2 ^ k.bits-2 ^ j<2 ^ k.bits),zpN hj hn]
 have h2:((2 ^ j:Nat):Int)=(2:Int) ^ j:=by simp
 have h1:=Nat.div_add_mod n (2 ^ j)
 rw[<-h2]
 have:((2 ^ j*(n / 2 ^ j):Nat):Int)+((n % 2 ^ j:Nat):Int)=(n:Int):=by exact_mod_cast h1
 have e3:((n % 2 ^ j:Nat):Int)=(n:Int) % ((2 ^ j:Nat):Int):=by simp
 rw[e3] at this
 omega
theorem zpP{k:IntKind}{a m:Int}(j:Nat)(h:0<=a)(hm:m=2 ^ k.bits-2 ^ j)(hj:j<=k.bits):Mm k a m=a % 2 ^ j:=by
 have hle:2 ^ j<=2 ^ k.bits:=Nat.pow_le_pow_right (by omega) hj
 have hp:0<2 ^ j:=Nat.two_pow_pos j
 have e:m=((2 ^ k.bits-2 ^ j:Nat):Int):=by rw[hm,Int.natCast_sub hle];simp
 have hn: ~~~ BitVec.ofInt k.bits m=BitVec.ofInt k.bits (2 ^ j-1):=by
  have e2:((2:Int) ^ j-1)=((2 ^ j-1:Nat):Int):=by rw[Int.natCast_sub Nat.one_le_two_pow];simp
  apply BitVec.eq_of_toNat_eq
  rw[e2,e,BitVec.toNat_not,ED,ED,Nat.mod_eq_of_lt (by omega:2 ^ k.bits-2 ^ j<2 ^ k.bits),Nat.mod_eq_of_lt (by omega:2 ^ j-1<2 ^ k.bits)]
  omega
 unfold Mm
 rw[hn]
 exact Sb j h rfl hj
end Go.Tr
namespace Go.Tr
abbrev q4 {A0 A1 A2 A3 A4 : Type} (y : A0 × A1 × A2 × A3 × A4) : A4 := y.2.2.2.2
abbrev q8 {A0 A1 A2 A3 A4 A5 A6 A7 A8 : Type} (y : A0 × A1 × A2 × A3 × A4 × A5 × A6 × A7 × A8) : A8 := y.2.2.2.2.2.2.2.2
abbrev ax {A0 A1 A2 A3 A4 A5 A6 A7 A8 A9 me mf lE : Type} (y : A0 × A1 × A2 × A3 × A4 × A5 × A6 × A7 × A8 × A9 × me × mf × lE) : lE := y.2.2.2.2.2.2.2.2.2.2.2.2
abbrev aA {A0 A1 A2 A3 A4 A5 A6 A7 A8 A9 me mf lE nG nH nI mP : Type} (y : A0 × A1 × A2 × A3 × A4 × A5 × A6 × A7 × A8 × A9 × me × mf × lE × nG × nH × nI × mP) : mP := y.2.2.2.2.2.2.2.2.2.2.2.2.2.2.2.2
abbrev aG {A0 A1 A2 A3 A4 A5 A6 A7 A8 A9 me mf lE nG nH nI mP pj pk po om : Type} (y : A0 × A1 × A2 × A3 × A4 × A5 × A6 × A7 × A8 × A9 × me × mf × lE × nG × nH × nI × mP × pj × pk × po × om) : om := y.2.2.2.2.2.2.2.2.2.2.2.2.2.2.2.2.2.2.2.2
abbrev aJ {A0 A1 A2 A3 A4 A5 A6 A7 A8 A9 me mf lE nG nH nI mP pj pk po om qZ q6 q7 qh : Type} (y : A0 × A1 × A2 × A3 × A4 × A5 × A6 × A7 × A8 × A9 × me × mf × lE × nG × nH × nI × mP × pj × pk × po × om × qZ × q6 × q7 × qh) : qh := y.2.2.2.2.2.2.2.2.2.2.2.2.2.2.2.2.2.2.2.2.2.2.2.2
abbrev eD {A0 A1 A2 A3 A4 A5 A6 A7 A8 A9 me mf lE nG nH nI mP pj pk po om qZ q6 q7 qh uc ud ue sI : Type} (y : A0 × A1 × A2 × A3 × A4 × A5 × A6 × A7 × A8 × A9 × me × mf × lE × nG × nH × nI × mP × pj × pk × po × om × qZ × q6 × q7 × qh × uc × ud × ue × sI) : sI := y.2.2.2.2.2.2.2.2.2.2.2.2.2.2.2.2.2.2.2.2.2.2.2.2.2.2.2.2
abbrev nJ {A0 A1 A2 A3 A4 A5 A6 A7 A8 A9 me mf lE nG nH nI mP pj pk po om qZ q6 q7 qh uc ud ue sI w0 xa xb vx : Type} (y : A0 × A1 × A2 × A3 × A4 × A5 × A6 × A7 × A8 × A9 × me × mf × lE × nG × nH × nI × mP × pj × pk × po × om × qZ × q6 × q7 × qh × uc × ud × ue × sI × w0 × xa × xb × vx) : vx := y.2.2.2.2.2.2.2.2.2.2.2.2.2.2.2.2.2.2.2.2.2.2.2.2.2.2.2.2.2.2.2.2
abbrev oq {A0 A1 A2 A3 A4 A5 A6 A7 A8 A9 me mf lE nG nH nI mP pj pk po om qZ q6 q7 qh uc ud ue sI w0 xa xb vx Bs Bt Bu yM : Type} (y : A0 × A1 × A2 × A3 × A4 × A5 × A6 × A7 × A8 × A9 × me × mf × lE × nG × nH × nI × mP × pj × pk × po × om × qZ × q6 × q7 × qh × uc × ud × ue × sI × w0 × xa × xb × vx × Bs × Bt × Bu × yM) : yM := y.2.2.2.2.2.2.2.2.2.2.2.2.2.2.2.2.2.2.2.2.2.2.2.2.2.2.2.2.2.2.2.2.2.2.2.2
abbrev q9 {A0 A1 A2 A3 A4 A5 A6 A7 A8 A9 me mf lE nG nH nI mP pj pk po om qZ q6 q7 qh uc ud ue sI w0 xa xb vx Bs Bt Bu yM IB IC ID EE : Type} (y : A0 × A1 × A2 × A3 × A4 × A5 × A6 × A7 × A8 × A9 × me × mf × lE × nG × nH × nI × mP × pj × pk × po × om × qZ × q6 × q7 × qh × uc × ud × ue × sI × w0 × xa × xb × vx × Bs × Bt × Bu × yM × IB × IC × ID × EE) : EE := y.2.2.2.2.2.2.2.2.2.2.2.2.2.2.2.2.2.2.2.2.2.2.2.2.2.2.2.2.2.2.2.2.2.2.2.2.2.2.2.2
abbrev yN {A0 A1 A2 A3 A4 A5 A6 A7 A8 A9 me mf lE nG nH nI mP pj pk po om qZ q6 q7 qh uc ud ue sI w0 xa xb vx Bs Bt Bu yM IB IC ID EE SV SX SY NW : Type} (y : A0 × A1 × A2 × A3 × A4 × A5 × A6 × A7 × A8 × A9 × me × mf × lE × nG × nH × nI × mP × pj × pk × po × om × qZ × q6 × q7 × qh × uc × ud × ue × sI × w0 × xa × xb × vx × Bs × Bt × Bu × yM × IB × IC × ID × EE × SV × SX × SY × NW) : NW := y.2.2.2.2.2.2.2.2.2.2.2.2.2.2.2.2.2.2.2.2.2.2.2.2.2.2.2.2.2.2.2.2.2.2.2.2.2.2.2.2.2.2.2.2
abbrev q48 {A0 A1 A2 A3 A4 A5 A6 A7 A8 A9 me mf lE nG nH nI mP pj pk po om qZ q6 q7 qh uc ud ue sI w0 xa xb vx Bs Bt Bu yM IB IC ID EE SV SX SY NW A45 A46 A47 A48 : Type} (y : A0 × A1 × A2 × A3 × A4 × A5 × A6 × A7 × A8 × A9 × me × mf × lE × nG × nH × nI × mP × pj × pk × po × om × qZ × q6 × q7 × qh × uc × ud × ue × sI × w0 × xa × xb × vx × Bs × Bt × Bu × yM × IB × IC × ID × EE × SV × SX × SY × NW × A45 × A46 × A47 × A48) : A48 := y.2.2.2.2.2.2.2.2.2.2.2.2.2.2.2.2.2.2.2.2.2.2.2.2.2.2.2.2.2.2.2.2.2.2.2.2.2.2.2.2.2.2.2.2.2.2.2.2
noncomputable abbrev ck {X : Type} (b : Bool) (x : Option X) : Option X := aj (b = true → b = true) x
noncomputable abbrev cn {X : Type} (b : Bool) (x : Option X) : Option X := aj (b = false → (!b) = true) x
abbrev cH:Type:=Int×Int×Int×Int×Int×Int
abbrev aX:Type:=Int×List UInt8×cH
abbrev cw:Type:=Int×aX×(Int×Int)×Int×cH×Int
abbrev aL:Type:=Int×cH×Int
abbrev ep:Type:=Int×List aL
abbrev cD:Type:=Int×Int×Int×Int
abbrev aM:Type:=Int×Int×Int×Int×Int
abbrev aH:Type:=(Int×Int)×Int×Int
abbrev bj:Type:=Int×Int×List aX×List aH×List ep×List aM×List cD
abbrev bD:Type:=Int×Int×Int×Int×Int×Int×Int×Int×Int
@[reducible] def cJ:cH:=(0,0,0,0,0,0)
@[reducible] def fC:aX:=(0,[],0,0,0,0,0,0)
@[reducible] def jh:cw:=(0,(0,[],0,0,0,0,0,0),(0,0),0,(0,0,0,0,0,0),0)
@[reducible] def ko:aL:=(0,(0,0,0,0,0,0),0)
@[reducible] def zpU:aM:=(0,0,0,0,0)
@[reducible] def ff:cD:=(0,0,0,0)
@[reducible] def c8:aH:=((0,0),0,0)
abbrev kq:Sh:=.pair (.int .u32) (.int .i64)
abbrev EF:Sh:=.pair (.int .u8) (.pair (.int .u8) (.pair (.int .u8) (.pair (.int .u8) (.pair (.int .u8) (.int .u8)))))
abbrev qi:Sh:=.pair (.int .u32) (.pair (.int .i64) (.pair (.int .i64) (.int .i64)))
abbrev iU:Sh:=.pair (.int .u32) (.pair (.int .i64) (.pair (.int .i64) (.pair (.int .i64) (.int .i64))))
abbrev mg:Sh:=.pair kq (.pair (.int .i64) (.int .i64))
abbrev sJ:Sh:=.pair (.int .i64) (.pair EF (.int .i64))
abbrev nK:Sh:=.pair (.int .u32) (.pair .str EF)
abbrev uf:Sh:=.pair (.int .u32) (.sl sJ)
abbrev kV:Sh:=.pair .bool (.pair (.int .u32) (.pair (.int .u32) (.pair EF (.pair (.int .i64) (.int .i64)))))
abbrev Bv:Sh:=.pair (.int .i64) (.pair (.int .i64) (.pair (.int .i64) (.pair (.int .i64) (.pair (.int .i64) (.pair (.int .i64) (.pair (.int .i64) (.pair (.int .i64) (.int .i64))))))))
abbrev nL:Sh:=.pair (.int .i64) (.pair nK (.pair kq sJ))
abbrev Bw:Sh:=.pair (.int .i64) (.pair (.int .i64) (.pair (.sl nK) (.pair (.sl mg) (.pair (.sl uf) (.pair (.sl iU) (.sl qi))))))
set_option linter.unusedVariables false
noncomputable def clone{α:Type}(k:Nat)(xs:List α):Option (List α×Unit):=aj (xs.length*k<=140737488355328) (some (xs,()))
def mQ{α:Type}(cmp:α->α->Option (Int×Unit))(x y:α):Bool:=
 match cmp x y with
 | some (c,_)=>decide (c<0)
 | none=>false
def zpV{α:Type}(lt:α->α->Bool)(xs:List α):Prop:=
 (∀ x∈xs,lt x x=false)/\(∀ x∈xs,∀ y∈xs,∀ z∈xs,lt x y=true->lt y z=true->lt x z=true)/\
 (∀ x∈xs,∀ y∈xs,∀ z∈xs,lt x y=false->lt y z=false->lt x z=false)/\(∀ x∈xs,∀ y∈xs,lt x y=false->lt y x=false->x=y)
noncomputable def SZ{α:Type}(cmp:α->α->Option (Int×Unit))(xs:List α):Option (List α×Unit):=
 aj (1<=xs.length/\xs.length<4611686018427387904/\zpV (mQ cmp) xs) (some (xs.mergeSort (fun x y=>!mQ cmp y x),()))
noncomputable def EG{α:Type}(xs:List α)(i j:Int):Option (List α×Unit):=
 aj (0<=i/\i<j/\j<=xs.length/\xs.length<=9223372036854775807) (some (xs.take i.toNat++xs.drop j.toNat,()))
end Go.Tr
